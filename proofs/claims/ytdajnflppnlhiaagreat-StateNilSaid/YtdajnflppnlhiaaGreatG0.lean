import Derived.Test.YtdajnflppnlhiaaGreatProg
import Derived.Test.YtdajnflppnlhiaaGreatGD
set_option linter.unusedVariables false
set_option linter.unusedSimpArgs false
set_option maxRecDepth 10000
set_option maxHeartbeats 4000000
namespace GW
open Go Go.RowKit Go.Proofs
noncomputable section
abbrev smithylaw14_do_0nil_2o.Ty : Type := ST37 → (List (List Int)) → W25 → Option W23
def smithylaw14_do_0nil_2o.Ctr (s : smithylaw14_do_0nil_2o.Ty) : Prop := ∀ (x1 : ST37) (x2 : List (List Int)) (x3 : W25) (ch_1_0 : (Option Addr × Nat) × (Option Addr × Nat) × (Option Addr × Nat) × (Option Addr × Nat) × Unit × (Option Addr × Nat) × Unit × (Option Addr × Nat)) (ch_2_0 : Option Addr) (ch_2_1 : Nat) (ch_2_2 : Nat) (ch_3_0 : Option Addr) (ch_3_1 : Nat) (r : W23) (h0 : s x1 x2 x3 = some r) (mi : Mem) (w0 : World), okL mi [(.v (.pointer none)), (.agg [.sl ch_1_0.1.1 ((ST37.un x1).1).length ch_1_0.1.2 (RdS Y71 ch_1_0.1.1 ((ST37.un x1).1)), .sl ch_1_0.2.1.1 ((ST37.un x1).2.1).length ch_1_0.2.1.2 (RdS Y122 ch_1_0.2.1.1 ((ST37.un x1).2.1)), .sl ch_1_0.2.2.1.1 ((ST37.un x1).2.2.1).length ch_1_0.2.2.1.2 (RdS (Ty.arr .u8 20) ch_1_0.2.2.1.1 ((ST37.un x1).2.2.1)), .sl ch_1_0.2.2.2.1.1 ((ST37.un x1).2.2.2.1).length ch_1_0.2.2.2.1.2 (RdS Y133 ch_1_0.2.2.2.1.1 ((ST37.un x1).2.2.2.1)), .one (.int .i64 ((ST37.un x1).2.2.2.2.1)), .sl ch_1_0.2.2.2.2.2.1.1 ((ST37.un x1).2.2.2.2.2.1).length ch_1_0.2.2.2.2.2.1.2 (RdS Y100 ch_1_0.2.2.2.2.2.1.1 ((ST37.un x1).2.2.2.2.2.1)), .one (.bool ((ST37.un x1).2.2.2.2.2.2.1)), .sl ch_1_0.2.2.2.2.2.2.2.1 ((ST37.un x1).2.2.2.2.2.2.2).length ch_1_0.2.2.2.2.2.2.2.2 (SR37 ch_1_0.2.2.2.2.2.2.2.1 ((ST37.un x1).2.2.2.2.2.2.2))]), (.v (.slice ch_2_0 ch_2_1 ch_2_2)), (.agg (Y46.segs x3 ((), (), (), (), (), (ch_3_0, ch_3_1))))] → Pre mi [Res.row (Ty.arr .i64 2) 103 ch_2_0 ch_2_1 ch_2_2 x2] w0 → Calls Tryz.prog 12 (([(.v (.pointer none)), (.agg [.sl ch_1_0.1.1 ((ST37.un x1).1).length ch_1_0.1.2 (RdS Y71 ch_1_0.1.1 ((ST37.un x1).1)), .sl ch_1_0.2.1.1 ((ST37.un x1).2.1).length ch_1_0.2.1.2 (RdS Y122 ch_1_0.2.1.1 ((ST37.un x1).2.1)), .sl ch_1_0.2.2.1.1 ((ST37.un x1).2.2.1).length ch_1_0.2.2.1.2 (RdS (Ty.arr .u8 20) ch_1_0.2.2.1.1 ((ST37.un x1).2.2.1)), .sl ch_1_0.2.2.2.1.1 ((ST37.un x1).2.2.2.1).length ch_1_0.2.2.2.1.2 (RdS Y133 ch_1_0.2.2.2.1.1 ((ST37.un x1).2.2.2.1)), .one (.int .i64 ((ST37.un x1).2.2.2.2.1)), .sl ch_1_0.2.2.2.2.2.1.1 ((ST37.un x1).2.2.2.2.2.1).length ch_1_0.2.2.2.2.2.1.2 (RdS Y100 ch_1_0.2.2.2.2.2.1.1 ((ST37.un x1).2.2.2.2.2.1)), .one (.bool ((ST37.un x1).2.2.2.2.2.2.1)), .sl ch_1_0.2.2.2.2.2.2.2.1 ((ST37.un x1).2.2.2.2.2.2.2).length ch_1_0.2.2.2.2.2.2.2.2 (SR37 ch_1_0.2.2.2.2.2.2.2.1 ((ST37.un x1).2.2.2.2.2.2.2))]), (.v (.slice ch_2_0 ch_2_1 ch_2_2)), (.agg (Y46.segs x3 ((), (), (), (), (), (ch_3_0, ch_3_1))))] : List D).map D.val).toArray w0 (RetX mi [Res.row (Ty.arr .i64 2) 103 ch_2_0 ch_2_1 ch_2_2 x2] (fun (ch : W24) => ((.tup [(false, [.one (.bool r.1)]), (true, [.sl ch.1.1.1 ((ST37.un r.2.1).1).length ch.1.1.2 (RdS Y71 ch.1.1.1 ((ST37.un r.2.1).1)), .sl ch.1.2.1.1 ((ST37.un r.2.1).2.1).length ch.1.2.1.2 (RdS Y122 ch.1.2.1.1 ((ST37.un r.2.1).2.1)), .sl ch.1.2.2.1.1 ((ST37.un r.2.1).2.2.1).length ch.1.2.2.1.2 (RdS (Ty.arr .u8 20) ch.1.2.2.1.1 ((ST37.un r.2.1).2.2.1)), .sl ch.1.2.2.2.1.1 ((ST37.un r.2.1).2.2.2.1).length ch.1.2.2.2.1.2 (RdS Y133 ch.1.2.2.2.1.1 ((ST37.un r.2.1).2.2.2.1)), .one (.int .i64 ((ST37.un r.2.1).2.2.2.2.1)), .sl ch.1.2.2.2.2.2.1.1 ((ST37.un r.2.1).2.2.2.2.2.1).length ch.1.2.2.2.2.2.1.2 (RdS Y100 ch.1.2.2.2.2.2.1.1 ((ST37.un r.2.1).2.2.2.2.2.1)), .one (.bool ((ST37.un r.2.1).2.2.2.2.2.2.1)), .sl ch.1.2.2.2.2.2.2.2.1 ((ST37.un r.2.1).2.2.2.2.2.2.2).length ch.1.2.2.2.2.2.2.2.2 (SR37 ch.1.2.2.2.2.2.2.2.1 ((ST37.un r.2.1).2.2.2.2.2.2.2))]), (false, [.one (.slice ch.2.1 ch.2.2.1 ch.2.2.2)])]) : D)) (fun (ch : W24) => [Res.row (Ty.arr .i64 2) 103 ch.2.1 ch.2.2.1 ch.2.2.2 r.2.2]) w0)
def smithylaw14_do_0nil_2o.j1 (y1 : Bool) (y2 : List (List Int)) (y3 : List L71) (y4 : List (L71 × Bool × Bool)) (y5 : List (List Int)) (y6 : W7) (y7 : Int) (y8 : List L100) (y9 : Bool) (y10 : List ST37) : Option W23 := some (y1, (ST37.mk (y3, y4, y5, y6, y7, y8, y9, y10)), y2)
def smithylaw14_do_0nil_2o.f (k : Nat) (x1 : ST37) (x2 : List (List Int)) (x3 : W25) : Option W23 := if (x3.1 == 0) = true then ((state_State_SetNonce_0nil.f x3.2.1 x3.2.2.2.2.1).bind fun t1 => ((smithyref14_State_SetNonce.f k x1 x3.2.1 x3.2.2.2.2.1).bind fun t2 => (smithylaw14_do_0nil_2o.j1 true x2 ((ST37.un t2).1) ((ST37.un t2).2.1) ((ST37.un t2).2.2.1) ((ST37.un t2).2.2.2.1) ((ST37.un t2).2.2.2.2.1) ((ST37.un t2).2.2.2.2.2.1) ((ST37.un t2).2.2.2.2.2.2.1) ((ST37.un t2).2.2.2.2.2.2.2)))) else (if (x3.1 == 1) = true then ((state_State_SetBalance_0nil.f x3.2.1 x3.2.2.2.1).bind fun t3 => ((smithyref14_State_SetBalance.f k x1 x3.2.1 x3.2.2.2.1).bind fun t4 => (smithylaw14_do_0nil_2o.j1 true x2 ((ST37.un t4).1) ((ST37.un t4).2.1) ((ST37.un t4).2.2.1) ((ST37.un t4).2.2.2.1) ((ST37.un t4).2.2.2.2.1) ((ST37.un t4).2.2.2.2.2.1) ((ST37.un t4).2.2.2.2.2.2.1) ((ST37.un t4).2.2.2.2.2.2.2)))) else (if (x3.1 == 2) = true then ((state_State_SetCode_0nil.f x3.2.1 x3.2.2.2.2.2).bind fun t5 => ((smithyref14_State_SetCode.f k x1 x3.2.1 x3.2.2.2.2.2).bind fun t6 => (smithylaw14_do_0nil_2o.j1 true x2 ((ST37.un t6).1) ((ST37.un t6).2.1) ((ST37.un t6).2.2.1) ((ST37.un t6).2.2.2.1) ((ST37.un t6).2.2.2.2.1) ((ST37.un t6).2.2.2.2.2.1) ((ST37.un t6).2.2.2.2.2.2.1) ((ST37.un t6).2.2.2.2.2.2.2)))) else (if (x3.1 == 3) = true then ((state_State_Make_0nil.f x3.2.1).bind fun t7 => ((smithyref14_State_Make.f k x1 x3.2.1).bind fun t8 => (smithylaw14_do_0nil_2o.j1 true x2 ((ST37.un t8).1) ((ST37.un t8).2.1) ((ST37.un t8).2.2.1) ((ST37.un t8).2.2.2.1) ((ST37.un t8).2.2.2.2.1) ((ST37.un t8).2.2.2.2.2.1) ((ST37.un t8).2.2.2.2.2.2.1) ((ST37.un t8).2.2.2.2.2.2.2)))) else (if (x3.1 == 4) = true then ((state_State_Set_0nil.f x3.2.1 x3.2.2.1 x3.2.2.2.1).bind fun t9 => ((smithyref14_State_Set.f k x1 x3.2.1 x3.2.2.1 x3.2.2.2.1).bind fun t10 => (smithylaw14_do_0nil_2o.j1 true x2 ((ST37.un t10).1) ((ST37.un t10).2.1) ((ST37.un t10).2.2.1) ((ST37.un t10).2.2.2.1) ((ST37.un t10).2.2.2.2.1) ((ST37.un t10).2.2.2.2.2.1) ((ST37.un t10).2.2.2.2.2.2.1) ((ST37.un t10).2.2.2.2.2.2.2)))) else (if (x3.1 == 5) = true then ((smithyref14_State_Touch.f k x1 x3.2.1).bind fun t11 => ((state_State_Touch_0nil.f x3.2.1).bind fun t12 => (smithylaw14_do_0nil_2o.j1 (t12 == t11.1) x2 ((ST37.un t11.2).1) ((ST37.un t11.2).2.1) ((ST37.un t11.2).2.2.1) ((ST37.un t11.2).2.2.2.1) ((ST37.un t11.2).2.2.2.2.1) ((ST37.un t11.2).2.2.2.2.2.1) ((ST37.un t11.2).2.2.2.2.2.2.1) ((ST37.un t11.2).2.2.2.2.2.2.2)))) else (if (x3.1 == 6) = true then ((smithyref14_State_TouchSlot.f k x1 x3.2.1 x3.2.2.1).bind fun t13 => ((state_State_TouchSlot_0nil.f x3.2.1 x3.2.2.1).bind fun t14 => (smithylaw14_do_0nil_2o.j1 (t14 == t13.1) x2 ((ST37.un t13.2).1) ((ST37.un t13.2).2.1) ((ST37.un t13.2).2.2.1) ((ST37.un t13.2).2.2.2.1) ((ST37.un t13.2).2.2.2.2.1) ((ST37.un t13.2).2.2.2.2.2.1) ((ST37.un t13.2).2.2.2.2.2.2.1) ((ST37.un t13.2).2.2.2.2.2.2.2)))) else (if (x3.1 == 7) = true then ((state_State_Add_0nil.f (wr .i64 x3.2.2.2.2.1)).bind fun t15 => ((smithyref14_State_Add.f x1 (wr .i64 x3.2.2.2.2.1)).bind fun t16 => (smithylaw14_do_0nil_2o.j1 true x2 ((ST37.un t16).1) ((ST37.un t16).2.1) ((ST37.un t16).2.2.1) ((ST37.un t16).2.2.2.1) ((ST37.un t16).2.2.2.2.1) ((ST37.un t16).2.2.2.2.2.1) ((ST37.un t16).2.2.2.2.2.2.1) ((ST37.un t16).2.2.2.2.2.2.2)))) else (if (x3.1 == 8) = true then ((state_State_Log_0nil.f (x3.2.1, [x3.2.2.1, x3.2.2.2.1], x3.2.2.2.2.2)).bind fun t17 => ((smithyref14_State_Log.f x1 (x3.2.1, [x3.2.2.1, x3.2.2.2.1], x3.2.2.2.2.2)).bind fun t18 => (smithylaw14_do_0nil_2o.j1 true x2 ((ST37.un t18).1) ((ST37.un t18).2.1) ((ST37.un t18).2.2.1) ((ST37.un t18).2.2.2.1) ((ST37.un t18).2.2.2.2.1) ((ST37.un t18).2.2.2.2.2.1) ((ST37.un t18).2.2.2.2.2.2.1) ((ST37.un t18).2.2.2.2.2.2.2)))) else (if (x3.1 == 9) = true then ((state_State_Destroy_0nil.f x3.2.1).bind fun t19 => ((smithyref14_State_Destroy.f k x1 x3.2.1).bind fun t20 => (smithylaw14_do_0nil_2o.j1 true x2 ((ST37.un t20).1) ((ST37.un t20).2.1) ((ST37.un t20).2.2.1) ((ST37.un t20).2.2.2.1) ((ST37.un t20).2.2.2.2.1) ((ST37.un t20).2.2.2.2.2.1) ((ST37.un t20).2.2.2.2.2.2.1) ((ST37.un t20).2.2.2.2.2.2.2)))) else (if (x3.1 == 10) = true then ((state_State_Mark_0nil.f).bind fun t21 => (if ((x2).length + ([[t21, (((ST37.un x1).2.2.2.2.2.2.2).length : Int)]]).length) * 16 ≤ 140737488355328 then (smithylaw14_do_0nil_2o.j1 true (x2 ++ [[t21, (((ST37.un x1).2.2.2.2.2.2.2).length : Int)]]) ((ST37.un x1).1) ((ST37.un x1).2.1) ((ST37.un x1).2.2.1) ((ST37.un x1).2.2.2.1) ((ST37.un x1).2.2.2.2.1) ((ST37.un x1).2.2.2.2.2.1) ((ST37.un x1).2.2.2.2.2.2.1) ((ST37.un x1).2.2.2.2.2.2.2)) else none)) else (if (decide (0 < ((x2).length : Int))) = true then (if (wr .u64 ((x2).length : Int)) ≠ 0 then (if (0 : Int) ≤ (wr .i64 (Int.tmod x3.2.2.2.2.1 (wr .u64 ((x2).length : Int)))) ∧ (wr .i64 (Int.tmod x3.2.2.2.2.1 (wr .u64 ((x2).length : Int)))) < ((x2).length : Int) then ((state_State_Back_0nil.f k (rd (gt x2 (wr .i64 (Int.tmod x3.2.2.2.2.1 (wr .u64 ((x2).length : Int))))) 0)).bind fun t22 => ((smithyref14_State_Back.f x1 (rd (gt x2 (wr .i64 (Int.tmod x3.2.2.2.2.1 (wr .u64 ((x2).length : Int))))) 1)).bind fun t23 => (if (0 : Int) ≤ (wr .i64 ((wr .i64 (Int.tmod x3.2.2.2.2.1 (wr .u64 ((x2).length : Int)))) + 1)) ∧ (wr .i64 ((wr .i64 (Int.tmod x3.2.2.2.2.1 (wr .u64 ((x2).length : Int)))) + 1)) ≤ ((x2).length : Int) then (smithylaw14_do_0nil_2o.j1 true (x2.take (Int.toNat (wr .i64 ((wr .i64 (Int.tmod x3.2.2.2.2.1 (wr .u64 ((x2).length : Int)))) + 1)))) ((ST37.un t23).1) ((ST37.un t23).2.1) ((ST37.un t23).2.2.1) ((ST37.un t23).2.2.2.1) ((ST37.un t23).2.2.2.2.1) ((ST37.un t23).2.2.2.2.2.1) ((ST37.un t23).2.2.2.2.2.2.1) ((ST37.un t23).2.2.2.2.2.2.2)) else none))) else none) else none) else (smithylaw14_do_0nil_2o.j1 true x2 ((ST37.un x1).1) ((ST37.un x1).2.1) ((ST37.un x1).2.2.1) ((ST37.un x1).2.2.2.1) ((ST37.un x1).2.2.2.2.1) ((ST37.un x1).2.2.2.2.2.1) ((ST37.un x1).2.2.2.2.2.2.1) ((ST37.un x1).2.2.2.2.2.2.2)))))))))))))
theorem smithylaw14_do_0nil_2o.ok (k : Nat) : smithylaw14_do_0nil_2o.Ctr (smithylaw14_do_0nil_2o.f k) := by
 intro x1 x2 x3 ch_1_0 ch_2_0 ch_2_1 ch_2_2 ch_3_0 ch_3_1 r h0 mi w0 ok hm
 delta smithylaw14_do_0nil_2o.f at h0
 refine c_enterX (n := 205) [(.v (.pointer none)), (.agg [.sl ch_1_0.1.1 ((ST37.un x1).1).length ch_1_0.1.2 (RdS Y71 ch_1_0.1.1 ((ST37.un x1).1)), .sl ch_1_0.2.1.1 ((ST37.un x1).2.1).length ch_1_0.2.1.2 (RdS Y122 ch_1_0.2.1.1 ((ST37.un x1).2.1)), .sl ch_1_0.2.2.1.1 ((ST37.un x1).2.2.1).length ch_1_0.2.2.1.2 (RdS (Ty.arr .u8 20) ch_1_0.2.2.1.1 ((ST37.un x1).2.2.1)), .sl ch_1_0.2.2.2.1.1 ((ST37.un x1).2.2.2.1).length ch_1_0.2.2.2.1.2 (RdS Y133 ch_1_0.2.2.2.1.1 ((ST37.un x1).2.2.2.1)), .one (.int .i64 ((ST37.un x1).2.2.2.2.1)), .sl ch_1_0.2.2.2.2.2.1.1 ((ST37.un x1).2.2.2.2.2.1).length ch_1_0.2.2.2.2.2.1.2 (RdS Y100 ch_1_0.2.2.2.2.2.1.1 ((ST37.un x1).2.2.2.2.2.1)), .one (.bool ((ST37.un x1).2.2.2.2.2.2.1)), .sl ch_1_0.2.2.2.2.2.2.2.1 ((ST37.un x1).2.2.2.2.2.2.2).length ch_1_0.2.2.2.2.2.2.2.2 (SR37 ch_1_0.2.2.2.2.2.2.2.1 ((ST37.un x1).2.2.2.2.2.2.2))]), (.v (.slice ch_2_0 ch_2_1 ch_2_2)), (.agg (Y46.segs x3 ((), (), (), (), (), (ch_3_0, ch_3_1))))] (l := [(0, (.v (.pointer none))), (1, (.agg [.sl ch_1_0.1.1 ((ST37.un x1).1).length ch_1_0.1.2 (RdS Y71 ch_1_0.1.1 ((ST37.un x1).1)), .sl ch_1_0.2.1.1 ((ST37.un x1).2.1).length ch_1_0.2.1.2 (RdS Y122 ch_1_0.2.1.1 ((ST37.un x1).2.1)), .sl ch_1_0.2.2.1.1 ((ST37.un x1).2.2.1).length ch_1_0.2.2.1.2 (RdS (Ty.arr .u8 20) ch_1_0.2.2.1.1 ((ST37.un x1).2.2.1)), .sl ch_1_0.2.2.2.1.1 ((ST37.un x1).2.2.2.1).length ch_1_0.2.2.2.1.2 (RdS Y133 ch_1_0.2.2.2.1.1 ((ST37.un x1).2.2.2.1)), .one (.int .i64 ((ST37.un x1).2.2.2.2.1)), .sl ch_1_0.2.2.2.2.2.1.1 ((ST37.un x1).2.2.2.2.2.1).length ch_1_0.2.2.2.2.2.1.2 (RdS Y100 ch_1_0.2.2.2.2.2.1.1 ((ST37.un x1).2.2.2.2.2.1)), .one (.bool ((ST37.un x1).2.2.2.2.2.2.1)), .sl ch_1_0.2.2.2.2.2.2.2.1 ((ST37.un x1).2.2.2.2.2.2.2).length ch_1_0.2.2.2.2.2.2.2.2 (SR37 ch_1_0.2.2.2.2.2.2.2.1 ((ST37.un x1).2.2.2.2.2.2.2))])), (2, (.v (.slice ch_2_0 ch_2_1 ch_2_2))), (3, (.agg (Y46.segs x3 ((), (), (), (), (), (ch_3_0, ch_3_1)))))]) Tryz.func12 rfl rfl rfl rfl ok hm ?_
 clear ok hm
 intro b0 hb a S
 refine c_region ?_
 refine s_box S rfl rfl rfl ?_; clear S a; intro g1 a w S
 refine s_box S rfl rfl rfl ?_; clear S a w; intro g2 a w S
 refine s_assign S rfl rfl ?_; clear S a; intro a S
 refine s_alloc S Z37 rfl ⟨rfl, rfl, rfl, rfl, rfl, rfl, rfl, rfl, trivial⟩ rfl ?_; clear S a w; intro g3 a w S
 refine s_assign S rfl rfl ?_; clear S a; intro a S
 refine c_end ?_
 refine c_region ?_
 refine s_assign S rfl rfl ?_; clear S a; intro a S
 refine c_end ?_
 refine wp_seq_k ?_
 intro K1 hK1
 have j1 : ∀ (m : Mem) (y1 : Bool) (g9 : Nat) (g10 : Nat) (A1 : Option Addr) (nn1 : Nat) (cp1 : Nat) (y2 : List (List Int)) (A2 : Option Addr) (cp2 : Nat) (y3 : List L71) (A3 : Option Addr) (cp3 : Nat) (y4 : List (L71 × Bool × Bool)) (A4 : Option Addr) (cp4 : Nat) (y5 : List (List Int)) (A5 : Option Addr) (cp5 : Nat) (y6 : List ((List Int) × (List Int))) (y7 : Int) (A6 : Option Addr) (cp6 : Nat) (y8 : List L100) (y9 : Bool) (A7 : Option Addr) (cp7 : Nat) (y10 : List ST37) (a : Act) (w : World), St 205 m b0 [(11, (.v (.bool y1))), (9, (.v (.pointer (some ⟨g9, 0, none⟩)))), (5, (.v (.pointer (some ⟨g10, 0, none⟩)))), (2, (.v (.slice A1 nn1 cp1)))] [Res.cells g9 37 [.one (.slice none 0 0), .one (.slice none 0 0), .one (.slice none 0 0), .one (.slice none 0 0), .one (.int .i64 0), .one (.slice none 0 0), .one (.bool false), .one (.slice none 0 0)], Res.cells g10 37 [.sl A2 (y3).length cp2 (RdS Y71 A2 y3), .sl A3 (y4).length cp3 (RdS Y122 A3 y4), .sl A4 (y5).length cp4 (RdS (Ty.arr .u8 20) A4 y5), .sl A5 (y6).length cp5 (RdS Y133 A5 y6), .one (.int .i64 y7), .sl A6 (y8).length cp6 (RdS Y100 A6 y8), .one (.bool y9), .sl A7 (y10).length cp7 (SR37 A7 y10)], Res.row (Ty.arr .i64 2) 103 A1 nn1 cp1 y2] a w → smithylaw14_do_0nil_2o.j1 y1 y2 y3 y4 y5 y6 y7 y8 y9 y10 = some r → K1 a w := by
  intro m y1 g9 g10 A1 nn1 cp1 y2 A2 cp2 y3 A3 cp3 y4 A4 cp4 y5 A5 cp5 y6 y7 A6 cp6 y8 y9 A7 cp7 y10 a w S h0
  delta smithylaw14_do_0nil_2o.j1 at h0
  refine hK1 a w ?_
  refine wp_seq (c_heldS S (.take 0 (.take 1 (.take 3 (.pure 2 (.alts (.run 4 false (.alts (.run 5 false .done .nil)) .nil)))))) 4 [Res.cells g9 37 [.one (.slice none 0 0), .one (.slice none 0 0), .one (.slice none 0 0), .one (.slice none 0 0), .one (.int .i64 0), .one (.slice none 0 0), .one (.bool false), .one (.slice none 0 0)], Res.cells g10 37 [.sl A2 (y3).length cp2 (RdS Y71 A2 y3), .sl A3 (y4).length cp3 (RdS Y122 A3 y4), .sl A4 (y5).length cp4 (RdS (Ty.arr .u8 20) A4 y5), .sl A5 (y6).length cp5 (RdS Y133 A5 y6), .one (.int .i64 y7), .sl A6 (y8).length cp6 (RdS Y100 A6 y8), .one (.bool y9), .sl A7 (y10).length cp7 (SR37 A7 y10)], Res.row (Ty.arr .i64 2) 103 A1 nn1 cp1 y2] (.cons .here (.cons .here (.cons .here .nil))) ⟨Res.stay_cells, Res.stay_cells, Res.stay_row flat_arr, trivial⟩ [(11, (.v (.bool y1))), (5, (.v (.pointer (some ⟨g10, 0, none⟩))))] (subR rfl) (by kernel_rfl) (by kernel_rfl) ?_); clear S; intro w S CL hw le
  refine h_move S CL hw le (subR rfl) rfl rfl rfl trivial ?_; clear S CL a; intro a S CL
  refine h_loada S CL hw le (subR rfl) rfl (.there .here) T37 (s' := [.sl A2 (y3).length cp2 (RdS Y71 A2 y3), .sl A3 (y4).length cp3 (RdS Y122 A3 y4), .sl A4 (y5).length cp4 (RdS (Ty.arr .u8 20) A4 y5), .sl A5 (y6).length cp5 (RdS Y133 A5 y6), .one (.int .i64 y7), .sl A6 (y8).length cp6 (RdS Y100 A6 y8), .one (.bool y9), .sl A7 (y10).length cp7 (SR37 A7 y10)]) rfl rfl rfl trivial ?_; clear S CL a; intro a S CL
  refine h_assign S CL hw le (subR rfl) rfl rfl rfl trivial ?_; clear S CL a; intro a S CL
  refine p_move S rfl rfl rfl trivial ?_; clear S a; intro a S
  refine h_run' S rfl trivial ?_
  refine s_store S rfl rfl rfl (s' := [.sl A2 (y3).length cp2 (RdS Y71 A2 y3), .sl A3 (y4).length cp3 (RdS Y122 A3 y4), .sl A4 (y5).length cp4 (RdS (Ty.arr .u8 20) A4 y5), .sl A5 (y6).length cp5 (RdS Y133 A5 y6), .one (.int .i64 y7), .sl A6 (y8).length cp6 (RdS Y100 A6 y8), .one (.bool y9), .sl A7 (y10).length cp7 (SR37 A7 y10)]) .here T37 rfl rfl ?_; clear S; intro w S
  refine h_back ⟨fun h => (nomatch h), ?_⟩
  refine h_run' S rfl trivial ?_
  refine s_assign S rfl rfl ?_; clear S a; intro a S
  refine h_back ⟨fun h => (nomatch h), ?_⟩
  refine h_done ?_; clear CL hw le
  refine x_thenN ?_
  refine wp_ret ?_
  obtain rfl := Option.some.inj h0
  exact b_retN S [(.v (.bool y1)), (.agg [.sl A2 (y3).length cp2 (RdS Y71 A2 y3), .sl A3 (y4).length cp3 (RdS Y122 A3 y4), .sl A4 (y5).length cp4 (RdS (Ty.arr .u8 20) A4 y5), .sl A5 (y6).length cp5 (RdS Y133 A5 y6), .one (.int .i64 y7), .sl A6 (y8).length cp6 (RdS Y100 A6 y8), .one (.bool y9), .sl A7 (y10).length cp7 (SR37 A7 y10)]), (.v (.slice A1 nn1 cp1))] rfl rfl ⟨rfl, (resD_cell rfl .here T37 rfl rfl), rfl, trivial⟩ fun ⟨ok1, ok2, ok3, _⟩ => S.retX (Hx := []) hb _ _ ((((A2, cp2), (A3, cp3), (A4, cp4), (A5, cp5), (), (A6, cp6), (), (A7, cp7)), A1, nn1, cp1) : W24) (.cons (.there (.there .here)) .nil) ⟨⟨ok1, trivial⟩, ok2, ⟨ok3, trivial⟩, trivial⟩
 refine c_region ?_
 refine s_fieldAddr S rfl I46_0 T3 (by decide) rfl rfl ?_; clear S a; intro a S
 refine s_load1 S rfl (.there .here) T3 (v := (.int .i64 x3.1)) rfl rfl ?_; clear S a; intro a S
 refine c_end ?_
 refine wp_block ?_
 refine c_region ?_
 refine s_bin S rfl rfl rfl rfl ?_; clear S a; intro a S
 refine s_assign S rfl rfl ?_; clear S a; intro a S
 refine c_end ?_
 rcases ite_of h0 with ⟨c1, h1⟩ | ⟨c1, h1⟩ <;> clear h0
 ·refine c_condT S rfl c1 ?_
  refine c_region ?_
  refine s_move S rfl rfl ?_; clear S a; intro a S
  refine s_fieldAddr S rfl I46_1 T40 (by decide) rfl rfl ?_; clear S a; intro a S
  refine s_loada S rfl (.there .here) T40 (s' := [.ints .u8 x3.2.1 20]) rfl rfl ?_; clear S a; intro a S
  refine s_fieldAddr S rfl I46_4 T41 (by decide) rfl rfl ?_; clear S a; intro a S
  refine s_load1 S rfl (.there .here) T41 (v := (.int .u64 x3.2.2.2.2.1)) rfl rfl ?_; clear S a; intro a S
  obtain ⟨t1, et1, h2⟩ := bind_of h1; clear h1
  refine s_callP S (fun (ch : Unit) => ((.tup []) : D)) N35 rfl rfl (state_State_SetNonce_0nil.ok x3.2.1 x3.2.2.2.2.1 t1 et1 _ _) ?_; clear S a w; intro ch1 m le1 a w S
  refine c_end ?_
  refine c_region' ?_
  refine s_loada S rfl (.there (.there .here)) T37 (s' := [.sl ch_1_0.1.1 ((ST37.un x1).1).length ch_1_0.1.2 (RdS Y71 ch_1_0.1.1 ((ST37.un x1).1)), .sl ch_1_0.2.1.1 ((ST37.un x1).2.1).length ch_1_0.2.1.2 (RdS Y122 ch_1_0.2.1.1 ((ST37.un x1).2.1)), .sl ch_1_0.2.2.1.1 ((ST37.un x1).2.2.1).length ch_1_0.2.2.1.2 (RdS (Ty.arr .u8 20) ch_1_0.2.2.1.1 ((ST37.un x1).2.2.1)), .sl ch_1_0.2.2.2.1.1 ((ST37.un x1).2.2.2.1).length ch_1_0.2.2.2.1.2 (RdS Y133 ch_1_0.2.2.2.1.1 ((ST37.un x1).2.2.2.1)), .one (.int .i64 ((ST37.un x1).2.2.2.2.1)), .sl ch_1_0.2.2.2.2.2.1.1 ((ST37.un x1).2.2.2.2.2.1).length ch_1_0.2.2.2.2.2.1.2 (RdS Y100 ch_1_0.2.2.2.2.2.1.1 ((ST37.un x1).2.2.2.2.2.1)), .one (.bool ((ST37.un x1).2.2.2.2.2.2.1)), .sl ch_1_0.2.2.2.2.2.2.2.1 ((ST37.un x1).2.2.2.2.2.2.2).length ch_1_0.2.2.2.2.2.2.2.2 (SR37 ch_1_0.2.2.2.2.2.2.2.1 ((ST37.un x1).2.2.2.2.2.2.2))]) rfl rfl ?_; clear S a; intro a S
  refine s_fieldAddr S rfl I46_1 T40 (by decide) rfl rfl ?_; clear S a; intro a S
  refine s_loada S rfl (.there .here) T40 (s' := [.ints .u8 x3.2.1 20]) rfl rfl ?_; clear S a; intro a S
  refine s_fieldAddr S rfl I46_4 T41 (by decide) rfl rfl ?_; clear S a; intro a S
  refine s_load1 S rfl (.there .here) T41 (v := (.int .u64 x3.2.2.2.2.1)) rfl rfl ?_; clear S a; intro a S
  obtain ⟨t2, et2, h3⟩ := bind_of h2; clear h2
  refine s_callP S (fun (ch : W21) => ((.agg [.sl ch.1.1 ((ST37.un t2).1).length ch.1.2 (RdS Y71 ch.1.1 ((ST37.un t2).1)), .sl ch.2.1.1 ((ST37.un t2).2.1).length ch.2.1.2 (RdS Y122 ch.2.1.1 ((ST37.un t2).2.1)), .sl ch.2.2.1.1 ((ST37.un t2).2.2.1).length ch.2.2.1.2 (RdS (Ty.arr .u8 20) ch.2.2.1.1 ((ST37.un t2).2.2.1)), .sl ch.2.2.2.1.1 ((ST37.un t2).2.2.2.1).length ch.2.2.2.1.2 (RdS Y133 ch.2.2.2.1.1 ((ST37.un t2).2.2.2.1)), .one (.int .i64 ((ST37.un t2).2.2.2.2.1)), .sl ch.2.2.2.2.2.1.1 ((ST37.un t2).2.2.2.2.2.1).length ch.2.2.2.2.2.1.2 (RdS Y100 ch.2.2.2.2.2.1.1 ((ST37.un t2).2.2.2.2.2.1)), .one (.bool ((ST37.un t2).2.2.2.2.2.2.1)), .sl ch.2.2.2.2.2.2.2.1 ((ST37.un t2).2.2.2.2.2.2.2).length ch.2.2.2.2.2.2.2.2 (SR37 ch.2.2.2.2.2.2.2.1 ((ST37.un t2).2.2.2.2.2.2.2))]) : D)) N36 rfl rfl (smithyref14_State_SetNonce.ok k x1 x3.2.1 x3.2.2.2.2.1 ((ch_1_0.1.1, ch_1_0.1.2), (ch_1_0.2.1.1, ch_1_0.2.1.2), (ch_1_0.2.2.1.1, ch_1_0.2.2.1.2), (ch_1_0.2.2.2.1.1, ch_1_0.2.2.2.1.2), (), (ch_1_0.2.2.2.2.2.1.1, ch_1_0.2.2.2.2.2.1.2), (), (ch_1_0.2.2.2.2.2.2.2.1, ch_1_0.2.2.2.2.2.2.2.2)) t2 et2 _ _) ?_; clear S a w; intro ch2 m le1 a w S
  refine s_store S rfl rfl rfl (s' := [.sl ch2.1.1 ((ST37.un t2).1).length ch2.1.2 (RdS Y71 ch2.1.1 ((ST37.un t2).1)), .sl ch2.2.1.1 ((ST37.un t2).2.1).length ch2.2.1.2 (RdS Y122 ch2.2.1.1 ((ST37.un t2).2.1)), .sl ch2.2.2.1.1 ((ST37.un t2).2.2.1).length ch2.2.2.1.2 (RdS (Ty.arr .u8 20) ch2.2.2.1.1 ((ST37.un t2).2.2.1)), .sl ch2.2.2.2.1.1 ((ST37.un t2).2.2.2.1).length ch2.2.2.2.1.2 (RdS Y133 ch2.2.2.2.1.1 ((ST37.un t2).2.2.2.1)), .one (.int .i64 ((ST37.un t2).2.2.2.2.1)), .sl ch2.2.2.2.2.2.1.1 ((ST37.un t2).2.2.2.2.2.1).length ch2.2.2.2.2.2.1.2 (RdS Y100 ch2.2.2.2.2.2.1.1 ((ST37.un t2).2.2.2.2.2.1)), .one (.bool ((ST37.un t2).2.2.2.2.2.2.1)), .sl ch2.2.2.2.2.2.2.2.1 ((ST37.un t2).2.2.2.2.2.2.2).length ch2.2.2.2.2.2.2.2.2 (SR37 ch2.2.2.2.2.2.2.2.1 ((ST37.un t2).2.2.2.2.2.2.2))]) (.there (.there .here)) T37 rfl rfl ?_; clear S w; intro w S
  refine c_end' ?_
  refine x_blockN ?_
  refine x_thenN ?_
  exact j1 _ true g3 g1 ch_2_0 ch_2_1 ch_2_2 x2 ch2.1.1 ch2.1.2 ((ST37.un t2).1) ch2.2.1.1 ch2.2.1.2 ((ST37.un t2).2.1) ch2.2.2.1.1 ch2.2.2.1.2 ((ST37.un t2).2.2.1) ch2.2.2.2.1.1 ch2.2.2.2.1.2 ((ST37.un t2).2.2.2.1) ((ST37.un t2).2.2.2.2.1) ch2.2.2.2.2.2.1.1 ch2.2.2.2.2.2.1.2 ((ST37.un t2).2.2.2.2.2.1) ((ST37.un t2).2.2.2.2.2.2.1) ch2.2.2.2.2.2.2.2.1 ch2.2.2.2.2.2.2.2.2 ((ST37.un t2).2.2.2.2.2.2.2) a w (S.sub (subR rfl) (.cons .here (.cons (.there .here) (.cons (.there .here) .nil)))) h3
 ·refine c_condF S rfl c1 ?_
  refine c_region ?_
  refine s_bin S rfl rfl rfl rfl ?_; clear S a; intro a S
  refine s_assign S rfl rfl ?_; clear S a; intro a S
  refine c_end ?_
  rcases ite_of h1 with ⟨c2, h2⟩ | ⟨c2, h2⟩ <;> clear h1
  ·refine c_condT S rfl c2 ?_
   refine c_region ?_
   refine s_move S rfl rfl ?_; clear S a; intro a S
   refine s_fieldAddr S rfl I46_1 T40 (by decide) rfl rfl ?_; clear S a; intro a S
   refine s_loada S rfl (.there .here) T40 (s' := [.ints .u8 x3.2.1 20]) rfl rfl ?_; clear S a; intro a S
   refine s_fieldAddr S rfl I46_3 T43 (by decide) rfl rfl ?_; clear S a; intro a S
   refine s_loada S rfl (.there .here) T43 (s' := [.ints .u64 x3.2.2.2.1 4]) rfl rfl ?_; clear S a; intro a S
   obtain ⟨t3, et3, h3⟩ := bind_of h2; clear h2
   refine s_callP S (fun (ch : Unit) => ((.tup []) : D)) N37 rfl rfl (state_State_SetBalance_0nil.ok x3.2.1 x3.2.2.2.1 t3 et3 _ _) ?_; clear S a w; intro ch3 m le1 a w S
   refine c_end ?_
   refine c_region' ?_
   refine s_loada S rfl (.there (.there .here)) T37 (s' := [.sl ch_1_0.1.1 ((ST37.un x1).1).length ch_1_0.1.2 (RdS Y71 ch_1_0.1.1 ((ST37.un x1).1)), .sl ch_1_0.2.1.1 ((ST37.un x1).2.1).length ch_1_0.2.1.2 (RdS Y122 ch_1_0.2.1.1 ((ST37.un x1).2.1)), .sl ch_1_0.2.2.1.1 ((ST37.un x1).2.2.1).length ch_1_0.2.2.1.2 (RdS (Ty.arr .u8 20) ch_1_0.2.2.1.1 ((ST37.un x1).2.2.1)), .sl ch_1_0.2.2.2.1.1 ((ST37.un x1).2.2.2.1).length ch_1_0.2.2.2.1.2 (RdS Y133 ch_1_0.2.2.2.1.1 ((ST37.un x1).2.2.2.1)), .one (.int .i64 ((ST37.un x1).2.2.2.2.1)), .sl ch_1_0.2.2.2.2.2.1.1 ((ST37.un x1).2.2.2.2.2.1).length ch_1_0.2.2.2.2.2.1.2 (RdS Y100 ch_1_0.2.2.2.2.2.1.1 ((ST37.un x1).2.2.2.2.2.1)), .one (.bool ((ST37.un x1).2.2.2.2.2.2.1)), .sl ch_1_0.2.2.2.2.2.2.2.1 ((ST37.un x1).2.2.2.2.2.2.2).length ch_1_0.2.2.2.2.2.2.2.2 (SR37 ch_1_0.2.2.2.2.2.2.2.1 ((ST37.un x1).2.2.2.2.2.2.2))]) rfl rfl ?_; clear S a; intro a S
   refine s_fieldAddr S rfl I46_1 T40 (by decide) rfl rfl ?_; clear S a; intro a S
   refine s_loada S rfl (.there .here) T40 (s' := [.ints .u8 x3.2.1 20]) rfl rfl ?_; clear S a; intro a S
   refine s_fieldAddr S rfl I46_3 T43 (by decide) rfl rfl ?_; clear S a; intro a S
   refine s_loada S rfl (.there .here) T43 (s' := [.ints .u64 x3.2.2.2.1 4]) rfl rfl ?_; clear S a; intro a S
   obtain ⟨t4, et4, h4⟩ := bind_of h3; clear h3
   refine s_callP S (fun (ch : W21) => ((.agg [.sl ch.1.1 ((ST37.un t4).1).length ch.1.2 (RdS Y71 ch.1.1 ((ST37.un t4).1)), .sl ch.2.1.1 ((ST37.un t4).2.1).length ch.2.1.2 (RdS Y122 ch.2.1.1 ((ST37.un t4).2.1)), .sl ch.2.2.1.1 ((ST37.un t4).2.2.1).length ch.2.2.1.2 (RdS (Ty.arr .u8 20) ch.2.2.1.1 ((ST37.un t4).2.2.1)), .sl ch.2.2.2.1.1 ((ST37.un t4).2.2.2.1).length ch.2.2.2.1.2 (RdS Y133 ch.2.2.2.1.1 ((ST37.un t4).2.2.2.1)), .one (.int .i64 ((ST37.un t4).2.2.2.2.1)), .sl ch.2.2.2.2.2.1.1 ((ST37.un t4).2.2.2.2.2.1).length ch.2.2.2.2.2.1.2 (RdS Y100 ch.2.2.2.2.2.1.1 ((ST37.un t4).2.2.2.2.2.1)), .one (.bool ((ST37.un t4).2.2.2.2.2.2.1)), .sl ch.2.2.2.2.2.2.2.1 ((ST37.un t4).2.2.2.2.2.2.2).length ch.2.2.2.2.2.2.2.2 (SR37 ch.2.2.2.2.2.2.2.1 ((ST37.un t4).2.2.2.2.2.2.2))]) : D)) N38 rfl rfl (smithyref14_State_SetBalance.ok k x1 x3.2.1 x3.2.2.2.1 ((ch_1_0.1.1, ch_1_0.1.2), (ch_1_0.2.1.1, ch_1_0.2.1.2), (ch_1_0.2.2.1.1, ch_1_0.2.2.1.2), (ch_1_0.2.2.2.1.1, ch_1_0.2.2.2.1.2), (), (ch_1_0.2.2.2.2.2.1.1, ch_1_0.2.2.2.2.2.1.2), (), (ch_1_0.2.2.2.2.2.2.2.1, ch_1_0.2.2.2.2.2.2.2.2)) t4 et4 _ _) ?_; clear S a w; intro ch4 m le1 a w S
   refine s_store S rfl rfl rfl (s' := [.sl ch4.1.1 ((ST37.un t4).1).length ch4.1.2 (RdS Y71 ch4.1.1 ((ST37.un t4).1)), .sl ch4.2.1.1 ((ST37.un t4).2.1).length ch4.2.1.2 (RdS Y122 ch4.2.1.1 ((ST37.un t4).2.1)), .sl ch4.2.2.1.1 ((ST37.un t4).2.2.1).length ch4.2.2.1.2 (RdS (Ty.arr .u8 20) ch4.2.2.1.1 ((ST37.un t4).2.2.1)), .sl ch4.2.2.2.1.1 ((ST37.un t4).2.2.2.1).length ch4.2.2.2.1.2 (RdS Y133 ch4.2.2.2.1.1 ((ST37.un t4).2.2.2.1)), .one (.int .i64 ((ST37.un t4).2.2.2.2.1)), .sl ch4.2.2.2.2.2.1.1 ((ST37.un t4).2.2.2.2.2.1).length ch4.2.2.2.2.2.1.2 (RdS Y100 ch4.2.2.2.2.2.1.1 ((ST37.un t4).2.2.2.2.2.1)), .one (.bool ((ST37.un t4).2.2.2.2.2.2.1)), .sl ch4.2.2.2.2.2.2.2.1 ((ST37.un t4).2.2.2.2.2.2.2).length ch4.2.2.2.2.2.2.2.2 (SR37 ch4.2.2.2.2.2.2.2.1 ((ST37.un t4).2.2.2.2.2.2.2))]) (.there (.there .here)) T37 rfl rfl ?_; clear S w; intro w S
   refine c_end' ?_
   refine x_blockN ?_
   refine x_thenN ?_
   exact j1 _ true g3 g1 ch_2_0 ch_2_1 ch_2_2 x2 ch4.1.1 ch4.1.2 ((ST37.un t4).1) ch4.2.1.1 ch4.2.1.2 ((ST37.un t4).2.1) ch4.2.2.1.1 ch4.2.2.1.2 ((ST37.un t4).2.2.1) ch4.2.2.2.1.1 ch4.2.2.2.1.2 ((ST37.un t4).2.2.2.1) ((ST37.un t4).2.2.2.2.1) ch4.2.2.2.2.2.1.1 ch4.2.2.2.2.2.1.2 ((ST37.un t4).2.2.2.2.2.1) ((ST37.un t4).2.2.2.2.2.2.1) ch4.2.2.2.2.2.2.2.1 ch4.2.2.2.2.2.2.2.2 ((ST37.un t4).2.2.2.2.2.2.2) a w (S.sub (subR rfl) (.cons .here (.cons (.there .here) (.cons (.there .here) .nil)))) h4
  ·refine c_condF S rfl c2 ?_
   refine c_region ?_
   refine s_bin S rfl rfl rfl rfl ?_; clear S a; intro a S
   refine s_assign S rfl rfl ?_; clear S a; intro a S
   refine c_end ?_
   rcases ite_of h2 with ⟨c3, h3⟩ | ⟨c3, h3⟩ <;> clear h2
   ·refine c_condT S rfl c3 ?_
    refine c_region ?_
    refine s_move S rfl rfl ?_; clear S a; intro a S
    refine s_fieldAddr S rfl I46_1 T40 (by decide) rfl rfl ?_; clear S a; intro a S
    refine s_loada S rfl (.there .here) T40 (s' := [.ints .u8 x3.2.1 20]) rfl rfl ?_; clear S a; intro a S
    refine s_fieldAddr S rfl I46_5 T44 (by decide) rfl rfl ?_; clear S a; intro a S
    refine s_loadSl S rfl (.there .here) T44 (A := ch_3_0) (len := (x3.2.2.2.2.2).length) (cap := ch_3_1) rfl rfl ?_; clear S a; intro a S
    obtain ⟨t5, et5, h4⟩ := bind_of h3; clear h3
    refine s_callP S (fun (ch : Unit) => ((.tup []) : D)) N39 rfl rfl (state_State_SetCode_0nil.ok x3.2.1 x3.2.2.2.2.2 ch_3_0 ch_3_1 t5 et5 _ _) ?_; clear S a w; intro ch5 m le1 a w S
    refine c_end ?_
    refine c_region' ?_
    refine s_loada S rfl (.there (.there .here)) T37 (s' := [.sl ch_1_0.1.1 ((ST37.un x1).1).length ch_1_0.1.2 (RdS Y71 ch_1_0.1.1 ((ST37.un x1).1)), .sl ch_1_0.2.1.1 ((ST37.un x1).2.1).length ch_1_0.2.1.2 (RdS Y122 ch_1_0.2.1.1 ((ST37.un x1).2.1)), .sl ch_1_0.2.2.1.1 ((ST37.un x1).2.2.1).length ch_1_0.2.2.1.2 (RdS (Ty.arr .u8 20) ch_1_0.2.2.1.1 ((ST37.un x1).2.2.1)), .sl ch_1_0.2.2.2.1.1 ((ST37.un x1).2.2.2.1).length ch_1_0.2.2.2.1.2 (RdS Y133 ch_1_0.2.2.2.1.1 ((ST37.un x1).2.2.2.1)), .one (.int .i64 ((ST37.un x1).2.2.2.2.1)), .sl ch_1_0.2.2.2.2.2.1.1 ((ST37.un x1).2.2.2.2.2.1).length ch_1_0.2.2.2.2.2.1.2 (RdS Y100 ch_1_0.2.2.2.2.2.1.1 ((ST37.un x1).2.2.2.2.2.1)), .one (.bool ((ST37.un x1).2.2.2.2.2.2.1)), .sl ch_1_0.2.2.2.2.2.2.2.1 ((ST37.un x1).2.2.2.2.2.2.2).length ch_1_0.2.2.2.2.2.2.2.2 (SR37 ch_1_0.2.2.2.2.2.2.2.1 ((ST37.un x1).2.2.2.2.2.2.2))]) rfl rfl ?_; clear S a; intro a S
    refine s_fieldAddr S rfl I46_1 T40 (by decide) rfl rfl ?_; clear S a; intro a S
    refine s_loada S rfl (.there .here) T40 (s' := [.ints .u8 x3.2.1 20]) rfl rfl ?_; clear S a; intro a S
    refine s_fieldAddr S rfl I46_5 T44 (by decide) rfl rfl ?_; clear S a; intro a S
    refine s_loadSl S rfl (.there .here) T44 (A := ch_3_0) (len := (x3.2.2.2.2.2).length) (cap := ch_3_1) rfl rfl ?_; clear S a; intro a S
    obtain ⟨t6, et6, h5⟩ := bind_of h4; clear h4
    refine s_callP S (fun (ch : W21) => ((.agg [.sl ch.1.1 ((ST37.un t6).1).length ch.1.2 (RdS Y71 ch.1.1 ((ST37.un t6).1)), .sl ch.2.1.1 ((ST37.un t6).2.1).length ch.2.1.2 (RdS Y122 ch.2.1.1 ((ST37.un t6).2.1)), .sl ch.2.2.1.1 ((ST37.un t6).2.2.1).length ch.2.2.1.2 (RdS (Ty.arr .u8 20) ch.2.2.1.1 ((ST37.un t6).2.2.1)), .sl ch.2.2.2.1.1 ((ST37.un t6).2.2.2.1).length ch.2.2.2.1.2 (RdS Y133 ch.2.2.2.1.1 ((ST37.un t6).2.2.2.1)), .one (.int .i64 ((ST37.un t6).2.2.2.2.1)), .sl ch.2.2.2.2.2.1.1 ((ST37.un t6).2.2.2.2.2.1).length ch.2.2.2.2.2.1.2 (RdS Y100 ch.2.2.2.2.2.1.1 ((ST37.un t6).2.2.2.2.2.1)), .one (.bool ((ST37.un t6).2.2.2.2.2.2.1)), .sl ch.2.2.2.2.2.2.2.1 ((ST37.un t6).2.2.2.2.2.2.2).length ch.2.2.2.2.2.2.2.2 (SR37 ch.2.2.2.2.2.2.2.1 ((ST37.un t6).2.2.2.2.2.2.2))]) : D)) N40 rfl rfl (smithyref14_State_SetCode.ok k x1 x3.2.1 x3.2.2.2.2.2 ((ch_1_0.1.1, ch_1_0.1.2), (ch_1_0.2.1.1, ch_1_0.2.1.2), (ch_1_0.2.2.1.1, ch_1_0.2.2.1.2), (ch_1_0.2.2.2.1.1, ch_1_0.2.2.2.1.2), (), (ch_1_0.2.2.2.2.2.1.1, ch_1_0.2.2.2.2.2.1.2), (), (ch_1_0.2.2.2.2.2.2.2.1, ch_1_0.2.2.2.2.2.2.2.2)) ch_3_0 ch_3_1 t6 et6 _ _) ?_; clear S a w; intro ch6 m le1 a w S
    refine s_store S rfl rfl rfl (s' := [.sl ch6.1.1 ((ST37.un t6).1).length ch6.1.2 (RdS Y71 ch6.1.1 ((ST37.un t6).1)), .sl ch6.2.1.1 ((ST37.un t6).2.1).length ch6.2.1.2 (RdS Y122 ch6.2.1.1 ((ST37.un t6).2.1)), .sl ch6.2.2.1.1 ((ST37.un t6).2.2.1).length ch6.2.2.1.2 (RdS (Ty.arr .u8 20) ch6.2.2.1.1 ((ST37.un t6).2.2.1)), .sl ch6.2.2.2.1.1 ((ST37.un t6).2.2.2.1).length ch6.2.2.2.1.2 (RdS Y133 ch6.2.2.2.1.1 ((ST37.un t6).2.2.2.1)), .one (.int .i64 ((ST37.un t6).2.2.2.2.1)), .sl ch6.2.2.2.2.2.1.1 ((ST37.un t6).2.2.2.2.2.1).length ch6.2.2.2.2.2.1.2 (RdS Y100 ch6.2.2.2.2.2.1.1 ((ST37.un t6).2.2.2.2.2.1)), .one (.bool ((ST37.un t6).2.2.2.2.2.2.1)), .sl ch6.2.2.2.2.2.2.2.1 ((ST37.un t6).2.2.2.2.2.2.2).length ch6.2.2.2.2.2.2.2.2 (SR37 ch6.2.2.2.2.2.2.2.1 ((ST37.un t6).2.2.2.2.2.2.2))]) (.there (.there .here)) T37 rfl rfl ?_; clear S w; intro w S
    refine c_end' ?_
    refine x_blockN ?_
    refine x_thenN ?_
    exact j1 _ true g3 g1 ch_2_0 ch_2_1 ch_2_2 x2 ch6.1.1 ch6.1.2 ((ST37.un t6).1) ch6.2.1.1 ch6.2.1.2 ((ST37.un t6).2.1) ch6.2.2.1.1 ch6.2.2.1.2 ((ST37.un t6).2.2.1) ch6.2.2.2.1.1 ch6.2.2.2.1.2 ((ST37.un t6).2.2.2.1) ((ST37.un t6).2.2.2.2.1) ch6.2.2.2.2.2.1.1 ch6.2.2.2.2.2.1.2 ((ST37.un t6).2.2.2.2.2.1) ((ST37.un t6).2.2.2.2.2.2.1) ch6.2.2.2.2.2.2.2.1 ch6.2.2.2.2.2.2.2.2 ((ST37.un t6).2.2.2.2.2.2.2) a w (S.sub (subR rfl) (.cons .here (.cons (.there .here) (.cons (.there .here) .nil)))) h5
   ·refine c_condF S rfl c3 ?_
    refine c_region ?_
    refine s_bin S rfl rfl rfl rfl ?_; clear S a; intro a S
    refine s_assign S rfl rfl ?_; clear S a; intro a S
    refine c_end ?_
    rcases ite_of h3 with ⟨c4, h4⟩ | ⟨c4, h4⟩ <;> clear h3
    ·refine c_condT S rfl c4 ?_
     refine c_region ?_
     refine s_move S rfl rfl ?_; clear S a; intro a S
     refine s_fieldAddr S rfl I46_1 T40 (by decide) rfl rfl ?_; clear S a; intro a S
     refine s_loada S rfl (.there .here) T40 (s' := [.ints .u8 x3.2.1 20]) rfl rfl ?_; clear S a; intro a S
     obtain ⟨t7, et7, h5⟩ := bind_of h4; clear h4
     refine s_callP S (fun (ch : Unit) => ((.tup []) : D)) N41 rfl rfl (state_State_Make_0nil.ok x3.2.1 t7 et7 _ _) ?_; clear S a w; intro ch7 m le1 a w S
     refine c_end ?_
     refine c_region' ?_
     refine s_loada S rfl (.there (.there .here)) T37 (s' := [.sl ch_1_0.1.1 ((ST37.un x1).1).length ch_1_0.1.2 (RdS Y71 ch_1_0.1.1 ((ST37.un x1).1)), .sl ch_1_0.2.1.1 ((ST37.un x1).2.1).length ch_1_0.2.1.2 (RdS Y122 ch_1_0.2.1.1 ((ST37.un x1).2.1)), .sl ch_1_0.2.2.1.1 ((ST37.un x1).2.2.1).length ch_1_0.2.2.1.2 (RdS (Ty.arr .u8 20) ch_1_0.2.2.1.1 ((ST37.un x1).2.2.1)), .sl ch_1_0.2.2.2.1.1 ((ST37.un x1).2.2.2.1).length ch_1_0.2.2.2.1.2 (RdS Y133 ch_1_0.2.2.2.1.1 ((ST37.un x1).2.2.2.1)), .one (.int .i64 ((ST37.un x1).2.2.2.2.1)), .sl ch_1_0.2.2.2.2.2.1.1 ((ST37.un x1).2.2.2.2.2.1).length ch_1_0.2.2.2.2.2.1.2 (RdS Y100 ch_1_0.2.2.2.2.2.1.1 ((ST37.un x1).2.2.2.2.2.1)), .one (.bool ((ST37.un x1).2.2.2.2.2.2.1)), .sl ch_1_0.2.2.2.2.2.2.2.1 ((ST37.un x1).2.2.2.2.2.2.2).length ch_1_0.2.2.2.2.2.2.2.2 (SR37 ch_1_0.2.2.2.2.2.2.2.1 ((ST37.un x1).2.2.2.2.2.2.2))]) rfl rfl ?_; clear S a; intro a S
     refine s_fieldAddr S rfl I46_1 T40 (by decide) rfl rfl ?_; clear S a; intro a S
     refine s_loada S rfl (.there .here) T40 (s' := [.ints .u8 x3.2.1 20]) rfl rfl ?_; clear S a; intro a S
     obtain ⟨t8, et8, h6⟩ := bind_of h5; clear h5
     refine s_callP S (fun (ch : W21) => ((.agg [.sl ch.1.1 ((ST37.un t8).1).length ch.1.2 (RdS Y71 ch.1.1 ((ST37.un t8).1)), .sl ch.2.1.1 ((ST37.un t8).2.1).length ch.2.1.2 (RdS Y122 ch.2.1.1 ((ST37.un t8).2.1)), .sl ch.2.2.1.1 ((ST37.un t8).2.2.1).length ch.2.2.1.2 (RdS (Ty.arr .u8 20) ch.2.2.1.1 ((ST37.un t8).2.2.1)), .sl ch.2.2.2.1.1 ((ST37.un t8).2.2.2.1).length ch.2.2.2.1.2 (RdS Y133 ch.2.2.2.1.1 ((ST37.un t8).2.2.2.1)), .one (.int .i64 ((ST37.un t8).2.2.2.2.1)), .sl ch.2.2.2.2.2.1.1 ((ST37.un t8).2.2.2.2.2.1).length ch.2.2.2.2.2.1.2 (RdS Y100 ch.2.2.2.2.2.1.1 ((ST37.un t8).2.2.2.2.2.1)), .one (.bool ((ST37.un t8).2.2.2.2.2.2.1)), .sl ch.2.2.2.2.2.2.2.1 ((ST37.un t8).2.2.2.2.2.2.2).length ch.2.2.2.2.2.2.2.2 (SR37 ch.2.2.2.2.2.2.2.1 ((ST37.un t8).2.2.2.2.2.2.2))]) : D)) N42 rfl rfl (smithyref14_State_Make.ok k x1 x3.2.1 ((ch_1_0.1.1, ch_1_0.1.2), (ch_1_0.2.1.1, ch_1_0.2.1.2), (ch_1_0.2.2.1.1, ch_1_0.2.2.1.2), (ch_1_0.2.2.2.1.1, ch_1_0.2.2.2.1.2), (), (ch_1_0.2.2.2.2.2.1.1, ch_1_0.2.2.2.2.2.1.2), (), (ch_1_0.2.2.2.2.2.2.2.1, ch_1_0.2.2.2.2.2.2.2.2)) t8 et8 _ _) ?_; clear S a w; intro ch8 m le1 a w S
     refine s_store S rfl rfl rfl (s' := [.sl ch8.1.1 ((ST37.un t8).1).length ch8.1.2 (RdS Y71 ch8.1.1 ((ST37.un t8).1)), .sl ch8.2.1.1 ((ST37.un t8).2.1).length ch8.2.1.2 (RdS Y122 ch8.2.1.1 ((ST37.un t8).2.1)), .sl ch8.2.2.1.1 ((ST37.un t8).2.2.1).length ch8.2.2.1.2 (RdS (Ty.arr .u8 20) ch8.2.2.1.1 ((ST37.un t8).2.2.1)), .sl ch8.2.2.2.1.1 ((ST37.un t8).2.2.2.1).length ch8.2.2.2.1.2 (RdS Y133 ch8.2.2.2.1.1 ((ST37.un t8).2.2.2.1)), .one (.int .i64 ((ST37.un t8).2.2.2.2.1)), .sl ch8.2.2.2.2.2.1.1 ((ST37.un t8).2.2.2.2.2.1).length ch8.2.2.2.2.2.1.2 (RdS Y100 ch8.2.2.2.2.2.1.1 ((ST37.un t8).2.2.2.2.2.1)), .one (.bool ((ST37.un t8).2.2.2.2.2.2.1)), .sl ch8.2.2.2.2.2.2.2.1 ((ST37.un t8).2.2.2.2.2.2.2).length ch8.2.2.2.2.2.2.2.2 (SR37 ch8.2.2.2.2.2.2.2.1 ((ST37.un t8).2.2.2.2.2.2.2))]) (.there (.there .here)) T37 rfl rfl ?_; clear S w; intro w S
     refine c_end' ?_
     refine x_blockN ?_
     refine x_thenN ?_
     exact j1 _ true g3 g1 ch_2_0 ch_2_1 ch_2_2 x2 ch8.1.1 ch8.1.2 ((ST37.un t8).1) ch8.2.1.1 ch8.2.1.2 ((ST37.un t8).2.1) ch8.2.2.1.1 ch8.2.2.1.2 ((ST37.un t8).2.2.1) ch8.2.2.2.1.1 ch8.2.2.2.1.2 ((ST37.un t8).2.2.2.1) ((ST37.un t8).2.2.2.2.1) ch8.2.2.2.2.2.1.1 ch8.2.2.2.2.2.1.2 ((ST37.un t8).2.2.2.2.2.1) ((ST37.un t8).2.2.2.2.2.2.1) ch8.2.2.2.2.2.2.2.1 ch8.2.2.2.2.2.2.2.2 ((ST37.un t8).2.2.2.2.2.2.2) a w (S.sub (subR rfl) (.cons .here (.cons (.there .here) (.cons (.there .here) .nil)))) h6
    ·refine c_condF S rfl c4 ?_
     refine c_region ?_
     refine s_bin S rfl rfl rfl rfl ?_; clear S a; intro a S
     refine s_assign S rfl rfl ?_; clear S a; intro a S
     refine c_end ?_
     rcases ite_of h4 with ⟨c5, h5⟩ | ⟨c5, h5⟩ <;> clear h4
     ·refine c_condT S rfl c5 ?_
      refine c_region ?_
      refine s_move S rfl rfl ?_; clear S a; intro a S
      refine s_fieldAddr S rfl I46_1 T40 (by decide) rfl rfl ?_; clear S a; intro a S
      refine s_loada S rfl (.there .here) T40 (s' := [.ints .u8 x3.2.1 20]) rfl rfl ?_; clear S a; intro a S
      refine s_fieldAddr S rfl I46_2 T43 (by decide) rfl rfl ?_; clear S a; intro a S
      refine s_loada S rfl (.there .here) T43 (s' := [.ints .u64 x3.2.2.1 4]) rfl rfl ?_; clear S a; intro a S
      refine s_fieldAddr S rfl I46_3 T43 (by decide) rfl rfl ?_; clear S a; intro a S
      refine s_loada S rfl (.there .here) T43 (s' := [.ints .u64 x3.2.2.2.1 4]) rfl rfl ?_; clear S a; intro a S
      obtain ⟨t9, et9, h6⟩ := bind_of h5; clear h5
      refine s_callP S (fun (ch : Unit) => ((.tup []) : D)) N32 rfl rfl (state_State_Set_0nil.ok x3.2.1 x3.2.2.1 x3.2.2.2.1 t9 et9 _ _) ?_; clear S a w; intro ch9 m le1 a w S
      refine c_end ?_
      refine c_region' ?_
      refine s_loada S rfl (.there (.there .here)) T37 (s' := [.sl ch_1_0.1.1 ((ST37.un x1).1).length ch_1_0.1.2 (RdS Y71 ch_1_0.1.1 ((ST37.un x1).1)), .sl ch_1_0.2.1.1 ((ST37.un x1).2.1).length ch_1_0.2.1.2 (RdS Y122 ch_1_0.2.1.1 ((ST37.un x1).2.1)), .sl ch_1_0.2.2.1.1 ((ST37.un x1).2.2.1).length ch_1_0.2.2.1.2 (RdS (Ty.arr .u8 20) ch_1_0.2.2.1.1 ((ST37.un x1).2.2.1)), .sl ch_1_0.2.2.2.1.1 ((ST37.un x1).2.2.2.1).length ch_1_0.2.2.2.1.2 (RdS Y133 ch_1_0.2.2.2.1.1 ((ST37.un x1).2.2.2.1)), .one (.int .i64 ((ST37.un x1).2.2.2.2.1)), .sl ch_1_0.2.2.2.2.2.1.1 ((ST37.un x1).2.2.2.2.2.1).length ch_1_0.2.2.2.2.2.1.2 (RdS Y100 ch_1_0.2.2.2.2.2.1.1 ((ST37.un x1).2.2.2.2.2.1)), .one (.bool ((ST37.un x1).2.2.2.2.2.2.1)), .sl ch_1_0.2.2.2.2.2.2.2.1 ((ST37.un x1).2.2.2.2.2.2.2).length ch_1_0.2.2.2.2.2.2.2.2 (SR37 ch_1_0.2.2.2.2.2.2.2.1 ((ST37.un x1).2.2.2.2.2.2.2))]) rfl rfl ?_; clear S a; intro a S
      refine s_fieldAddr S rfl I46_1 T40 (by decide) rfl rfl ?_; clear S a; intro a S
      refine s_loada S rfl (.there .here) T40 (s' := [.ints .u8 x3.2.1 20]) rfl rfl ?_; clear S a; intro a S
      refine s_fieldAddr S rfl I46_2 T43 (by decide) rfl rfl ?_; clear S a; intro a S
      refine s_loada S rfl (.there .here) T43 (s' := [.ints .u64 x3.2.2.1 4]) rfl rfl ?_; clear S a; intro a S
      refine s_fieldAddr S rfl I46_3 T43 (by decide) rfl rfl ?_; clear S a; intro a S
      refine s_loada S rfl (.there .here) T43 (s' := [.ints .u64 x3.2.2.2.1 4]) rfl rfl ?_; clear S a; intro a S
      obtain ⟨t10, et10, h7⟩ := bind_of h6; clear h6
      refine s_callP S (fun (ch : W21) => ((.agg [.sl ch.1.1 ((ST37.un t10).1).length ch.1.2 (RdS Y71 ch.1.1 ((ST37.un t10).1)), .sl ch.2.1.1 ((ST37.un t10).2.1).length ch.2.1.2 (RdS Y122 ch.2.1.1 ((ST37.un t10).2.1)), .sl ch.2.2.1.1 ((ST37.un t10).2.2.1).length ch.2.2.1.2 (RdS (Ty.arr .u8 20) ch.2.2.1.1 ((ST37.un t10).2.2.1)), .sl ch.2.2.2.1.1 ((ST37.un t10).2.2.2.1).length ch.2.2.2.1.2 (RdS Y133 ch.2.2.2.1.1 ((ST37.un t10).2.2.2.1)), .one (.int .i64 ((ST37.un t10).2.2.2.2.1)), .sl ch.2.2.2.2.2.1.1 ((ST37.un t10).2.2.2.2.2.1).length ch.2.2.2.2.2.1.2 (RdS Y100 ch.2.2.2.2.2.1.1 ((ST37.un t10).2.2.2.2.2.1)), .one (.bool ((ST37.un t10).2.2.2.2.2.2.1)), .sl ch.2.2.2.2.2.2.2.1 ((ST37.un t10).2.2.2.2.2.2.2).length ch.2.2.2.2.2.2.2.2 (SR37 ch.2.2.2.2.2.2.2.1 ((ST37.un t10).2.2.2.2.2.2.2))]) : D)) N43 rfl rfl (smithyref14_State_Set.ok k x1 x3.2.1 x3.2.2.1 x3.2.2.2.1 ((ch_1_0.1.1, ch_1_0.1.2), (ch_1_0.2.1.1, ch_1_0.2.1.2), (ch_1_0.2.2.1.1, ch_1_0.2.2.1.2), (ch_1_0.2.2.2.1.1, ch_1_0.2.2.2.1.2), (), (ch_1_0.2.2.2.2.2.1.1, ch_1_0.2.2.2.2.2.1.2), (), (ch_1_0.2.2.2.2.2.2.2.1, ch_1_0.2.2.2.2.2.2.2.2)) t10 et10 _ _) ?_; clear S a w; intro ch10 m le1 a w S
      refine s_store S rfl rfl rfl (s' := [.sl ch10.1.1 ((ST37.un t10).1).length ch10.1.2 (RdS Y71 ch10.1.1 ((ST37.un t10).1)), .sl ch10.2.1.1 ((ST37.un t10).2.1).length ch10.2.1.2 (RdS Y122 ch10.2.1.1 ((ST37.un t10).2.1)), .sl ch10.2.2.1.1 ((ST37.un t10).2.2.1).length ch10.2.2.1.2 (RdS (Ty.arr .u8 20) ch10.2.2.1.1 ((ST37.un t10).2.2.1)), .sl ch10.2.2.2.1.1 ((ST37.un t10).2.2.2.1).length ch10.2.2.2.1.2 (RdS Y133 ch10.2.2.2.1.1 ((ST37.un t10).2.2.2.1)), .one (.int .i64 ((ST37.un t10).2.2.2.2.1)), .sl ch10.2.2.2.2.2.1.1 ((ST37.un t10).2.2.2.2.2.1).length ch10.2.2.2.2.2.1.2 (RdS Y100 ch10.2.2.2.2.2.1.1 ((ST37.un t10).2.2.2.2.2.1)), .one (.bool ((ST37.un t10).2.2.2.2.2.2.1)), .sl ch10.2.2.2.2.2.2.2.1 ((ST37.un t10).2.2.2.2.2.2.2).length ch10.2.2.2.2.2.2.2.2 (SR37 ch10.2.2.2.2.2.2.2.1 ((ST37.un t10).2.2.2.2.2.2.2))]) (.there (.there .here)) T37 rfl rfl ?_; clear S w; intro w S
      refine c_end' ?_
      refine x_blockN ?_
      refine x_thenN ?_
      exact j1 _ true g3 g1 ch_2_0 ch_2_1 ch_2_2 x2 ch10.1.1 ch10.1.2 ((ST37.un t10).1) ch10.2.1.1 ch10.2.1.2 ((ST37.un t10).2.1) ch10.2.2.1.1 ch10.2.2.1.2 ((ST37.un t10).2.2.1) ch10.2.2.2.1.1 ch10.2.2.2.1.2 ((ST37.un t10).2.2.2.1) ((ST37.un t10).2.2.2.2.1) ch10.2.2.2.2.2.1.1 ch10.2.2.2.2.2.1.2 ((ST37.un t10).2.2.2.2.2.1) ((ST37.un t10).2.2.2.2.2.2.1) ch10.2.2.2.2.2.2.2.1 ch10.2.2.2.2.2.2.2.2 ((ST37.un t10).2.2.2.2.2.2.2) a w (S.sub (subR rfl) (.cons .here (.cons (.there .here) (.cons (.there .here) .nil)))) h7
     ·refine c_condF S rfl c5 ?_
      refine c_region ?_
      refine s_bin S rfl rfl rfl rfl ?_; clear S a; intro a S
      refine s_assign S rfl rfl ?_; clear S a; intro a S
      refine c_end ?_
      rcases ite_of h5 with ⟨c6, h6⟩ | ⟨c6, h6⟩ <;> clear h5
      ·refine c_condT S rfl c6 ?_
       refine c_region ?_
       refine s_assign S rfl rfl ?_; clear S a; intro a S
       refine c_end ?_
       refine c_region ?_
       refine s_loada S rfl (.there (.there .here)) T37 (s' := [.sl ch_1_0.1.1 ((ST37.un x1).1).length ch_1_0.1.2 (RdS Y71 ch_1_0.1.1 ((ST37.un x1).1)), .sl ch_1_0.2.1.1 ((ST37.un x1).2.1).length ch_1_0.2.1.2 (RdS Y122 ch_1_0.2.1.1 ((ST37.un x1).2.1)), .sl ch_1_0.2.2.1.1 ((ST37.un x1).2.2.1).length ch_1_0.2.2.1.2 (RdS (Ty.arr .u8 20) ch_1_0.2.2.1.1 ((ST37.un x1).2.2.1)), .sl ch_1_0.2.2.2.1.1 ((ST37.un x1).2.2.2.1).length ch_1_0.2.2.2.1.2 (RdS Y133 ch_1_0.2.2.2.1.1 ((ST37.un x1).2.2.2.1)), .one (.int .i64 ((ST37.un x1).2.2.2.2.1)), .sl ch_1_0.2.2.2.2.2.1.1 ((ST37.un x1).2.2.2.2.2.1).length ch_1_0.2.2.2.2.2.1.2 (RdS Y100 ch_1_0.2.2.2.2.2.1.1 ((ST37.un x1).2.2.2.2.2.1)), .one (.bool ((ST37.un x1).2.2.2.2.2.2.1)), .sl ch_1_0.2.2.2.2.2.2.2.1 ((ST37.un x1).2.2.2.2.2.2.2).length ch_1_0.2.2.2.2.2.2.2.2 (SR37 ch_1_0.2.2.2.2.2.2.2.1 ((ST37.un x1).2.2.2.2.2.2.2))]) rfl rfl ?_; clear S a; intro a S
       refine s_fieldAddr S rfl I46_1 T40 (by decide) rfl rfl ?_; clear S a; intro a S
       refine s_loada S rfl (.there .here) T40 (s' := [.ints .u8 x3.2.1 20]) rfl rfl ?_; clear S a; intro a S
       obtain ⟨t11, et11, h7⟩ := bind_of h6; clear h6
       refine s_callP S (fun (ch : W21) => ((.tup [(false, [.one (.bool t11.1)]), (true, [.sl ch.1.1 ((ST37.un t11.2).1).length ch.1.2 (RdS Y71 ch.1.1 ((ST37.un t11.2).1)), .sl ch.2.1.1 ((ST37.un t11.2).2.1).length ch.2.1.2 (RdS Y122 ch.2.1.1 ((ST37.un t11.2).2.1)), .sl ch.2.2.1.1 ((ST37.un t11.2).2.2.1).length ch.2.2.1.2 (RdS (Ty.arr .u8 20) ch.2.2.1.1 ((ST37.un t11.2).2.2.1)), .sl ch.2.2.2.1.1 ((ST37.un t11.2).2.2.2.1).length ch.2.2.2.1.2 (RdS Y133 ch.2.2.2.1.1 ((ST37.un t11.2).2.2.2.1)), .one (.int .i64 ((ST37.un t11.2).2.2.2.2.1)), .sl ch.2.2.2.2.2.1.1 ((ST37.un t11.2).2.2.2.2.2.1).length ch.2.2.2.2.2.1.2 (RdS Y100 ch.2.2.2.2.2.1.1 ((ST37.un t11.2).2.2.2.2.2.1)), .one (.bool ((ST37.un t11.2).2.2.2.2.2.2.1)), .sl ch.2.2.2.2.2.2.2.1 ((ST37.un t11.2).2.2.2.2.2.2.2).length ch.2.2.2.2.2.2.2.2 (SR37 ch.2.2.2.2.2.2.2.1 ((ST37.un t11.2).2.2.2.2.2.2.2))])]) : D)) N44 rfl rfl (smithyref14_State_Touch.ok k x1 x3.2.1 ((ch_1_0.1.1, ch_1_0.1.2), (ch_1_0.2.1.1, ch_1_0.2.1.2), (ch_1_0.2.2.1.1, ch_1_0.2.2.1.2), (ch_1_0.2.2.2.1.1, ch_1_0.2.2.2.1.2), (), (ch_1_0.2.2.2.2.2.1.1, ch_1_0.2.2.2.2.2.1.2), (), (ch_1_0.2.2.2.2.2.2.2.1, ch_1_0.2.2.2.2.2.2.2.2)) t11 et11 _ _) ?_; clear S a w; intro ch11 m le1 a w S
       refine s_move S rfl rfl ?_; clear S a; intro a S
       refine s_extract S rfl rfl rfl rfl ?_; clear S a; intro a S
       refine s_extract S rfl rfl rfl rfl ?_; clear S a; intro a S
       refine s_assign S rfl rfl ?_; clear S a; intro a S
       refine s_store S rfl rfl rfl (s' := [.sl ch11.1.1 ((ST37.un t11.2).1).length ch11.1.2 (RdS Y71 ch11.1.1 ((ST37.un t11.2).1)), .sl ch11.2.1.1 ((ST37.un t11.2).2.1).length ch11.2.1.2 (RdS Y122 ch11.2.1.1 ((ST37.un t11.2).2.1)), .sl ch11.2.2.1.1 ((ST37.un t11.2).2.2.1).length ch11.2.2.1.2 (RdS (Ty.arr .u8 20) ch11.2.2.1.1 ((ST37.un t11.2).2.2.1)), .sl ch11.2.2.2.1.1 ((ST37.un t11.2).2.2.2.1).length ch11.2.2.2.1.2 (RdS Y133 ch11.2.2.2.1.1 ((ST37.un t11.2).2.2.2.1)), .one (.int .i64 ((ST37.un t11.2).2.2.2.2.1)), .sl ch11.2.2.2.2.2.1.1 ((ST37.un t11.2).2.2.2.2.2.1).length ch11.2.2.2.2.2.1.2 (RdS Y100 ch11.2.2.2.2.2.1.1 ((ST37.un t11.2).2.2.2.2.2.1)), .one (.bool ((ST37.un t11.2).2.2.2.2.2.2.1)), .sl ch11.2.2.2.2.2.2.2.1 ((ST37.un t11.2).2.2.2.2.2.2.2).length ch11.2.2.2.2.2.2.2.2 (SR37 ch11.2.2.2.2.2.2.2.1 ((ST37.un t11.2).2.2.2.2.2.2.2))]) (.there (.there .here)) T37 rfl rfl ?_; clear S w; intro w S
       refine c_end ?_
       refine c_region' ?_
       refine s_move S rfl rfl ?_; clear S a; intro a S
       refine s_fieldAddr S rfl I46_1 T40 (by decide) rfl rfl ?_; clear S a; intro a S
       refine s_loada S rfl (.there .here) T40 (s' := [.ints .u8 x3.2.1 20]) rfl rfl ?_; clear S a; intro a S
       obtain ⟨t12, et12, h8⟩ := bind_of h7; clear h7
       refine s_callP S (fun (ch : Unit) => ((.v (.bool t12)) : D)) N28 rfl rfl (state_State_Touch_0nil.ok x3.2.1 t12 et12 _ _) ?_; clear S a w; intro ch12 m le1 a w S
       refine s_move S rfl rfl ?_; clear S a; intro a S
       refine s_eqb S rfl rfl Tryz.underlying4 rfl ?_; clear S a; intro a S
       refine s_assign S rfl rfl ?_; clear S a; intro a S
       refine c_end' ?_
       refine x_blockN ?_
       refine x_thenN ?_
       exact j1 _ (t12 == t11.1) g3 g1 ch_2_0 ch_2_1 ch_2_2 x2 ch11.1.1 ch11.1.2 ((ST37.un t11.2).1) ch11.2.1.1 ch11.2.1.2 ((ST37.un t11.2).2.1) ch11.2.2.1.1 ch11.2.2.1.2 ((ST37.un t11.2).2.2.1) ch11.2.2.2.1.1 ch11.2.2.2.1.2 ((ST37.un t11.2).2.2.2.1) ((ST37.un t11.2).2.2.2.2.1) ch11.2.2.2.2.2.1.1 ch11.2.2.2.2.2.1.2 ((ST37.un t11.2).2.2.2.2.2.1) ((ST37.un t11.2).2.2.2.2.2.2.1) ch11.2.2.2.2.2.2.2.1 ch11.2.2.2.2.2.2.2.2 ((ST37.un t11.2).2.2.2.2.2.2.2) a w (S.sub (subR rfl) (.cons .here (.cons (.there .here) (.cons (.there .here) .nil)))) h8
      ·refine c_condF S rfl c6 ?_
       refine c_region ?_
       refine s_bin S rfl rfl rfl rfl ?_; clear S a; intro a S
       refine s_assign S rfl rfl ?_; clear S a; intro a S
       refine c_end ?_
       rcases ite_of h6 with ⟨c7, h7⟩ | ⟨c7, h7⟩ <;> clear h6
       ·refine c_condT S rfl c7 ?_
        refine c_region ?_
        refine s_assign S rfl rfl ?_; clear S a; intro a S
        refine c_end ?_
        refine c_region ?_
        refine s_loada S rfl (.there (.there .here)) T37 (s' := [.sl ch_1_0.1.1 ((ST37.un x1).1).length ch_1_0.1.2 (RdS Y71 ch_1_0.1.1 ((ST37.un x1).1)), .sl ch_1_0.2.1.1 ((ST37.un x1).2.1).length ch_1_0.2.1.2 (RdS Y122 ch_1_0.2.1.1 ((ST37.un x1).2.1)), .sl ch_1_0.2.2.1.1 ((ST37.un x1).2.2.1).length ch_1_0.2.2.1.2 (RdS (Ty.arr .u8 20) ch_1_0.2.2.1.1 ((ST37.un x1).2.2.1)), .sl ch_1_0.2.2.2.1.1 ((ST37.un x1).2.2.2.1).length ch_1_0.2.2.2.1.2 (RdS Y133 ch_1_0.2.2.2.1.1 ((ST37.un x1).2.2.2.1)), .one (.int .i64 ((ST37.un x1).2.2.2.2.1)), .sl ch_1_0.2.2.2.2.2.1.1 ((ST37.un x1).2.2.2.2.2.1).length ch_1_0.2.2.2.2.2.1.2 (RdS Y100 ch_1_0.2.2.2.2.2.1.1 ((ST37.un x1).2.2.2.2.2.1)), .one (.bool ((ST37.un x1).2.2.2.2.2.2.1)), .sl ch_1_0.2.2.2.2.2.2.2.1 ((ST37.un x1).2.2.2.2.2.2.2).length ch_1_0.2.2.2.2.2.2.2.2 (SR37 ch_1_0.2.2.2.2.2.2.2.1 ((ST37.un x1).2.2.2.2.2.2.2))]) rfl rfl ?_; clear S a; intro a S
        refine s_fieldAddr S rfl I46_1 T40 (by decide) rfl rfl ?_; clear S a; intro a S
        refine s_loada S rfl (.there .here) T40 (s' := [.ints .u8 x3.2.1 20]) rfl rfl ?_; clear S a; intro a S
        refine s_fieldAddr S rfl I46_2 T43 (by decide) rfl rfl ?_; clear S a; intro a S
        refine s_loada S rfl (.there .here) T43 (s' := [.ints .u64 x3.2.2.1 4]) rfl rfl ?_; clear S a; intro a S
        obtain ⟨t13, et13, h8⟩ := bind_of h7; clear h7
        refine s_callP S (fun (ch : W21) => ((.tup [(false, [.one (.bool t13.1)]), (true, [.sl ch.1.1 ((ST37.un t13.2).1).length ch.1.2 (RdS Y71 ch.1.1 ((ST37.un t13.2).1)), .sl ch.2.1.1 ((ST37.un t13.2).2.1).length ch.2.1.2 (RdS Y122 ch.2.1.1 ((ST37.un t13.2).2.1)), .sl ch.2.2.1.1 ((ST37.un t13.2).2.2.1).length ch.2.2.1.2 (RdS (Ty.arr .u8 20) ch.2.2.1.1 ((ST37.un t13.2).2.2.1)), .sl ch.2.2.2.1.1 ((ST37.un t13.2).2.2.2.1).length ch.2.2.2.1.2 (RdS Y133 ch.2.2.2.1.1 ((ST37.un t13.2).2.2.2.1)), .one (.int .i64 ((ST37.un t13.2).2.2.2.2.1)), .sl ch.2.2.2.2.2.1.1 ((ST37.un t13.2).2.2.2.2.2.1).length ch.2.2.2.2.2.1.2 (RdS Y100 ch.2.2.2.2.2.1.1 ((ST37.un t13.2).2.2.2.2.2.1)), .one (.bool ((ST37.un t13.2).2.2.2.2.2.2.1)), .sl ch.2.2.2.2.2.2.2.1 ((ST37.un t13.2).2.2.2.2.2.2.2).length ch.2.2.2.2.2.2.2.2 (SR37 ch.2.2.2.2.2.2.2.1 ((ST37.un t13.2).2.2.2.2.2.2.2))])]) : D)) N45 rfl rfl (smithyref14_State_TouchSlot.ok k x1 x3.2.1 x3.2.2.1 ((ch_1_0.1.1, ch_1_0.1.2), (ch_1_0.2.1.1, ch_1_0.2.1.2), (ch_1_0.2.2.1.1, ch_1_0.2.2.1.2), (ch_1_0.2.2.2.1.1, ch_1_0.2.2.2.1.2), (), (ch_1_0.2.2.2.2.2.1.1, ch_1_0.2.2.2.2.2.1.2), (), (ch_1_0.2.2.2.2.2.2.2.1, ch_1_0.2.2.2.2.2.2.2.2)) t13 et13 _ _) ?_; clear S a w; intro ch13 m le1 a w S
        refine s_move S rfl rfl ?_; clear S a; intro a S
        refine s_extract S rfl rfl rfl rfl ?_; clear S a; intro a S
        refine s_extract S rfl rfl rfl rfl ?_; clear S a; intro a S
        refine s_assign S rfl rfl ?_; clear S a; intro a S
        refine s_store S rfl rfl rfl (s' := [.sl ch13.1.1 ((ST37.un t13.2).1).length ch13.1.2 (RdS Y71 ch13.1.1 ((ST37.un t13.2).1)), .sl ch13.2.1.1 ((ST37.un t13.2).2.1).length ch13.2.1.2 (RdS Y122 ch13.2.1.1 ((ST37.un t13.2).2.1)), .sl ch13.2.2.1.1 ((ST37.un t13.2).2.2.1).length ch13.2.2.1.2 (RdS (Ty.arr .u8 20) ch13.2.2.1.1 ((ST37.un t13.2).2.2.1)), .sl ch13.2.2.2.1.1 ((ST37.un t13.2).2.2.2.1).length ch13.2.2.2.1.2 (RdS Y133 ch13.2.2.2.1.1 ((ST37.un t13.2).2.2.2.1)), .one (.int .i64 ((ST37.un t13.2).2.2.2.2.1)), .sl ch13.2.2.2.2.2.1.1 ((ST37.un t13.2).2.2.2.2.2.1).length ch13.2.2.2.2.2.1.2 (RdS Y100 ch13.2.2.2.2.2.1.1 ((ST37.un t13.2).2.2.2.2.2.1)), .one (.bool ((ST37.un t13.2).2.2.2.2.2.2.1)), .sl ch13.2.2.2.2.2.2.2.1 ((ST37.un t13.2).2.2.2.2.2.2.2).length ch13.2.2.2.2.2.2.2.2 (SR37 ch13.2.2.2.2.2.2.2.1 ((ST37.un t13.2).2.2.2.2.2.2.2))]) (.there (.there .here)) T37 rfl rfl ?_; clear S w; intro w S
        refine c_end ?_
        refine c_region' ?_
        refine s_move S rfl rfl ?_; clear S a; intro a S
        refine s_fieldAddr S rfl I46_1 T40 (by decide) rfl rfl ?_; clear S a; intro a S
        refine s_loada S rfl (.there .here) T40 (s' := [.ints .u8 x3.2.1 20]) rfl rfl ?_; clear S a; intro a S
        refine s_fieldAddr S rfl I46_2 T43 (by decide) rfl rfl ?_; clear S a; intro a S
        refine s_loada S rfl (.there .here) T43 (s' := [.ints .u64 x3.2.2.1 4]) rfl rfl ?_; clear S a; intro a S
        obtain ⟨t14, et14, h9⟩ := bind_of h8; clear h8
        refine s_callP S (fun (ch : Unit) => ((.v (.bool t14)) : D)) N29 rfl rfl (state_State_TouchSlot_0nil.ok x3.2.1 x3.2.2.1 t14 et14 _ _) ?_; clear S a w; intro ch14 m le1 a w S
        refine s_move S rfl rfl ?_; clear S a; intro a S
        refine s_eqb S rfl rfl Tryz.underlying4 rfl ?_; clear S a; intro a S
        refine s_assign S rfl rfl ?_; clear S a; intro a S
        refine c_end' ?_
        refine x_blockN ?_
        refine x_thenN ?_
        exact j1 _ (t14 == t13.1) g3 g1 ch_2_0 ch_2_1 ch_2_2 x2 ch13.1.1 ch13.1.2 ((ST37.un t13.2).1) ch13.2.1.1 ch13.2.1.2 ((ST37.un t13.2).2.1) ch13.2.2.1.1 ch13.2.2.1.2 ((ST37.un t13.2).2.2.1) ch13.2.2.2.1.1 ch13.2.2.2.1.2 ((ST37.un t13.2).2.2.2.1) ((ST37.un t13.2).2.2.2.2.1) ch13.2.2.2.2.2.1.1 ch13.2.2.2.2.2.1.2 ((ST37.un t13.2).2.2.2.2.2.1) ((ST37.un t13.2).2.2.2.2.2.2.1) ch13.2.2.2.2.2.2.2.1 ch13.2.2.2.2.2.2.2.2 ((ST37.un t13.2).2.2.2.2.2.2.2) a w (S.sub (subR rfl) (.cons .here (.cons (.there .here) (.cons (.there .here) .nil)))) h9
       ·refine c_condF S rfl c7 ?_
        refine c_region ?_
        refine s_bin S rfl rfl rfl rfl ?_; clear S a; intro a S
        refine s_assign S rfl rfl ?_; clear S a; intro a S
        refine c_end ?_
        rcases ite_of h7 with ⟨c8, h8⟩ | ⟨c8, h8⟩ <;> clear h7
        ·refine c_condT S rfl c8 ?_
         refine c_region ?_
         refine s_move S rfl rfl ?_; clear S a; intro a S
         refine s_fieldAddr S rfl I46_4 T41 (by decide) rfl rfl ?_; clear S a; intro a S
         refine s_load1 S rfl (.there .here) T41 (v := (.int .u64 x3.2.2.2.2.1)) rfl rfl ?_; clear S a; intro a S
         refine s_conv S rfl rfl Tryz.underlying2 rfl ?_; clear S a; intro a S
         obtain ⟨t15, et15, h9⟩ := bind_of h8; clear h8
         refine s_callP S (fun (ch : Unit) => ((.tup []) : D)) N46 rfl rfl (state_State_Add_0nil.ok (wr .i64 x3.2.2.2.2.1) t15 et15 _ _) ?_; clear S a w; intro ch15 m le1 a w S
         refine c_end ?_
         refine c_region' ?_
         refine s_loada S rfl (.there (.there .here)) T37 (s' := [.sl ch_1_0.1.1 ((ST37.un x1).1).length ch_1_0.1.2 (RdS Y71 ch_1_0.1.1 ((ST37.un x1).1)), .sl ch_1_0.2.1.1 ((ST37.un x1).2.1).length ch_1_0.2.1.2 (RdS Y122 ch_1_0.2.1.1 ((ST37.un x1).2.1)), .sl ch_1_0.2.2.1.1 ((ST37.un x1).2.2.1).length ch_1_0.2.2.1.2 (RdS (Ty.arr .u8 20) ch_1_0.2.2.1.1 ((ST37.un x1).2.2.1)), .sl ch_1_0.2.2.2.1.1 ((ST37.un x1).2.2.2.1).length ch_1_0.2.2.2.1.2 (RdS Y133 ch_1_0.2.2.2.1.1 ((ST37.un x1).2.2.2.1)), .one (.int .i64 ((ST37.un x1).2.2.2.2.1)), .sl ch_1_0.2.2.2.2.2.1.1 ((ST37.un x1).2.2.2.2.2.1).length ch_1_0.2.2.2.2.2.1.2 (RdS Y100 ch_1_0.2.2.2.2.2.1.1 ((ST37.un x1).2.2.2.2.2.1)), .one (.bool ((ST37.un x1).2.2.2.2.2.2.1)), .sl ch_1_0.2.2.2.2.2.2.2.1 ((ST37.un x1).2.2.2.2.2.2.2).length ch_1_0.2.2.2.2.2.2.2.2 (SR37 ch_1_0.2.2.2.2.2.2.2.1 ((ST37.un x1).2.2.2.2.2.2.2))]) rfl rfl ?_; clear S a; intro a S
         refine s_fieldAddr S rfl I46_4 T41 (by decide) rfl rfl ?_; clear S a; intro a S
         refine s_load1 S rfl (.there .here) T41 (v := (.int .u64 x3.2.2.2.2.1)) rfl rfl ?_; clear S a; intro a S
         refine s_conv S rfl rfl Tryz.underlying2 rfl ?_; clear S a; intro a S
         obtain ⟨t16, et16, h10⟩ := bind_of h9; clear h9
         refine s_callP S (fun (ch : W21) => ((.agg [.sl ch.1.1 ((ST37.un t16).1).length ch.1.2 (RdS Y71 ch.1.1 ((ST37.un t16).1)), .sl ch.2.1.1 ((ST37.un t16).2.1).length ch.2.1.2 (RdS Y122 ch.2.1.1 ((ST37.un t16).2.1)), .sl ch.2.2.1.1 ((ST37.un t16).2.2.1).length ch.2.2.1.2 (RdS (Ty.arr .u8 20) ch.2.2.1.1 ((ST37.un t16).2.2.1)), .sl ch.2.2.2.1.1 ((ST37.un t16).2.2.2.1).length ch.2.2.2.1.2 (RdS Y133 ch.2.2.2.1.1 ((ST37.un t16).2.2.2.1)), .one (.int .i64 ((ST37.un t16).2.2.2.2.1)), .sl ch.2.2.2.2.2.1.1 ((ST37.un t16).2.2.2.2.2.1).length ch.2.2.2.2.2.1.2 (RdS Y100 ch.2.2.2.2.2.1.1 ((ST37.un t16).2.2.2.2.2.1)), .one (.bool ((ST37.un t16).2.2.2.2.2.2.1)), .sl ch.2.2.2.2.2.2.2.1 ((ST37.un t16).2.2.2.2.2.2.2).length ch.2.2.2.2.2.2.2.2 (SR37 ch.2.2.2.2.2.2.2.1 ((ST37.un t16).2.2.2.2.2.2.2))]) : D)) N47 rfl rfl (smithyref14_State_Add.ok x1 (wr .i64 x3.2.2.2.2.1) ((ch_1_0.1.1, ch_1_0.1.2), (ch_1_0.2.1.1, ch_1_0.2.1.2), (ch_1_0.2.2.1.1, ch_1_0.2.2.1.2), (ch_1_0.2.2.2.1.1, ch_1_0.2.2.2.1.2), (), (ch_1_0.2.2.2.2.2.1.1, ch_1_0.2.2.2.2.2.1.2), (), (ch_1_0.2.2.2.2.2.2.2.1, ch_1_0.2.2.2.2.2.2.2.2)) t16 et16 _ _) ?_; clear S a w; intro ch16 m le1 a w S
         refine s_store S rfl rfl rfl (s' := [.sl ch16.1.1 ((ST37.un t16).1).length ch16.1.2 (RdS Y71 ch16.1.1 ((ST37.un t16).1)), .sl ch16.2.1.1 ((ST37.un t16).2.1).length ch16.2.1.2 (RdS Y122 ch16.2.1.1 ((ST37.un t16).2.1)), .sl ch16.2.2.1.1 ((ST37.un t16).2.2.1).length ch16.2.2.1.2 (RdS (Ty.arr .u8 20) ch16.2.2.1.1 ((ST37.un t16).2.2.1)), .sl ch16.2.2.2.1.1 ((ST37.un t16).2.2.2.1).length ch16.2.2.2.1.2 (RdS Y133 ch16.2.2.2.1.1 ((ST37.un t16).2.2.2.1)), .one (.int .i64 ((ST37.un t16).2.2.2.2.1)), .sl ch16.2.2.2.2.2.1.1 ((ST37.un t16).2.2.2.2.2.1).length ch16.2.2.2.2.2.1.2 (RdS Y100 ch16.2.2.2.2.2.1.1 ((ST37.un t16).2.2.2.2.2.1)), .one (.bool ((ST37.un t16).2.2.2.2.2.2.1)), .sl ch16.2.2.2.2.2.2.2.1 ((ST37.un t16).2.2.2.2.2.2.2).length ch16.2.2.2.2.2.2.2.2 (SR37 ch16.2.2.2.2.2.2.2.1 ((ST37.un t16).2.2.2.2.2.2.2))]) (.there (.there .here)) T37 rfl rfl ?_; clear S w; intro w S
         refine c_end' ?_
         refine x_blockN ?_
         refine x_thenN ?_
         exact j1 _ true g3 g1 ch_2_0 ch_2_1 ch_2_2 x2 ch16.1.1 ch16.1.2 ((ST37.un t16).1) ch16.2.1.1 ch16.2.1.2 ((ST37.un t16).2.1) ch16.2.2.1.1 ch16.2.2.1.2 ((ST37.un t16).2.2.1) ch16.2.2.2.1.1 ch16.2.2.2.1.2 ((ST37.un t16).2.2.2.1) ((ST37.un t16).2.2.2.2.1) ch16.2.2.2.2.2.1.1 ch16.2.2.2.2.2.1.2 ((ST37.un t16).2.2.2.2.2.1) ((ST37.un t16).2.2.2.2.2.2.1) ch16.2.2.2.2.2.2.2.1 ch16.2.2.2.2.2.2.2.2 ((ST37.un t16).2.2.2.2.2.2.2) a w (S.sub (subR rfl) (.cons .here (.cons (.there .here) (.cons (.there .here) .nil)))) h10
        ·refine c_condF S rfl c8 ?_
         refine c_region ?_
         refine s_bin S rfl rfl rfl rfl ?_; clear S a; intro a S
         refine s_assign S rfl rfl ?_; clear S a; intro a S
         refine c_end ?_
         rcases ite_of h8 with ⟨c9, h9⟩ | ⟨c9, h9⟩ <;> clear h8
         ·refine c_condT S rfl c9 ?_
          refine c_region ?_
          refine s_fieldAddr S rfl I46_1 T40 (by decide) rfl rfl ?_; clear S a; intro a S
          refine s_loada S rfl (.there .here) T40 (s' := [.ints .u8 x3.2.1 20]) rfl rfl ?_; clear S a; intro a S
          refine s_fieldAddr S rfl I46_2 T43 (by decide) rfl rfl ?_; clear S a; intro a S
          refine s_loada S rfl (.there .here) T43 (s' := [.ints .u64 x3.2.2.1 4]) rfl rfl ?_; clear S a; intro a S
          refine s_fieldAddr S rfl I46_3 T43 (by decide) rfl rfl ?_; clear S a; intro a S
          refine s_loada S rfl (.there .here) T43 (s' := [.ints .u64 x3.2.2.2.1 4]) rfl rfl ?_; clear S a; intro a S
          refine s_bldSl S (ty' := (Ty.arr .u64 4)) (ds := [(0, (.agg [.ints .u64 x3.2.2.1 4])), (1, (.agg [.ints .u64 x3.2.2.2.1 4]))]) (z := [0, 0, 0, 0]) (c0 := ()) (ys := [x3.2.2.1, x3.2.2.2.1]) (cs := [(), ()]) rfl Tryz.underlying98 J43 Z43 rfl ⟨rfl, trivial⟩ rfl rfl rfl rfl rfl rfl ?_; clear S a w; intro g11 a w S
          refine s_fieldAddr S rfl I46_5 T44 (by decide) rfl rfl ?_; clear S a; intro a S
          refine s_loadSl S rfl (.there (.there .here)) T44 (A := ch_3_0) (len := (x3.2.2.2.2.2).length) (cap := ch_3_1) rfl rfl ?_; clear S a; intro a S
          refine s_bldS S (ds := [(0, (.agg [.ints .u8 x3.2.1 20])), (1, (.v (.slice (some ⟨g11, 0, none⟩) 2 2))), (2, (.sl ch_3_0 (x3.2.2.2.2.2).length ch_3_1 (RdS (Ty.int .u8) ch_3_0 x3.2.2.2.2.2)))]) (zs := [.ints .u8 [0, 0, 0, 0, 0, 0, 0, 0, 0, 0, 0, 0, 0, 0, 0, 0, 0, 0, 0, 0] 20, .one (.slice none 0 0), .one (.slice none 0 0)]) (s' := [.ints .u8 x3.2.1 20, .one (.slice (some ⟨g11, 0, none⟩) 2 2), .sl ch_3_0 (x3.2.2.2.2.2).length ch_3_1 (RdS (Ty.int .u8) ch_3_0 x3.2.2.2.2.2)]) rfl Tryz.underlying100 P100 Z100 ⟨rfl, rfl, rfl, trivial⟩ rfl rfl ?_; clear S a; intro a S
          refine s_alloc S Z100 rfl ⟨rfl, rfl, rfl, trivial⟩ rfl ?_; clear S a w; intro g12 a w S
          refine s_store S rfl rfl rfl (s' := [.ints .u8 x3.2.1 20, .one (.slice (some ⟨g11, 0, none⟩) 2 2), .sl ch_3_0 (x3.2.2.2.2.2).length ch_3_1 (RdS (Ty.int .u8) ch_3_0 x3.2.2.2.2.2)]) .here T100 rfl rfl ?_; clear S w; intro w S
          refine c_end ?_
          refine c_region ?_
          refine s_move S rfl rfl ?_; clear S a; intro a S
          refine s_loada S rfl .here T100 (s' := [.ints .u8 x3.2.1 20, .one (.slice (some ⟨g11, 0, none⟩) 2 2), .sl ch_3_0 (x3.2.2.2.2.2).length ch_3_1 (RdS (Ty.int .u8) ch_3_0 x3.2.2.2.2.2)]) rfl rfl ?_; clear S a; intro a S
          replace S := S.rowfro (.there .here)
          obtain ⟨m, le1, S, hro⟩ := S
          replace S := S.slot (u := 176) (d' := (.agg [.ints .u8 x3.2.1 20, .sl (some ⟨g11, 0, none⟩) ([x3.2.2.1, x3.2.2.2.1]).length 2 (RdS (Ty.arr .u64 4) (some ⟨g11, 0, none⟩) [x3.2.2.1, x3.2.2.2.1]), .sl ch_3_0 (x3.2.2.2.2.2).length ch_3_1 (RdS (Ty.int .u8) ch_3_0 x3.2.2.2.2.2)])) rfl (by simp [D.val, pd, cellsOf, Seg.cells, hro.2.1]) (by have h := (S.get 176 (.agg [.ints .u8 x3.2.1 20, .one (.slice (some ⟨g11, 0, none⟩) 2 2), .sl ch_3_0 (x3.2.2.2.2.2).length ch_3_1 (RdS (Ty.int .u8) ch_3_0 x3.2.2.2.2.2)]) rfl).2; exact ⟨h.1, ⟨by have := hro.2.2.1; omega, hro.2.2.2, hro.1, RdS.mono _ _ _⟩, h.2.2.1, trivial⟩)
          replace S := S.slot (u := 174) (d' := (.agg [.ints .u8 x3.2.1 20, .sl (some ⟨g11, 0, none⟩) ([x3.2.2.1, x3.2.2.2.1]).length 2 (RdS (Ty.arr .u64 4) (some ⟨g11, 0, none⟩) [x3.2.2.1, x3.2.2.2.1]), .sl ch_3_0 (x3.2.2.2.2.2).length ch_3_1 (RdS (Ty.int .u8) ch_3_0 x3.2.2.2.2.2)])) rfl (by simp [D.val, pd, cellsOf, Seg.cells, hro.2.1]) (by have h := (S.get 174 (.agg [.ints .u8 x3.2.1 20, .one (.slice (some ⟨g11, 0, none⟩) 2 2), .sl ch_3_0 (x3.2.2.2.2.2).length ch_3_1 (RdS (Ty.int .u8) ch_3_0 x3.2.2.2.2.2)]) rfl).2; exact ⟨h.1, ⟨by have := hro.2.2.1; omega, hro.2.2.2, hro.1, RdS.mono _ _ _⟩, h.2.2.1, trivial⟩)
          replace S := S.slotro (u := 171) rfl hro
          replace S := S.cellro (s' := [.ints .u8 x3.2.1 20, .sl (some ⟨g11, 0, none⟩) ([x3.2.2.1, x3.2.2.2.1]).length 2 (RdS (Ty.arr .u64 4) (some ⟨g11, 0, none⟩) [x3.2.2.1, x3.2.2.2.1]), .sl ch_3_0 (x3.2.2.2.2.2).length ch_3_1 (RdS (Ty.int .u8) ch_3_0 x3.2.2.2.2.2)]) .here (by simp [cellsOf, Seg.cells, hro.2.1]) (fun h => ⟨h.1, ⟨by have := hro.2.2.1; omega, hro.2.2.2, hro.1, RdS.mono _ _ _⟩, h.2.2.1, trivial⟩)
          obtain ⟨t17, et17, h10⟩ := bind_of h9; clear h9
          refine s_callP S (fun (ch : Unit) => ((.tup []) : D)) N48 rfl rfl (state_State_Log_0nil.ok (x3.2.1, [x3.2.2.1, x3.2.2.2.1], x3.2.2.2.2.2) (some ⟨g11, 0, none⟩) 2 ch_3_0 ch_3_1 t17 et17 _ _) ?_; clear S a w; intro ch17 m le1 a w S
          refine c_end ?_
          refine c_region' ?_
          refine s_loada S rfl (.there (.there (.there .here))) T37 (s' := [.sl ch_1_0.1.1 ((ST37.un x1).1).length ch_1_0.1.2 (RdS Y71 ch_1_0.1.1 ((ST37.un x1).1)), .sl ch_1_0.2.1.1 ((ST37.un x1).2.1).length ch_1_0.2.1.2 (RdS Y122 ch_1_0.2.1.1 ((ST37.un x1).2.1)), .sl ch_1_0.2.2.1.1 ((ST37.un x1).2.2.1).length ch_1_0.2.2.1.2 (RdS (Ty.arr .u8 20) ch_1_0.2.2.1.1 ((ST37.un x1).2.2.1)), .sl ch_1_0.2.2.2.1.1 ((ST37.un x1).2.2.2.1).length ch_1_0.2.2.2.1.2 (RdS Y133 ch_1_0.2.2.2.1.1 ((ST37.un x1).2.2.2.1)), .one (.int .i64 ((ST37.un x1).2.2.2.2.1)), .sl ch_1_0.2.2.2.2.2.1.1 ((ST37.un x1).2.2.2.2.2.1).length ch_1_0.2.2.2.2.2.1.2 (RdS Y100 ch_1_0.2.2.2.2.2.1.1 ((ST37.un x1).2.2.2.2.2.1)), .one (.bool ((ST37.un x1).2.2.2.2.2.2.1)), .sl ch_1_0.2.2.2.2.2.2.2.1 ((ST37.un x1).2.2.2.2.2.2.2).length ch_1_0.2.2.2.2.2.2.2.2 (SR37 ch_1_0.2.2.2.2.2.2.2.1 ((ST37.un x1).2.2.2.2.2.2.2))]) rfl rfl ?_; clear S a; intro a S
          refine s_loada S rfl .here T100 (s' := [.ints .u8 x3.2.1 20, .sl (some ⟨g11, 0, none⟩) ([x3.2.2.1, x3.2.2.2.1]).length 2 (RdS (Ty.arr .u64 4) (some ⟨g11, 0, none⟩) [x3.2.2.1, x3.2.2.2.1]), .sl ch_3_0 (x3.2.2.2.2.2).length ch_3_1 (RdS (Ty.int .u8) ch_3_0 x3.2.2.2.2.2)]) rfl rfl ?_; clear S a; intro a S
          obtain ⟨t18, et18, h11⟩ := bind_of h10; clear h10
          refine s_callP S (fun (ch : W21) => ((.agg [.sl ch.1.1 ((ST37.un t18).1).length ch.1.2 (RdS Y71 ch.1.1 ((ST37.un t18).1)), .sl ch.2.1.1 ((ST37.un t18).2.1).length ch.2.1.2 (RdS Y122 ch.2.1.1 ((ST37.un t18).2.1)), .sl ch.2.2.1.1 ((ST37.un t18).2.2.1).length ch.2.2.1.2 (RdS (Ty.arr .u8 20) ch.2.2.1.1 ((ST37.un t18).2.2.1)), .sl ch.2.2.2.1.1 ((ST37.un t18).2.2.2.1).length ch.2.2.2.1.2 (RdS Y133 ch.2.2.2.1.1 ((ST37.un t18).2.2.2.1)), .one (.int .i64 ((ST37.un t18).2.2.2.2.1)), .sl ch.2.2.2.2.2.1.1 ((ST37.un t18).2.2.2.2.2.1).length ch.2.2.2.2.2.1.2 (RdS Y100 ch.2.2.2.2.2.1.1 ((ST37.un t18).2.2.2.2.2.1)), .one (.bool ((ST37.un t18).2.2.2.2.2.2.1)), .sl ch.2.2.2.2.2.2.2.1 ((ST37.un t18).2.2.2.2.2.2.2).length ch.2.2.2.2.2.2.2.2 (SR37 ch.2.2.2.2.2.2.2.1 ((ST37.un t18).2.2.2.2.2.2.2))]) : D)) N49 rfl rfl (smithyref14_State_Log.ok x1 (x3.2.1, [x3.2.2.1, x3.2.2.2.1], x3.2.2.2.2.2) ((ch_1_0.1.1, ch_1_0.1.2), (ch_1_0.2.1.1, ch_1_0.2.1.2), (ch_1_0.2.2.1.1, ch_1_0.2.2.1.2), (ch_1_0.2.2.2.1.1, ch_1_0.2.2.2.1.2), (), (ch_1_0.2.2.2.2.2.1.1, ch_1_0.2.2.2.2.2.1.2), (), (ch_1_0.2.2.2.2.2.2.2.1, ch_1_0.2.2.2.2.2.2.2.2)) (some ⟨g11, 0, none⟩) 2 ch_3_0 ch_3_1 t18 et18 _ _) ?_; clear S a w; intro ch18 m le1 a w S
          refine s_store S rfl rfl rfl (s' := [.sl ch18.1.1 ((ST37.un t18).1).length ch18.1.2 (RdS Y71 ch18.1.1 ((ST37.un t18).1)), .sl ch18.2.1.1 ((ST37.un t18).2.1).length ch18.2.1.2 (RdS Y122 ch18.2.1.1 ((ST37.un t18).2.1)), .sl ch18.2.2.1.1 ((ST37.un t18).2.2.1).length ch18.2.2.1.2 (RdS (Ty.arr .u8 20) ch18.2.2.1.1 ((ST37.un t18).2.2.1)), .sl ch18.2.2.2.1.1 ((ST37.un t18).2.2.2.1).length ch18.2.2.2.1.2 (RdS Y133 ch18.2.2.2.1.1 ((ST37.un t18).2.2.2.1)), .one (.int .i64 ((ST37.un t18).2.2.2.2.1)), .sl ch18.2.2.2.2.2.1.1 ((ST37.un t18).2.2.2.2.2.1).length ch18.2.2.2.2.2.1.2 (RdS Y100 ch18.2.2.2.2.2.1.1 ((ST37.un t18).2.2.2.2.2.1)), .one (.bool ((ST37.un t18).2.2.2.2.2.2.1)), .sl ch18.2.2.2.2.2.2.2.1 ((ST37.un t18).2.2.2.2.2.2.2).length ch18.2.2.2.2.2.2.2.2 (SR37 ch18.2.2.2.2.2.2.2.1 ((ST37.un t18).2.2.2.2.2.2.2))]) (.there (.there (.there .here))) T37 rfl rfl ?_; clear S w; intro w S
          refine c_end' ?_
          refine x_blockN ?_
          refine x_thenN ?_
          exact j1 _ true g3 g1 ch_2_0 ch_2_1 ch_2_2 x2 ch18.1.1 ch18.1.2 ((ST37.un t18).1) ch18.2.1.1 ch18.2.1.2 ((ST37.un t18).2.1) ch18.2.2.1.1 ch18.2.2.1.2 ((ST37.un t18).2.2.1) ch18.2.2.2.1.1 ch18.2.2.2.1.2 ((ST37.un t18).2.2.2.1) ((ST37.un t18).2.2.2.2.1) ch18.2.2.2.2.2.1.1 ch18.2.2.2.2.2.1.2 ((ST37.un t18).2.2.2.2.2.1) ((ST37.un t18).2.2.2.2.2.2.1) ch18.2.2.2.2.2.2.2.1 ch18.2.2.2.2.2.2.2.2 ((ST37.un t18).2.2.2.2.2.2.2) a w (S.sub (subR rfl) (.cons (.there .here) (.cons (.there (.there .here)) (.cons (.there (.there .here)) .nil)))) h11
         ·refine c_condF S rfl c9 ?_
          refine c_region ?_
          refine s_bin S rfl rfl rfl rfl ?_; clear S a; intro a S
          refine s_assign S rfl rfl ?_; clear S a; intro a S
          refine c_end ?_
          rcases ite_of h9 with ⟨c10, h10⟩ | ⟨c10, h10⟩ <;> clear h9
          ·refine c_condT S rfl c10 ?_
           refine c_region ?_
           refine s_move S rfl rfl ?_; clear S a; intro a S
           refine s_fieldAddr S rfl I46_1 T40 (by decide) rfl rfl ?_; clear S a; intro a S
           refine s_loada S rfl (.there .here) T40 (s' := [.ints .u8 x3.2.1 20]) rfl rfl ?_; clear S a; intro a S
           obtain ⟨t19, et19, h11⟩ := bind_of h10; clear h10
           refine s_callP S (fun (ch : Unit) => ((.tup []) : D)) N50 rfl rfl (state_State_Destroy_0nil.ok x3.2.1 t19 et19 _ _) ?_; clear S a w; intro ch19 m le1 a w S
           refine c_end ?_
           refine c_region' ?_
           refine s_loada S rfl (.there (.there .here)) T37 (s' := [.sl ch_1_0.1.1 ((ST37.un x1).1).length ch_1_0.1.2 (RdS Y71 ch_1_0.1.1 ((ST37.un x1).1)), .sl ch_1_0.2.1.1 ((ST37.un x1).2.1).length ch_1_0.2.1.2 (RdS Y122 ch_1_0.2.1.1 ((ST37.un x1).2.1)), .sl ch_1_0.2.2.1.1 ((ST37.un x1).2.2.1).length ch_1_0.2.2.1.2 (RdS (Ty.arr .u8 20) ch_1_0.2.2.1.1 ((ST37.un x1).2.2.1)), .sl ch_1_0.2.2.2.1.1 ((ST37.un x1).2.2.2.1).length ch_1_0.2.2.2.1.2 (RdS Y133 ch_1_0.2.2.2.1.1 ((ST37.un x1).2.2.2.1)), .one (.int .i64 ((ST37.un x1).2.2.2.2.1)), .sl ch_1_0.2.2.2.2.2.1.1 ((ST37.un x1).2.2.2.2.2.1).length ch_1_0.2.2.2.2.2.1.2 (RdS Y100 ch_1_0.2.2.2.2.2.1.1 ((ST37.un x1).2.2.2.2.2.1)), .one (.bool ((ST37.un x1).2.2.2.2.2.2.1)), .sl ch_1_0.2.2.2.2.2.2.2.1 ((ST37.un x1).2.2.2.2.2.2.2).length ch_1_0.2.2.2.2.2.2.2.2 (SR37 ch_1_0.2.2.2.2.2.2.2.1 ((ST37.un x1).2.2.2.2.2.2.2))]) rfl rfl ?_; clear S a; intro a S
           refine s_fieldAddr S rfl I46_1 T40 (by decide) rfl rfl ?_; clear S a; intro a S
           refine s_loada S rfl (.there .here) T40 (s' := [.ints .u8 x3.2.1 20]) rfl rfl ?_; clear S a; intro a S
           obtain ⟨t20, et20, h12⟩ := bind_of h11; clear h11
           refine s_callP S (fun (ch : W21) => ((.agg [.sl ch.1.1 ((ST37.un t20).1).length ch.1.2 (RdS Y71 ch.1.1 ((ST37.un t20).1)), .sl ch.2.1.1 ((ST37.un t20).2.1).length ch.2.1.2 (RdS Y122 ch.2.1.1 ((ST37.un t20).2.1)), .sl ch.2.2.1.1 ((ST37.un t20).2.2.1).length ch.2.2.1.2 (RdS (Ty.arr .u8 20) ch.2.2.1.1 ((ST37.un t20).2.2.1)), .sl ch.2.2.2.1.1 ((ST37.un t20).2.2.2.1).length ch.2.2.2.1.2 (RdS Y133 ch.2.2.2.1.1 ((ST37.un t20).2.2.2.1)), .one (.int .i64 ((ST37.un t20).2.2.2.2.1)), .sl ch.2.2.2.2.2.1.1 ((ST37.un t20).2.2.2.2.2.1).length ch.2.2.2.2.2.1.2 (RdS Y100 ch.2.2.2.2.2.1.1 ((ST37.un t20).2.2.2.2.2.1)), .one (.bool ((ST37.un t20).2.2.2.2.2.2.1)), .sl ch.2.2.2.2.2.2.2.1 ((ST37.un t20).2.2.2.2.2.2.2).length ch.2.2.2.2.2.2.2.2 (SR37 ch.2.2.2.2.2.2.2.1 ((ST37.un t20).2.2.2.2.2.2.2))]) : D)) N51 rfl rfl (smithyref14_State_Destroy.ok k x1 x3.2.1 ((ch_1_0.1.1, ch_1_0.1.2), (ch_1_0.2.1.1, ch_1_0.2.1.2), (ch_1_0.2.2.1.1, ch_1_0.2.2.1.2), (ch_1_0.2.2.2.1.1, ch_1_0.2.2.2.1.2), (), (ch_1_0.2.2.2.2.2.1.1, ch_1_0.2.2.2.2.2.1.2), (), (ch_1_0.2.2.2.2.2.2.2.1, ch_1_0.2.2.2.2.2.2.2.2)) t20 et20 _ _) ?_; clear S a w; intro ch20 m le1 a w S
           refine s_store S rfl rfl rfl (s' := [.sl ch20.1.1 ((ST37.un t20).1).length ch20.1.2 (RdS Y71 ch20.1.1 ((ST37.un t20).1)), .sl ch20.2.1.1 ((ST37.un t20).2.1).length ch20.2.1.2 (RdS Y122 ch20.2.1.1 ((ST37.un t20).2.1)), .sl ch20.2.2.1.1 ((ST37.un t20).2.2.1).length ch20.2.2.1.2 (RdS (Ty.arr .u8 20) ch20.2.2.1.1 ((ST37.un t20).2.2.1)), .sl ch20.2.2.2.1.1 ((ST37.un t20).2.2.2.1).length ch20.2.2.2.1.2 (RdS Y133 ch20.2.2.2.1.1 ((ST37.un t20).2.2.2.1)), .one (.int .i64 ((ST37.un t20).2.2.2.2.1)), .sl ch20.2.2.2.2.2.1.1 ((ST37.un t20).2.2.2.2.2.1).length ch20.2.2.2.2.2.1.2 (RdS Y100 ch20.2.2.2.2.2.1.1 ((ST37.un t20).2.2.2.2.2.1)), .one (.bool ((ST37.un t20).2.2.2.2.2.2.1)), .sl ch20.2.2.2.2.2.2.2.1 ((ST37.un t20).2.2.2.2.2.2.2).length ch20.2.2.2.2.2.2.2.2 (SR37 ch20.2.2.2.2.2.2.2.1 ((ST37.un t20).2.2.2.2.2.2.2))]) (.there (.there .here)) T37 rfl rfl ?_; clear S w; intro w S
           refine c_end' ?_
           refine x_blockN ?_
           refine x_thenN ?_
           exact j1 _ true g3 g1 ch_2_0 ch_2_1 ch_2_2 x2 ch20.1.1 ch20.1.2 ((ST37.un t20).1) ch20.2.1.1 ch20.2.1.2 ((ST37.un t20).2.1) ch20.2.2.1.1 ch20.2.2.1.2 ((ST37.un t20).2.2.1) ch20.2.2.2.1.1 ch20.2.2.2.1.2 ((ST37.un t20).2.2.2.1) ((ST37.un t20).2.2.2.2.1) ch20.2.2.2.2.2.1.1 ch20.2.2.2.2.2.1.2 ((ST37.un t20).2.2.2.2.2.1) ((ST37.un t20).2.2.2.2.2.2.1) ch20.2.2.2.2.2.2.2.1 ch20.2.2.2.2.2.2.2.2 ((ST37.un t20).2.2.2.2.2.2.2) a w (S.sub (subR rfl) (.cons .here (.cons (.there .here) (.cons (.there .here) .nil)))) h12
          ·refine c_condF S rfl c10 ?_
           refine c_region ?_
           refine s_bin S rfl rfl rfl rfl ?_; clear S a; intro a S
           refine s_assign S rfl rfl ?_; clear S a; intro a S
           refine c_end ?_
           rcases ite_of h10 with ⟨c11, h11⟩ | ⟨c11, h11⟩ <;> clear h10
           ·refine c_condT S rfl c11 ?_
            refine c_heldS S (.take 1 (.take 3 (.take 4 (.take 5 (.pure 0 (.alts (.run 2 true (.take 6 (.alts (.run 7 true (.alts (.run 8 true (.take 9 .done) .nil)) .nil))) .nil))))))) 10 [Res.cells g3 37 [.one (.slice none 0 0), .one (.slice none 0 0), .one (.slice none 0 0), .one (.slice none 0 0), .one (.int .i64 0), .one (.slice none 0 0), .one (.bool false), .one (.slice none 0 0)], Res.cells g2 46 (Y46.segs x3 ((), (), (), (), (), (ch_3_0, ch_3_1))), Res.cells g1 37 [.sl ch_1_0.1.1 ((ST37.un x1).1).length ch_1_0.1.2 (RdS Y71 ch_1_0.1.1 ((ST37.un x1).1)), .sl ch_1_0.2.1.1 ((ST37.un x1).2.1).length ch_1_0.2.1.2 (RdS Y122 ch_1_0.2.1.1 ((ST37.un x1).2.1)), .sl ch_1_0.2.2.1.1 ((ST37.un x1).2.2.1).length ch_1_0.2.2.1.2 (RdS (Ty.arr .u8 20) ch_1_0.2.2.1.1 ((ST37.un x1).2.2.1)), .sl ch_1_0.2.2.2.1.1 ((ST37.un x1).2.2.2.1).length ch_1_0.2.2.2.1.2 (RdS Y133 ch_1_0.2.2.2.1.1 ((ST37.un x1).2.2.2.1)), .one (.int .i64 ((ST37.un x1).2.2.2.2.1)), .sl ch_1_0.2.2.2.2.2.1.1 ((ST37.un x1).2.2.2.2.2.1).length ch_1_0.2.2.2.2.2.1.2 (RdS Y100 ch_1_0.2.2.2.2.2.1.1 ((ST37.un x1).2.2.2.2.2.1)), .one (.bool ((ST37.un x1).2.2.2.2.2.2.1)), .sl ch_1_0.2.2.2.2.2.2.2.1 ((ST37.un x1).2.2.2.2.2.2.2).length ch_1_0.2.2.2.2.2.2.2.2 (SR37 ch_1_0.2.2.2.2.2.2.2.1 ((ST37.un x1).2.2.2.2.2.2.2))]] (.cons .here (.cons .here (.cons .here .nil))) ⟨Res.stay_cells, Res.stay_cells, Res.stay_cells, trivial⟩ [(5, (.v (.pointer (some ⟨g1, 0, none⟩)))), (0, (.v (.pointer none)))] (subR rfl) (by kernel_rfl) (by kernel_rfl) ?_; clear S; intro w S CL hw le
            refine h_move S CL hw le (subR rfl) rfl rfl rfl trivial ?_; clear S CL a; intro a S CL
            refine h_fieldAddr S CL hw le (subR rfl) rfl I37_7 T35 (by decide) rfl rfl rfl trivial ?_; clear S CL a; intro a S CL
            refine h_loadSl S CL hw le (subR rfl) rfl (.there (.there .here)) T35 (A := ch_1_0.2.2.2.2.2.2.2.1) (len := ((ST37.un x1).2.2.2.2.2.2.2).length) (cap := ch_1_0.2.2.2.2.2.2.2.2) rfl rfl rfl trivial ?_; clear S CL a; intro a S CL
            refine h_lenS S CL hw le (subR rfl) rfl Tryz.underlying35 rfl rfl trivial ?_; clear S CL a; intro a S CL
            refine p_move S rfl rfl rfl trivial ?_; clear S a; intro a S
            refine h_run' S rfl trivial ?_
            obtain ⟨t21, et21, h12⟩ := bind_of h11; clear h11
            refine s_callP S (fun (ch : Unit) => ((.v (.int .i64 t21)) : D)) N13 rfl rfl (state_State_Mark_0nil.ok t21 et21 _ _) ?_; clear S a; intro ch21 m le1 a w S
            replace le := le.trans le1
            replace hw := CL.again hw S (.cons .here (.cons .here (.cons .here .nil))) le
            refine h_back ⟨fun _ => hw, ?_⟩
            replace CL := CL.add (t := 195) (d := (.v (.int .i64 t21))) S rfl rfl
            refine h_build S CL hw le (subR rfl) (ds := [(0, (.v (.int .i64 t21))), (1, (.v (.int .i64 (((ST37.un x1).2.2.2.2.2.2.2).length : Int))))]) (dv := (.agg [.ints .i64 [t21, (((ST37.un x1).2.2.2.2.2.2.2).length : Int)] 2])) rfl (fun _ => by kernel_rfl) ⟨rfl, trivial⟩ rfl rfl trivial ?_; clear S CL a; intro a S CL
            refine h_run' S rfl trivial ?_
            refine s_bldSl S (ty' := (Ty.arr .i64 2)) (ds := [(0, (.agg [.ints .i64 [t21, (((ST37.un x1).2.2.2.2.2.2.2).length : Int)] 2]))]) (z := [0, 0]) (c0 := ()) (ys := [[t21, (((ST37.un x1).2.2.2.2.2.2.2).length : Int)]]) (cs := [()]) rfl Tryz.underlying47 J103 Z103 rfl ⟨rfl, trivial⟩ rfl rfl rfl rfl rfl rfl ?_; clear S a; intro g13 a w S
            replace hw := CL.again hw S (.cons (.there .here) (.cons (.there .here) (.cons (.there .here) .nil))) le
            refine h_back ⟨fun _ => hw, ?_⟩
            refine h_run' S rfl trivial ?_
            obtain ⟨c12, h13⟩ := chk_of h12; clear h12
            refine s_app S (k2 := 1) (ys := [[t21, (((ST37.un x1).2.2.2.2.2.2.2).length : Int)]]) rfl (fun _ _ => (.there (.there (.there (.there .here))))) rfl rfl (S.holds _ (Pull.mem .here).1).1 (Res.row.src (S.holds _ (Pull.mem .here).1)) Tryz.underlying47 J103 c12 rfl ?_; clear S a; intro A8 cp8 a w S
            replace hw := CL.again hw S (.cons (.there .here) (.cons (.there .here) (.cons (.there .here) .nil))) le
            refine h_back ⟨fun _ => hw, ?_⟩
            replace CL := CL.add (t := 201) (d := (.v (.slice A8 (ch_2_1 + 1) cp8))) S rfl rfl
            refine h_assign S CL hw le (subR rfl) rfl rfl rfl trivial ?_; clear S CL a; intro a S CL
            refine h_done ?_; clear CL hw le
            refine x_blockN ?_
            refine x_thenN ?_
            exact j1 _ true g3 g1 A8 (ch_2_1 + 1) cp8 (x2 ++ [[t21, (((ST37.un x1).2.2.2.2.2.2.2).length : Int)]]) ch_1_0.1.1 ch_1_0.1.2 ((ST37.un x1).1) ch_1_0.2.1.1 ch_1_0.2.1.2 ((ST37.un x1).2.1) ch_1_0.2.2.1.1 ch_1_0.2.2.1.2 ((ST37.un x1).2.2.1) ch_1_0.2.2.2.1.1 ch_1_0.2.2.2.1.2 ((ST37.un x1).2.2.2.1) ((ST37.un x1).2.2.2.2.1) ch_1_0.2.2.2.2.2.1.1 ch_1_0.2.2.2.2.2.1.2 ((ST37.un x1).2.2.2.2.2.1) ((ST37.un x1).2.2.2.2.2.2.1) ch_1_0.2.2.2.2.2.2.2.1 ch_1_0.2.2.2.2.2.2.2.2 ((ST37.un x1).2.2.2.2.2.2.2) a w (S.sub (subR rfl) (.cons (.there .here) (.cons (.there (.there .here)) (.cons (.there (.there .here)) .nil)))) h13
           ·refine c_condF S rfl c11 ?_
            refine c_region ?_
            refine s_move S rfl rfl ?_; clear S a; intro a S
            refine s_lenO S rfl (.there (.there (.there .here))) Tryz.underlying47 rfl ?_; clear S a; intro a S
            refine s_assign S rfl rfl ?_; clear S a; intro a S
            refine c_end ?_
            refine c_region ?_
            refine s_move S rfl rfl ?_; clear S a; intro a S
            refine s_bin S rfl rfl rfl rfl ?_; clear S a; intro a S
            refine c_end ?_
            rcases ite_of h11 with ⟨c13, h12⟩ | ⟨c13, h12⟩ <;> clear h11
            ·refine c_condT S rfl c13 ?_
             refine c_region ?_
             refine s_fieldAddr S rfl I46_4 T41 (by decide) rfl rfl ?_; clear S a; intro a S
             refine s_load1 S rfl (.there .here) T41 (v := (.int .u64 x3.2.2.2.2.1)) rfl rfl ?_; clear S a; intro a S
             refine s_move S rfl rfl ?_; clear S a; intro a S
             refine s_conv S rfl rfl Tryz.underlying41 rfl ?_; clear S a; intro a S
             obtain ⟨c14, h13⟩ := chk_of h12; clear h12
             refine s_rem S rfl rfl c14 rfl ?_; clear S a; intro a S
             refine s_conv S rfl rfl Tryz.underlying3 rfl ?_; clear S a; intro a S
             refine s_assign S rfl rfl ?_; clear S a; intro a S
             refine c_end ?_
             refine c_region ?_
             refine s_move S rfl rfl ?_; clear S a; intro a S
             refine s_move S rfl rfl ?_; clear S a; intro a S
             refine s_move S rfl rfl ?_; clear S a; intro a S
             obtain ⟨c15, h14⟩ := chk_of h13; clear h13
             refine s_iaddrO S (ty' := (Ty.arr .i64 2)) rfl (.there (.there (.there .here))) rfl Tryz.underlying47 T103 c15.1 c15.2 rfl ?_; clear S a; intro g14 a hA1 S
             refine s_iaddr S (o' := Int.toNat (wr .i64 (Int.tmod x3.2.2.2.2.1 (wr .u64 ((x2).length : Int)))) * ((Ty.arr .i64 2)).size + 0) rfl rfl Tryz.underlying103 T3 (by decide) (by decide) rfl rfl ?_; clear S a; intro a S
             refine s_ldRi S (ty' := (Ty.arr .i64 2)) (i := (wr .i64 (Int.tmod x3.2.2.2.2.1 (wr .u64 ((x2).length : Int))))) (off := 0) (j := 0) rfl hA1 (.there (.there (.there .here))) T3 c15.1 c15.2 rfl (fun _ => ⟨_, .here⟩) rfl (by decide) rfl ?_; clear S a; intro a S
             obtain ⟨t22, et22, h15⟩ := bind_of h14; clear h14
             refine s_callP S (fun (ch : Unit) => ((.tup []) : D)) N14 rfl rfl (state_State_Back_0nil.ok k (rd (gt x2 (wr .i64 (Int.tmod x3.2.2.2.2.1 (wr .u64 ((x2).length : Int))))) 0) t22 et22 _ _) ?_; clear S a w; intro ch22 m le1 a w S
             refine c_end ?_
             refine wp_seq (c_heldS S (.take 0 (.take 1 (.take 2 (.alts (.run 3 true (.take 4 (.alts (.run 5 true (.alts (.run 6 true (.alts (.run 7 false .done .nil)) .nil)) .nil))) .nil))))) 7 [Res.cells g3 37 [.one (.slice none 0 0), .one (.slice none 0 0), .one (.slice none 0 0), .one (.slice none 0 0), .one (.int .i64 0), .one (.slice none 0 0), .one (.bool false), .one (.slice none 0 0)], Res.cells g2 46 (Y46.segs x3 ((), (), (), (), (), (ch_3_0, ch_3_1))), Res.cells g1 37 [.sl ch_1_0.1.1 ((ST37.un x1).1).length ch_1_0.1.2 (RdS Y71 ch_1_0.1.1 ((ST37.un x1).1)), .sl ch_1_0.2.1.1 ((ST37.un x1).2.1).length ch_1_0.2.1.2 (RdS Y122 ch_1_0.2.1.1 ((ST37.un x1).2.1)), .sl ch_1_0.2.2.1.1 ((ST37.un x1).2.2.1).length ch_1_0.2.2.1.2 (RdS (Ty.arr .u8 20) ch_1_0.2.2.1.1 ((ST37.un x1).2.2.1)), .sl ch_1_0.2.2.2.1.1 ((ST37.un x1).2.2.2.1).length ch_1_0.2.2.2.1.2 (RdS Y133 ch_1_0.2.2.2.1.1 ((ST37.un x1).2.2.2.1)), .one (.int .i64 ((ST37.un x1).2.2.2.2.1)), .sl ch_1_0.2.2.2.2.2.1.1 ((ST37.un x1).2.2.2.2.2.1).length ch_1_0.2.2.2.2.2.1.2 (RdS Y100 ch_1_0.2.2.2.2.2.1.1 ((ST37.un x1).2.2.2.2.2.1)), .one (.bool ((ST37.un x1).2.2.2.2.2.2.1)), .sl ch_1_0.2.2.2.2.2.2.2.1 ((ST37.un x1).2.2.2.2.2.2.2).length ch_1_0.2.2.2.2.2.2.2.2 (SR37 ch_1_0.2.2.2.2.2.2.2.1 ((ST37.un x1).2.2.2.2.2.2.2))]] (.cons .here (.cons .here (.cons .here .nil))) ⟨Res.stay_cells, Res.stay_cells, Res.stay_cells, trivial⟩ [(16, (.v (.int .i64 (wr .i64 (Int.tmod x3.2.2.2.2.1 (wr .u64 ((x2).length : Int))))))), (5, (.v (.pointer (some ⟨g1, 0, none⟩)))), (2, (.v (.slice ch_2_0 ch_2_1 ch_2_2)))] (subR rfl) (by kernel_rfl) (by kernel_rfl) ?_); clear S; intro w S CL hw le
             refine h_loada S CL hw le (subR rfl) rfl (.there (.there .here)) T37 (s' := [.sl ch_1_0.1.1 ((ST37.un x1).1).length ch_1_0.1.2 (RdS Y71 ch_1_0.1.1 ((ST37.un x1).1)), .sl ch_1_0.2.1.1 ((ST37.un x1).2.1).length ch_1_0.2.1.2 (RdS Y122 ch_1_0.2.1.1 ((ST37.un x1).2.1)), .sl ch_1_0.2.2.1.1 ((ST37.un x1).2.2.1).length ch_1_0.2.2.1.2 (RdS (Ty.arr .u8 20) ch_1_0.2.2.1.1 ((ST37.un x1).2.2.1)), .sl ch_1_0.2.2.2.1.1 ((ST37.un x1).2.2.2.1).length ch_1_0.2.2.2.1.2 (RdS Y133 ch_1_0.2.2.2.1.1 ((ST37.un x1).2.2.2.1)), .one (.int .i64 ((ST37.un x1).2.2.2.2.1)), .sl ch_1_0.2.2.2.2.2.1.1 ((ST37.un x1).2.2.2.2.2.1).length ch_1_0.2.2.2.2.2.1.2 (RdS Y100 ch_1_0.2.2.2.2.2.1.1 ((ST37.un x1).2.2.2.2.2.1)), .one (.bool ((ST37.un x1).2.2.2.2.2.2.1)), .sl ch_1_0.2.2.2.2.2.2.2.1 ((ST37.un x1).2.2.2.2.2.2.2).length ch_1_0.2.2.2.2.2.2.2.2 (SR37 ch_1_0.2.2.2.2.2.2.2.1 ((ST37.un x1).2.2.2.2.2.2.2))]) rfl rfl rfl trivial ?_; clear S CL a; intro a S CL
             refine h_move S CL hw le (subR rfl) rfl rfl rfl trivial ?_; clear S CL a; intro a S CL
             refine h_move S CL hw le (subR rfl) rfl rfl rfl trivial ?_; clear S CL a; intro a S CL
             refine h_run' S rfl trivial ?_
             refine s_iaddrO S (ty' := (Ty.arr .i64 2)) rfl (.there (.there (.there .here))) rfl Tryz.underlying47 T103 c15.1 c15.2 rfl ?_; clear S a; intro g15 a hA2 S
             replace hw := CL.again hw S (.cons .here (.cons .here (.cons .here .nil))) le
             refine h_back ⟨fun _ => hw, ?_⟩
             replace CL := CL.add (t := 39) (d := (.v (.pointer (some ⟨g15, Int.toNat (wr .i64 (Int.tmod x3.2.2.2.2.1 (wr .u64 ((x2).length : Int)))) * ((Ty.arr .i64 2)).size, none⟩)))) S rfl rfl
             refine h_iaddr S CL hw le (subR rfl) (o' := Int.toNat (wr .i64 (Int.tmod x3.2.2.2.2.1 (wr .u64 ((x2).length : Int)))) * ((Ty.arr .i64 2)).size + 1) rfl rfl Tryz.underlying103 T3 (by decide) (by decide) rfl rfl rfl trivial ?_; clear S CL a; intro a S CL
             refine h_run' S rfl trivial ?_
             refine s_ldRi S (ty' := (Ty.arr .i64 2)) (i := (wr .i64 (Int.tmod x3.2.2.2.2.1 (wr .u64 ((x2).length : Int))))) (off := 1) (j := 1) rfl hA2 (.there (.there (.there .here))) T3 c15.1 c15.2 rfl (fun _ => ⟨_, .here⟩) rfl (by decide) rfl ?_; clear S a; intro a S
             replace hw := CL.again hw S (.cons .here (.cons .here (.cons .here .nil))) le
             refine h_back ⟨fun _ => hw, ?_⟩
             refine h_run' S rfl trivial ?_
             obtain ⟨t23, et23, h16⟩ := bind_of h15; clear h15
             refine s_callP S (fun (ch : W21) => ((.agg [.sl ch.1.1 ((ST37.un t23).1).length ch.1.2 (RdS Y71 ch.1.1 ((ST37.un t23).1)), .sl ch.2.1.1 ((ST37.un t23).2.1).length ch.2.1.2 (RdS Y122 ch.2.1.1 ((ST37.un t23).2.1)), .sl ch.2.2.1.1 ((ST37.un t23).2.2.1).length ch.2.2.1.2 (RdS (Ty.arr .u8 20) ch.2.2.1.1 ((ST37.un t23).2.2.1)), .sl ch.2.2.2.1.1 ((ST37.un t23).2.2.2.1).length ch.2.2.2.1.2 (RdS Y133 ch.2.2.2.1.1 ((ST37.un t23).2.2.2.1)), .one (.int .i64 ((ST37.un t23).2.2.2.2.1)), .sl ch.2.2.2.2.2.1.1 ((ST37.un t23).2.2.2.2.2.1).length ch.2.2.2.2.2.1.2 (RdS Y100 ch.2.2.2.2.2.1.1 ((ST37.un t23).2.2.2.2.2.1)), .one (.bool ((ST37.un t23).2.2.2.2.2.2.1)), .sl ch.2.2.2.2.2.2.2.1 ((ST37.un t23).2.2.2.2.2.2.2).length ch.2.2.2.2.2.2.2.2 (SR37 ch.2.2.2.2.2.2.2.1 ((ST37.un t23).2.2.2.2.2.2.2))]) : D)) N52 rfl rfl (smithyref14_State_Back.ok x1 (rd (gt x2 (wr .i64 (Int.tmod x3.2.2.2.2.1 (wr .u64 ((x2).length : Int))))) 1) ((ch_1_0.1.1, ch_1_0.1.2), (ch_1_0.2.1.1, ch_1_0.2.1.2), (ch_1_0.2.2.1.1, ch_1_0.2.2.1.2), (ch_1_0.2.2.2.1.1, ch_1_0.2.2.2.1.2), (), (ch_1_0.2.2.2.2.2.1.1, ch_1_0.2.2.2.2.2.1.2), (), (ch_1_0.2.2.2.2.2.2.2.1, ch_1_0.2.2.2.2.2.2.2.2)) t23 et23 _ _) ?_; clear S a; intro ch23 m le1 a w S
             replace le := le.trans le1
             replace hw := CL.again hw S (.cons .here (.cons .here (.cons .here .nil))) le
             refine h_back ⟨fun _ => hw, ?_⟩
             refine h_run' S rfl trivial ?_
             refine s_store S rfl rfl rfl (s' := [.sl ch23.1.1 ((ST37.un t23).1).length ch23.1.2 (RdS Y71 ch23.1.1 ((ST37.un t23).1)), .sl ch23.2.1.1 ((ST37.un t23).2.1).length ch23.2.1.2 (RdS Y122 ch23.2.1.1 ((ST37.un t23).2.1)), .sl ch23.2.2.1.1 ((ST37.un t23).2.2.1).length ch23.2.2.1.2 (RdS (Ty.arr .u8 20) ch23.2.2.1.1 ((ST37.un t23).2.2.1)), .sl ch23.2.2.2.1.1 ((ST37.un t23).2.2.2.1).length ch23.2.2.2.1.2 (RdS Y133 ch23.2.2.2.1.1 ((ST37.un t23).2.2.2.1)), .one (.int .i64 ((ST37.un t23).2.2.2.2.1)), .sl ch23.2.2.2.2.2.1.1 ((ST37.un t23).2.2.2.2.2.1).length ch23.2.2.2.2.2.1.2 (RdS Y100 ch23.2.2.2.2.2.1.1 ((ST37.un t23).2.2.2.2.2.1)), .one (.bool ((ST37.un t23).2.2.2.2.2.2.1)), .sl ch23.2.2.2.2.2.2.2.1 ((ST37.un t23).2.2.2.2.2.2.2).length ch23.2.2.2.2.2.2.2.2 (SR37 ch23.2.2.2.2.2.2.2.1 ((ST37.un t23).2.2.2.2.2.2.2))]) (.there (.there .here)) T37 rfl rfl ?_; clear S; intro w S
             refine h_back ⟨fun h => (nomatch h), ?_⟩
             refine h_done ?_; clear CL hw le
             refine x_thenN ?_
             refine c_region' ?_
             refine s_move S rfl rfl ?_; clear S a; intro a S
             refine s_move S rfl rfl ?_; clear S a; intro a S
             refine s_bin S rfl rfl rfl rfl ?_; clear S a; intro a S
             obtain ⟨c16, h17⟩ := chk_of h16; clear h16
             refine s_cutO S (j := (wr .i64 ((wr .i64 (Int.tmod x3.2.2.2.2.1 (wr .u64 ((x2).length : Int)))) + 1))) rfl (.there (.there (.there .here))) Tryz.underlying47 T103 (.inl rfl) rfl c16.1 c16.2 rfl ?_; clear S a; intro a S
             refine s_assign S rfl rfl ?_; clear S a; intro a S
             refine c_end' ?_
             refine x_blockN ?_
             refine x_thenN ?_
             exact j1 _ true g3 g1 ch_2_0 (Int.toNat (wr .i64 ((wr .i64 (Int.tmod x3.2.2.2.2.1 (wr .u64 ((x2).length : Int)))) + 1))) ch_2_2 (x2.take (Int.toNat (wr .i64 ((wr .i64 (Int.tmod x3.2.2.2.2.1 (wr .u64 ((x2).length : Int)))) + 1)))) ch23.1.1 ch23.1.2 ((ST37.un t23).1) ch23.2.1.1 ch23.2.1.2 ((ST37.un t23).2.1) ch23.2.2.1.1 ch23.2.2.1.2 ((ST37.un t23).2.2.1) ch23.2.2.2.1.1 ch23.2.2.2.1.2 ((ST37.un t23).2.2.2.1) ((ST37.un t23).2.2.2.2.1) ch23.2.2.2.2.2.1.1 ch23.2.2.2.2.2.1.2 ((ST37.un t23).2.2.2.2.2.1) ((ST37.un t23).2.2.2.2.2.2.1) ch23.2.2.2.2.2.2.2.1 ch23.2.2.2.2.2.2.2.2 ((ST37.un t23).2.2.2.2.2.2.2) a w (S.sub (subR rfl) (.cons .here (.cons (.there .here) (.cons (.there .here) .nil)))) h17
            ·refine c_condF S rfl c13 ?_
             refine wp_skip ?_
             refine x_blockN ?_
             refine x_thenN ?_
             exact j1 _ true g3 g1 ch_2_0 ch_2_1 ch_2_2 x2 ch_1_0.1.1 ch_1_0.1.2 ((ST37.un x1).1) ch_1_0.2.1.1 ch_1_0.2.1.2 ((ST37.un x1).2.1) ch_1_0.2.2.1.1 ch_1_0.2.2.1.2 ((ST37.un x1).2.2.1) ch_1_0.2.2.2.1.1 ch_1_0.2.2.2.1.2 ((ST37.un x1).2.2.2.1) ((ST37.un x1).2.2.2.2.1) ch_1_0.2.2.2.2.2.1.1 ch_1_0.2.2.2.2.2.1.2 ((ST37.un x1).2.2.2.2.2.1) ((ST37.un x1).2.2.2.2.2.2.1) ch_1_0.2.2.2.2.2.2.2.1 ch_1_0.2.2.2.2.2.2.2.2 ((ST37.un x1).2.2.2.2.2.2.2) a w (S.sub (subR rfl) (.cons .here (.cons (.there .here) (.cons (.there .here) .nil)))) h12
abbrev state_State_Missing_0nil.Ty : Type := Option ((List Int) × Bool)
def state_State_Missing_0nil.Ctr (s : state_State_Missing_0nil.Ty) : Prop := ∀ (r : (List Int) × Bool) (h0 : s = some r) (mi : Mem) (w0 : World), okL mi [(.v (.pointer none))] → Pre mi [] w0 → Calls Tryz.prog 16 (([(.v (.pointer none))] : List D).map D.val).toArray w0 (RetX mi [] (fun (ch : Unit) => ((.tup [(true, [.ints .u8 r.1 20]), (false, [.one (.bool r.2)])]) : D)) (fun (ch : Unit) => []) w0)
def state_State_Missing_0nil.f : Option ((List Int) × Bool) := some ([0, 0, 0, 0, 0, 0, 0, 0, 0, 0, 0, 0, 0, 0, 0, 0, 0, 0, 0, 0], false)
theorem state_State_Missing_0nil.ok : state_State_Missing_0nil.Ctr (state_State_Missing_0nil.f) := by
 intro r h0 mi w0 ok hm
 delta state_State_Missing_0nil.f at h0
 refine c_enterX (n := 21) [(.v (.pointer none))] (l := [(0, (.v (.pointer none)))]) Tryz.func16 rfl rfl rfl rfl ok hm ?_
 clear ok hm
 intro b0 hb a S
 refine c_region ?_
 refine s_alloc S Z40 rfl ⟨rfl, trivial⟩ rfl ?_; clear S a; intro g1 a w S
 refine s_assign S rfl rfl ?_; clear S a; intro a S
 refine c_end ?_
 refine wp_seq ?_
 refine c_region ?_
 refine s_move S rfl rfl ?_; clear S a; intro a S
 refine s_eqp S (b := true) rfl rfl Tryz.underlying26 rfl rfl ?_; clear S a; intro a S
 refine s_move S rfl rfl ?_; clear S a; intro a S
 refine s_gF S (b := true) rfl rfl rfl rfl ?_; clear S a; intro a S
 refine s_gF S (b := true) rfl rfl rfl rfl ?_; clear S a; intro a S
 refine s_gF S (b := true) rfl rfl rfl rfl ?_; clear S a; intro a S
 refine s_gF S (b := true) rfl rfl rfl rfl ?_; clear S a; intro a S
 refine s_gF S (b := true) rfl rfl rfl rfl ?_; clear S a; intro a S
 refine s_gF S (b := true) rfl rfl rfl rfl ?_; clear S a; intro a S
 refine s_pick S (b := true) (hc_of rfl rfl) rfl rfl ?_; clear S a; intro a S
 refine c_end ?_
 refine c_condT S rfl rfl ?_
 refine c_region ?_
 refine s_build S (ds := []) (dv := (.agg [.ints .u8 [0, 0, 0, 0, 0, 0, 0, 0, 0, 0, 0, 0, 0, 0, 0, 0, 0, 0, 0, 0] 20])) rfl (fun _ => by kernel_rfl) ⟨rfl, trivial⟩ rfl ?_; clear S a; intro a S
 refine s_store S rfl rfl rfl (s' := [.ints .u8 [0, 0, 0, 0, 0, 0, 0, 0, 0, 0, 0, 0, 0, 0, 0, 0, 0, 0, 0, 0] 20]) .here T40 rfl rfl ?_; clear S w; intro w S
 refine s_assign S rfl rfl ?_; clear S a; intro a S
 refine c_end ?_
 refine wp_ret ?_
 refine x_thenR ?_
 obtain rfl := Option.some.inj h0
 exact b_ret2 (d1 := (.agg [.ints .u8 [0, 0, 0, 0, 0, 0, 0, 0, 0, 0, 0, 0, 0, 0, 0, 0, 0, 0, 0, 0] 20])) (d2 := (.v (.bool false))) S rfl (resD_cell rfl .here T40 rfl rfl) rfl fun ok1 ok2 => S.retX (Hx := []) hb _ _ (() : Unit) .nil ⟨ok1, ⟨ok2, trivial⟩, trivial⟩
abbrev state_State_Empty_0nil.Ty : Type := (List Int) → Option Bool
def state_State_Empty_0nil.Ctr (s : state_State_Empty_0nil.Ty) : Prop := ∀ (x1 : List Int) (r : Bool) (h0 : s x1 = some r) (mi : Mem) (w0 : World), okL mi [(.v (.pointer none)), (.agg [.ints .u8 x1 20])] → Pre mi [] w0 → Calls Tryz.prog 17 (([(.v (.pointer none)), (.agg [.ints .u8 x1 20])] : List D).map D.val).toArray w0 (RetX mi [] (fun (ch : Unit) => ((.v (.bool r)) : D)) (fun (ch : Unit) => []) w0)
def state_State_Empty_0nil.f (x1 : List Int) : Option Bool := some false
theorem state_State_Empty_0nil.ok : state_State_Empty_0nil.Ctr (state_State_Empty_0nil.f) := by
 intro x1 r h0 mi w0 ok hm
 delta state_State_Empty_0nil.f at h0
 refine c_enterX (n := 29) [(.v (.pointer none)), (.agg [.ints .u8 x1 20])] (l := [(0, (.v (.pointer none))), (1, (.agg [.ints .u8 x1 20]))]) Tryz.func17 rfl rfl rfl rfl ok hm ?_
 clear ok hm
 intro b0 hb a S
 refine c_region ?_
 refine s_box S rfl rfl rfl ?_; clear S a; intro g1 a w S
 refine s_assign S rfl rfl ?_; clear S a; intro a S
 refine c_end ?_
 refine wp_seq ?_
 refine c_region ?_
 refine s_move S rfl rfl ?_; clear S a; intro a S
 refine s_eqp S (b := true) rfl rfl Tryz.underlying26 rfl rfl ?_; clear S a; intro a S
 refine c_end ?_
 refine c_condT S rfl rfl ?_
 refine c_region ?_
 refine s_assign S rfl rfl ?_; clear S a; intro a S
 refine c_end ?_
 refine wp_ret ?_
 refine x_thenR ?_
 obtain rfl := Option.some.inj h0
 exact b_ret1 (d := (.v (.bool false))) S rfl rfl fun ok => S.retX (Hx := []) hb _ _ (() : Unit) .nil ok
abbrev state_State_Nonce_0nil.Ty : Type := (List Int) → Option Int
def state_State_Nonce_0nil.Ctr (s : state_State_Nonce_0nil.Ty) : Prop := ∀ (x1 : List Int) (r : Int) (h0 : s x1 = some r) (mi : Mem) (w0 : World), okL mi [(.v (.pointer none)), (.agg [.ints .u8 x1 20])] → Pre mi [] w0 → Calls Tryz.prog 18 (([(.v (.pointer none)), (.agg [.ints .u8 x1 20])] : List D).map D.val).toArray w0 (RetX mi [] (fun (ch : Unit) => ((.v (.int .u64 r)) : D)) (fun (ch : Unit) => []) w0)
def state_State_Nonce_0nil.f (x1 : List Int) : Option Int := some 0
theorem state_State_Nonce_0nil.ok : state_State_Nonce_0nil.Ctr (state_State_Nonce_0nil.f) := by
 intro x1 r h0 mi w0 ok hm
 delta state_State_Nonce_0nil.f at h0
 refine c_enterX (n := 14) [(.v (.pointer none)), (.agg [.ints .u8 x1 20])] (l := [(0, (.v (.pointer none))), (1, (.agg [.ints .u8 x1 20]))]) Tryz.func18 rfl rfl rfl rfl ok hm ?_
 clear ok hm
 intro b0 hb a S
 refine c_region ?_
 refine s_box S rfl rfl rfl ?_; clear S a; intro g1 a w S
 refine s_assign S rfl rfl ?_; clear S a; intro a S
 refine c_end ?_
 refine wp_seq ?_
 refine c_region ?_
 refine s_move S rfl rfl ?_; clear S a; intro a S
 refine s_eqp S (b := true) rfl rfl Tryz.underlying26 rfl rfl ?_; clear S a; intro a S
 refine c_end ?_
 refine c_condT S rfl rfl ?_
 refine c_region ?_
 refine s_assign S rfl rfl ?_; clear S a; intro a S
 refine c_end ?_
 refine wp_ret ?_
 refine x_thenR ?_
 obtain rfl := Option.some.inj h0
 exact b_ret1 (d := (.v (.int .u64 0))) S rfl rfl fun ok => S.retX (Hx := []) hb _ _ (() : Unit) .nil ok
abbrev state_State_Balance_0nil.Ty : Type := (List Int) → Option (List Int)
def state_State_Balance_0nil.Ctr (s : state_State_Balance_0nil.Ty) : Prop := ∀ (x1 : List Int) (r : List Int) (h0 : s x1 = some r) (mi : Mem) (w0 : World), okL mi [(.v (.pointer none)), (.agg [.ints .u8 x1 20])] → Pre mi [] w0 → Calls Tryz.prog 19 (([(.v (.pointer none)), (.agg [.ints .u8 x1 20])] : List D).map D.val).toArray w0 (RetX mi [] (fun (ch : Unit) => ((.agg [.ints .u64 r 4]) : D)) (fun (ch : Unit) => []) w0)
def state_State_Balance_0nil.f (x1 : List Int) : Option (List Int) := some [0, 0, 0, 0]
theorem state_State_Balance_0nil.ok : state_State_Balance_0nil.Ctr (state_State_Balance_0nil.f) := by
 intro x1 r h0 mi w0 ok hm
 delta state_State_Balance_0nil.f at h0
 refine c_enterX (n := 15) [(.v (.pointer none)), (.agg [.ints .u8 x1 20])] (l := [(0, (.v (.pointer none))), (1, (.agg [.ints .u8 x1 20]))]) Tryz.func19 rfl rfl rfl rfl ok hm ?_
 clear ok hm
 intro b0 hb a S
 refine c_region ?_
 refine s_box S rfl rfl rfl ?_; clear S a; intro g1 a w S
 refine s_alloc S Z43 rfl ⟨rfl, trivial⟩ rfl ?_; clear S a w; intro g2 a w S
 refine c_end ?_
 refine wp_seq ?_
 refine c_region ?_
 refine s_move S rfl rfl ?_; clear S a; intro a S
 refine s_eqp S (b := true) rfl rfl Tryz.underlying26 rfl rfl ?_; clear S a; intro a S
 refine c_end ?_
 refine c_condT S rfl rfl ?_
 refine c_region ?_
 refine s_build S (ds := []) (dv := (.agg [.ints .u64 [0, 0, 0, 0] 4])) rfl (fun _ => by kernel_rfl) ⟨rfl, trivial⟩ rfl ?_; clear S a; intro a S
 refine s_store S rfl rfl rfl (s' := [.ints .u64 [0, 0, 0, 0] 4]) .here T43 rfl rfl ?_; clear S w; intro w S
 refine c_end ?_
 refine wp_ret ?_
 refine x_thenR ?_
 obtain rfl := Option.some.inj h0
 exact b_ret1 (d := (.agg [.ints .u64 [0, 0, 0, 0] 4])) S rfl (resD_cell rfl .here T43 rfl rfl) fun ok => S.retX (Hx := []) hb _ _ (() : Unit) .nil ok
abbrev state_State_Code_0nil.Ty : Type := (List Int) → Option (List Int)
def state_State_Code_0nil.Ctr (s : state_State_Code_0nil.Ty) : Prop := ∀ (x1 : List Int) (r : List Int) (h0 : s x1 = some r) (mi : Mem) (w0 : World), okL mi [(.v (.pointer none)), (.agg [.ints .u8 x1 20])] → Pre mi [] w0 → Calls Tryz.prog 20 (([(.v (.pointer none)), (.agg [.ints .u8 x1 20])] : List D).map D.val).toArray w0 (RetX mi [] (fun (ch : (Option Addr) × Nat) => ((.sl ch.1 (r).length ch.2 (RdS (Ty.int .u8) ch.1 r)) : D)) (fun (ch : (Option Addr) × Nat) => []) w0)
def state_State_Code_0nil.f (x1 : List Int) : Option (List Int) := some ([] : List Int)
theorem state_State_Code_0nil.ok : state_State_Code_0nil.Ctr (state_State_Code_0nil.f) := by
 intro x1 r h0 mi w0 ok hm
 delta state_State_Code_0nil.f at h0
 refine c_enterX (n := 15) [(.v (.pointer none)), (.agg [.ints .u8 x1 20])] (l := [(0, (.v (.pointer none))), (1, (.agg [.ints .u8 x1 20]))]) Tryz.func20 rfl rfl rfl rfl ok hm ?_
 clear ok hm
 intro b0 hb a S
 refine c_region ?_
 refine s_box S rfl rfl rfl ?_; clear S a; intro g1 a w S
 refine s_assign S rfl rfl ?_; clear S a; intro a S
 refine c_end ?_
 refine wp_seq ?_
 refine c_region ?_
 refine s_move S rfl rfl ?_; clear S a; intro a S
 refine s_eqp S (b := true) rfl rfl Tryz.underlying26 rfl rfl ?_; clear S a; intro a S
 refine c_end ?_
 refine c_condT S rfl rfl ?_
 refine c_region ?_
 refine s_assign S rfl rfl ?_; clear S a; intro a S
 refine c_end ?_
 refine wp_ret ?_
 refine x_thenR ?_
 replace S := S.slot (u := 4) (d' := (.sl none (([] : List Int)).length 0 (RdS (Ty.int .u8) none ([] : List Int)))) rfl rfl ok_nil
 obtain rfl := Option.some.inj h0
 exact b_ret1 (d := (.sl none (([] : List Int)).length 0 (RdS (Ty.int .u8) none ([] : List Int)))) S rfl rfl fun ok => S.retX (Hx := []) hb _ _ ((none, 0) : (Option Addr) × Nat) .nil ok
abbrev state_State_Load_0nil.Ty : Type := (List Int) → (List Int) → Option (List Int)
def state_State_Load_0nil.Ctr (s : state_State_Load_0nil.Ty) : Prop := ∀ (x1 : List Int) (x2 : List Int) (r : List Int) (h0 : s x1 x2 = some r) (mi : Mem) (w0 : World), okL mi [(.v (.pointer none)), (.agg [.ints .u8 x1 20]), (.agg [.ints .u64 x2 4])] → Pre mi [] w0 → Calls Tryz.prog 21 (([(.v (.pointer none)), (.agg [.ints .u8 x1 20]), (.agg [.ints .u64 x2 4])] : List D).map D.val).toArray w0 (RetX mi [] (fun (ch : Unit) => ((.agg [.ints .u64 r 4]) : D)) (fun (ch : Unit) => []) w0)
def state_State_Load_0nil.f (x1 : List Int) (x2 : List Int) : Option (List Int) := some [0, 0, 0, 0]
theorem state_State_Load_0nil.ok : state_State_Load_0nil.Ctr (state_State_Load_0nil.f) := by
 intro x1 x2 r h0 mi w0 ok hm
 delta state_State_Load_0nil.f at h0
 refine c_enterX (n := 29) [(.v (.pointer none)), (.agg [.ints .u8 x1 20]), (.agg [.ints .u64 x2 4])] (l := [(0, (.v (.pointer none))), (1, (.agg [.ints .u8 x1 20])), (2, (.agg [.ints .u64 x2 4]))]) Tryz.func21 rfl rfl rfl rfl ok hm ?_
 clear ok hm
 intro b0 hb a S
 refine c_region ?_
 refine s_box S rfl rfl rfl ?_; clear S a; intro g1 a w S
 refine s_box S rfl rfl rfl ?_; clear S a w; intro g2 a w S
 refine s_alloc S Z43 rfl ⟨rfl, trivial⟩ rfl ?_; clear S a w; intro g3 a w S
 refine c_end ?_
 refine wp_seq ?_
 refine c_region ?_
 refine s_move S rfl rfl ?_; clear S a; intro a S
 refine s_eqp S (b := true) rfl rfl Tryz.underlying26 rfl rfl ?_; clear S a; intro a S
 refine c_end ?_
 refine c_condT S rfl rfl ?_
 refine c_region ?_
 refine s_build S (ds := []) (dv := (.agg [.ints .u64 [0, 0, 0, 0] 4])) rfl (fun _ => by kernel_rfl) ⟨rfl, trivial⟩ rfl ?_; clear S a; intro a S
 refine s_store S rfl rfl rfl (s' := [.ints .u64 [0, 0, 0, 0] 4]) .here T43 rfl rfl ?_; clear S w; intro w S
 refine c_end ?_
 refine wp_ret ?_
 refine x_thenR ?_
 obtain rfl := Option.some.inj h0
 exact b_ret1 (d := (.agg [.ints .u64 [0, 0, 0, 0] 4])) S rfl (resD_cell rfl .here T43 rfl rfl) fun ok => S.retX (Hx := []) hb _ _ (() : Unit) .nil ok
abbrev state_State_First_0nil.Ty : Type := (List Int) → (List Int) → Option (List Int)
def state_State_First_0nil.Ctr (s : state_State_First_0nil.Ty) : Prop := ∀ (x1 : List Int) (x2 : List Int) (r : List Int) (h0 : s x1 x2 = some r) (mi : Mem) (w0 : World), okL mi [(.v (.pointer none)), (.agg [.ints .u8 x1 20]), (.agg [.ints .u64 x2 4])] → Pre mi [] w0 → Calls Tryz.prog 22 (([(.v (.pointer none)), (.agg [.ints .u8 x1 20]), (.agg [.ints .u64 x2 4])] : List D).map D.val).toArray w0 (RetX mi [] (fun (ch : Unit) => ((.agg [.ints .u64 r 4]) : D)) (fun (ch : Unit) => []) w0)
def state_State_First_0nil.f (x1 : List Int) (x2 : List Int) : Option (List Int) := some [0, 0, 0, 0]
theorem state_State_First_0nil.ok : state_State_First_0nil.Ctr (state_State_First_0nil.f) := by
 intro x1 x2 r h0 mi w0 ok hm
 delta state_State_First_0nil.f at h0
 refine c_enterX (n := 25) [(.v (.pointer none)), (.agg [.ints .u8 x1 20]), (.agg [.ints .u64 x2 4])] (l := [(0, (.v (.pointer none))), (1, (.agg [.ints .u8 x1 20])), (2, (.agg [.ints .u64 x2 4]))]) Tryz.func22 rfl rfl rfl rfl ok hm ?_
 clear ok hm
 intro b0 hb a S
 refine c_region ?_
 refine s_box S rfl rfl rfl ?_; clear S a; intro g1 a w S
 refine s_box S rfl rfl rfl ?_; clear S a w; intro g2 a w S
 refine s_alloc S Z43 rfl ⟨rfl, trivial⟩ rfl ?_; clear S a w; intro g3 a w S
 refine c_end ?_
 refine wp_seq ?_
 refine c_region ?_
 refine s_move S rfl rfl ?_; clear S a; intro a S
 refine s_eqp S (b := true) rfl rfl Tryz.underlying26 rfl rfl ?_; clear S a; intro a S
 refine c_end ?_
 refine c_condT S rfl rfl ?_
 refine c_region ?_
 refine s_build S (ds := []) (dv := (.agg [.ints .u64 [0, 0, 0, 0] 4])) rfl (fun _ => by kernel_rfl) ⟨rfl, trivial⟩ rfl ?_; clear S a; intro a S
 refine s_store S rfl rfl rfl (s' := [.ints .u64 [0, 0, 0, 0] 4]) .here T43 rfl rfl ?_; clear S w; intro w S
 refine c_end ?_
 refine wp_ret ?_
 refine x_thenR ?_
 obtain rfl := Option.some.inj h0
 exact b_ret1 (d := (.agg [.ints .u64 [0, 0, 0, 0] 4])) S rfl (resD_cell rfl .here T43 rfl rfl) fun ok => S.retX (Hx := []) hb _ _ (() : Unit) .nil ok
abbrev state_State_Refund_0nil.Ty : Type := Option Int
def state_State_Refund_0nil.Ctr (s : state_State_Refund_0nil.Ty) : Prop := ∀ (r : Int) (h0 : s = some r) (mi : Mem) (w0 : World), okL mi [(.v (.pointer none))] → Pre mi [] w0 → Calls Tryz.prog 23 (([(.v (.pointer none))] : List D).map D.val).toArray w0 (RetX mi [] (fun (ch : Unit) => ((.v (.int .i64 r)) : D)) (fun (ch : Unit) => []) w0)
def state_State_Refund_0nil.f : Option Int := some 0
theorem state_State_Refund_0nil.ok : state_State_Refund_0nil.Ctr (state_State_Refund_0nil.f) := by
 intro r h0 mi w0 ok hm
 delta state_State_Refund_0nil.f at h0
 refine c_enterX (n := 9) [(.v (.pointer none))] (l := [(0, (.v (.pointer none)))]) Tryz.func23 rfl rfl rfl rfl ok hm ?_
 clear ok hm
 intro b0 hb a S
 refine c_region ?_
 refine s_assign S rfl rfl ?_; clear S a; intro a S
 refine c_end ?_
 refine wp_seq ?_
 refine c_region ?_
 refine s_move S rfl rfl ?_; clear S a; intro a S
 refine s_eqp S (b := true) rfl rfl Tryz.underlying26 rfl rfl ?_; clear S a; intro a S
 refine c_end ?_
 refine c_condT S rfl rfl ?_
 refine c_region ?_
 refine s_assign S rfl rfl ?_; clear S a; intro a S
 refine c_end ?_
 refine wp_ret ?_
 refine x_thenR ?_
 obtain rfl := Option.some.inj h0
 exact b_ret1 (d := (.v (.int .i64 0))) S rfl rfl fun ok => S.retX (Hx := []) hb _ _ (() : Unit) .nil ok
abbrev state_State_Logs_0nil.Ty : Type := Option (List L100)
def state_State_Logs_0nil.Ctr (s : state_State_Logs_0nil.Ty) : Prop := ∀ (r : List L100) (h0 : s = some r) (mi : Mem) (w0 : World), okL mi [(.v (.pointer none))] → Pre mi [] w0 → Calls Tryz.prog 24 (([(.v (.pointer none))] : List D).map D.val).toArray w0 (RetX mi [] (fun (ch : (Option Addr) × Nat) => ((.sl ch.1 (r).length ch.2 (RdS Y100 ch.1 r)) : D)) (fun (ch : (Option Addr) × Nat) => []) w0)
def state_State_Logs_0nil.f : Option (List L100) := some ([] : List L100)
theorem state_State_Logs_0nil.ok : state_State_Logs_0nil.Ctr (state_State_Logs_0nil.f) := by
 intro r h0 mi w0 ok hm
 delta state_State_Logs_0nil.f at h0
 refine c_enterX (n := 25) [(.v (.pointer none))] (l := [(0, (.v (.pointer none)))]) Tryz.func24 rfl rfl rfl rfl ok hm ?_
 clear ok hm
 intro b0 hb a S
 refine c_region ?_
 refine s_assign S rfl rfl ?_; clear S a; intro a S
 refine c_end ?_
 refine c_region ?_
 refine s_assign S rfl rfl ?_; clear S a; intro a S
 refine c_end ?_
 refine wp_seq ?_
 refine c_region ?_
 refine s_move S rfl rfl ?_; clear S a; intro a S
 refine s_eqp S (b := true) rfl rfl Tryz.underlying26 rfl rfl ?_; clear S a; intro a S
 refine c_end ?_
 refine c_condT S rfl rfl ?_
 refine c_region ?_
 refine s_move S rfl rfl ?_; clear S a; intro a S
 refine s_assign S rfl rfl ?_; clear S a; intro a S
 refine c_end ?_
 refine wp_ret ?_
 refine x_thenR ?_
 replace S := S.slot (u := 2) (d' := (.sl none (([] : List L100)).length 0 (RdS Y100 none ([] : List L100)))) rfl rfl ok_nil
 obtain rfl := Option.some.inj h0
 exact b_ret1 (d := (.sl none (([] : List L100)).length 0 (RdS Y100 none ([] : List L100)))) S rfl rfl fun ok => S.retX (Hx := []) hb _ _ ((none, 0) : (Option Addr) × Nat) .nil ok
abbrev state_State_Destroyed_0nil.Ty : Type := (List Int) → Option Bool
def state_State_Destroyed_0nil.Ctr (s : state_State_Destroyed_0nil.Ty) : Prop := ∀ (x1 : List Int) (r : Bool) (h0 : s x1 = some r) (mi : Mem) (w0 : World), okL mi [(.v (.pointer none)), (.agg [.ints .u8 x1 20])] → Pre mi [] w0 → Calls Tryz.prog 25 (([(.v (.pointer none)), (.agg [.ints .u8 x1 20])] : List D).map D.val).toArray w0 (RetX mi [] (fun (ch : Unit) => ((.v (.bool r)) : D)) (fun (ch : Unit) => []) w0)
def state_State_Destroyed_0nil.f (x1 : List Int) : Option Bool := some false
theorem state_State_Destroyed_0nil.ok : state_State_Destroyed_0nil.Ctr (state_State_Destroyed_0nil.f) := by
 intro x1 r h0 mi w0 ok hm
 delta state_State_Destroyed_0nil.f at h0
 refine c_enterX (n := 15) [(.v (.pointer none)), (.agg [.ints .u8 x1 20])] (l := [(0, (.v (.pointer none))), (1, (.agg [.ints .u8 x1 20]))]) Tryz.func25 rfl rfl rfl rfl ok hm ?_
 clear ok hm
 intro b0 hb a S
 refine c_region ?_
 refine s_box S rfl rfl rfl ?_; clear S a; intro g1 a w S
 refine s_assign S rfl rfl ?_; clear S a; intro a S
 refine c_end ?_
 refine c_region ?_
 refine s_move S rfl rfl ?_; clear S a; intro a S
 refine s_nep S (b := false) rfl rfl Tryz.underlying26 rfl rfl ?_; clear S a; intro a S
 refine s_move S rfl rfl ?_; clear S a; intro a S
 refine s_gF S (b := false) rfl rfl rfl rfl ?_; clear S a; intro a S
 refine s_gF S (b := false) rfl rfl rfl rfl ?_; clear S a; intro a S
 refine s_gF S (b := false) rfl rfl rfl rfl ?_; clear S a; intro a S
 refine s_gF S (b := false) rfl rfl rfl rfl ?_; clear S a; intro a S
 refine s_gF S (b := false) rfl rfl rfl rfl ?_; clear S a; intro a S
 refine s_gF S (b := false) rfl rfl rfl rfl ?_; clear S a; intro a S
 refine s_pick S (b := false) (hc_of rfl rfl) rfl rfl ?_; clear S a; intro a S
 refine s_assign S rfl rfl ?_; clear S a; intro a S
 refine c_end ?_
 refine wp_ret ?_
 obtain rfl := Option.some.inj h0
 exact b_ret1 (d := (.v (.bool false))) S rfl rfl fun ok => S.retX (Hx := []) hb _ _ (() : Unit) .nil ok
abbrev state_State_Changes_0nil.Ty : Type := Option (List L71)
def state_State_Changes_0nil.Ctr (s : state_State_Changes_0nil.Ty) : Prop := ∀ (r : List L71) (h0 : s = some r) (mi : Mem) (w0 : World), okL mi [(.v (.pointer none))] → Pre mi [] w0 → Calls Tryz.prog 26 (([(.v (.pointer none))] : List D).map D.val).toArray w0 (RetX mi [] (fun (ch : (Option Addr) × Nat) => ((.sl ch.1 (r).length ch.2 (RdS Y71 ch.1 r)) : D)) (fun (ch : (Option Addr) × Nat) => []) w0)
def state_State_Changes_0nil.f : Option (List L71) := some ([] : List L71)
theorem state_State_Changes_0nil.ok : state_State_Changes_0nil.Ctr (state_State_Changes_0nil.f) := by
 intro r h0 mi w0 ok hm
 delta state_State_Changes_0nil.f at h0
 refine c_enterX (n := 55) [(.v (.pointer none))] (l := [(0, (.v (.pointer none)))]) Tryz.func26 rfl rfl rfl rfl ok hm ?_
 clear ok hm
 intro b0 hb a S
 refine c_region ?_
 refine s_assign S rfl rfl ?_; clear S a; intro a S
 refine c_end ?_
 refine c_region ?_
 refine s_assign S rfl rfl ?_; clear S a; intro a S
 refine c_end ?_
 refine wp_seq ?_
 refine c_region ?_
 refine s_move S rfl rfl ?_; clear S a; intro a S
 refine s_eqp S (b := true) rfl rfl Tryz.underlying26 rfl rfl ?_; clear S a; intro a S
 refine c_end ?_
 refine c_condT S rfl rfl ?_
 refine c_region ?_
 refine s_move S rfl rfl ?_; clear S a; intro a S
 refine s_assign S rfl rfl ?_; clear S a; intro a S
 refine c_end ?_
 refine wp_ret ?_
 refine x_thenR ?_
 replace S := S.slot (u := 2) (d' := (.sl none (([] : List L71)).length 0 (RdS Y71 none ([] : List L71)))) rfl rfl ok_nil
 obtain rfl := Option.some.inj h0
 exact b_ret1 (d := (.sl none (([] : List L71)).length 0 (RdS Y71 none ([] : List L71)))) S rfl rfl fun ok => S.retX (Hx := []) hb _ _ ((none, 0) : (Option Addr) × Nat) .nil ok
abbrev smithylaw14_StateNil.Ty : Type := W25 → Option Bool
def smithylaw14_StateNil.Ctr (s : smithylaw14_StateNil.Ty) : Prop := ∀ (x1 : W25) (ch_0_0 : Option Addr) (ch_0_1 : Nat) (r : Bool) (h0 : s x1 = some r) (mi : Mem) (w0 : World), okL mi [(.agg (Y46.segs x1 ((), (), (), (), (), (ch_0_0, ch_0_1))))] → Pre mi [] w0 → Calls Tryz.prog 4 (([(.agg (Y46.segs x1 ((), (), (), (), (), (ch_0_0, ch_0_1))))] : List D).map D.val).toArray w0 (RetX mi [] (fun (ch : Unit) => ((.v (.bool r)) : D)) (fun (ch : Unit) => []) w0)
def smithylaw14_StateNil.f (k : Nat) (x1 : W25) : Option Bool := if (decide (300 < ((x1.2.2.2.2.2).length : Int))) = true then ((smithylaw14_fixed.f k).bind fun t1 => (some t1)) else ((smithylaw14_do_0nil_2o.f k (ST37.mk (([] : List L71), ([] : List (L71 × Bool × Bool)), ([] : List (List Int)), ([] : List ((List Int) × (List Int))), 0, ([] : List L100), false, ([] : List ST37))) ([] : List (List Int)) x1).bind fun t2 => ((state_State_Missing_0nil.f).bind fun t3 => ((smithylaw14_fixed.f k).bind fun t4 => (if t4 = true then (if (!t3.2) = true then ((state_State_Empty_0nil.f x1.2.1).bind fun t5 => (if (!t5) = true then ((state_State_Nonce_0nil.f x1.2.1).bind fun t6 => (if (t6 == 0) = true then ((state_State_Balance_0nil.f x1.2.1).bind fun t7 => (if (decide (t7 = [0, 0, 0, 0])) = true then ((state_State_Code_0nil.f x1.2.1).bind fun t8 => (if (((t8).length : Int) == 0) = true then ((state_State_Load_0nil.f x1.2.1 x1.2.2.1).bind fun t9 => (if (decide (t9 = [0, 0, 0, 0])) = true then ((state_State_First_0nil.f x1.2.1 x1.2.2.1).bind fun t10 => (if (decide (t10 = [0, 0, 0, 0])) = true then ((state_State_Refund_0nil.f).bind fun t11 => (if (t11 == 0) = true then ((state_State_Logs_0nil.f).bind fun t12 => (if (((t12).length : Int) == 0) = true then ((state_State_Destroyed_0nil.f x1.2.1).bind fun t13 => (if (!t13) = true then ((state_State_Mark_0nil.f).bind fun t14 => (if (t14 == 0) = true then ((state_State_Changes_0nil.f).bind fun t15 => (some (((t15).length : Int) == 0))) else (some false))) else (some false))) else (some false))) else (some false))) else (some false))) else (some false))) else (some false))) else (some false))) else (some false))) else (some false))) else (some false)) else (some false)))))
theorem smithylaw14_StateNil.ok (k : Nat) : smithylaw14_StateNil.Ctr (smithylaw14_StateNil.f k) := by
 intro x1 ch_0_0 ch_0_1 r h0 mi w0 ok hm
 delta smithylaw14_StateNil.f at h0
 refine c_enterX (n := 108) [(.agg (Y46.segs x1 ((), (), (), (), (), (ch_0_0, ch_0_1))))] (l := [(0, (.agg (Y46.segs x1 ((), (), (), (), (), (ch_0_0, ch_0_1)))))]) Tryz.func4 rfl rfl rfl rfl ok hm ?_
 clear ok hm
 intro b0 hb a S
 refine c_region ?_
 refine s_box S rfl rfl rfl ?_; clear S a; intro g1 a w S
 refine s_assign S rfl rfl ?_; clear S a; intro a S
 refine c_end ?_
 refine wp_seq ?_
 refine c_region ?_
 refine s_fieldAddr S rfl I46_5 T44 (by decide) rfl rfl ?_; clear S a; intro a S
 refine s_loadSl S rfl .here T44 (A := ch_0_0) (len := (x1.2.2.2.2.2).length) (cap := ch_0_1) rfl rfl ?_; clear S a; intro a S
 refine s_lenS S rfl Tryz.underlying44 rfl ?_; clear S a; intro a S
 refine s_bin S rfl rfl rfl rfl ?_; clear S a; intro a S
 refine c_end ?_
 rcases ite_of h0 with ⟨c1, h1⟩ | ⟨c1, h1⟩ <;> clear h0
 ·refine c_condT S rfl c1 ?_
  refine c_region ?_
  obtain ⟨t1, et1, h2⟩ := bind_of h1; clear h1
  refine s_callP S (fun (ch : Unit) => ((.v (.bool t1)) : D)) N8 rfl rfl (smithylaw14_fixed.ok k t1 et1 _ _) ?_; clear S a w; intro ch1 m le1 a w S
  refine s_assign S rfl rfl ?_; clear S a; intro a S
  refine c_end ?_
  refine wp_ret ?_
  refine x_thenR ?_
  obtain rfl := Option.some.inj h2
  exact b_ret1 (d := (.v (.bool t1))) S rfl rfl fun ok => S.retX (Hx := []) hb _ _ (() : Unit) .nil ok
 ·refine c_condF S rfl c1 ?_
  refine wp_skip ?_
  refine x_thenN ?_
  refine c_region ?_
  refine s_assign S rfl rfl ?_; clear S a; intro a S
  refine c_end ?_
  refine c_region ?_
  refine s_move S rfl rfl ?_; clear S a; intro a S
  refine s_bldS S (ds := []) (zs := [.one (.slice none 0 0), .one (.slice none 0 0), .one (.slice none 0 0), .one (.slice none 0 0), .one (.int .i64 0), .one (.slice none 0 0), .one (.bool false), .one (.slice none 0 0)]) (s' := [.one (.slice none 0 0), .one (.slice none 0 0), .one (.slice none 0 0), .one (.slice none 0 0), .one (.int .i64 0), .one (.slice none 0 0), .one (.bool false), .one (.slice none 0 0)]) rfl Tryz.underlying37 P37 Z37 ⟨rfl, rfl, rfl, rfl, rfl, rfl, rfl, rfl, trivial⟩ rfl rfl ?_; clear S a; intro a S
  refine s_loada S rfl .here T46 (s' := (Y46.segs x1 ((), (), (), (), (), (ch_0_0, ch_0_1)))) rfl rfl ?_; clear S a; intro a S
  replace S := S.slot (u := 13) (d' := (.agg [.sl none (([] : List L71)).length 0 (RdS Y71 none ([] : List L71)), .sl none (([] : List (L71 × Bool × Bool))).length 0 (RdS Y122 none ([] : List (L71 × Bool × Bool))), .sl none (([] : List (List Int))).length 0 (RdS (Ty.arr .u8 20) none ([] : List (List Int))), .sl none (([] : List ((List Int) × (List Int)))).length 0 (RdS Y133 none ([] : List ((List Int) × (List Int)))), .one (.int .i64 0), .sl none (([] : List L100)).length 0 (RdS Y100 none ([] : List L100)), .one (.bool false), .sl none (([] : List ST37)).length 0 (SR37 none ([] : List ST37))])) rfl rfl (by have h := (S.get 13 (.agg [.one (.slice none 0 0), .one (.slice none 0 0), .one (.slice none 0 0), .one (.slice none 0 0), .one (.int .i64 0), .one (.slice none 0 0), .one (.bool false), .one (.slice none 0 0)]) rfl).2; exact ⟨ok_nil, ok_nil, ok_nil, ok_nil, h.2.2.2.2.1, ok_nil, h.2.2.2.2.2.2.1, SN37, trivial⟩)
  replace S := S.nilrow (Ty.arr .i64 2) 103
  obtain ⟨t2, et2, h2⟩ := bind_of h1; clear h1
  refine s_callX S (ds' := [(.v (.pointer none)), (.agg [.sl none (([] : List L71)).length 0 (RdS Y71 none ([] : List L71)), .sl none (([] : List (L71 × Bool × Bool))).length 0 (RdS Y122 none ([] : List (L71 × Bool × Bool))), .sl none (([] : List (List Int))).length 0 (RdS (Ty.arr .u8 20) none ([] : List (List Int))), .sl none (([] : List ((List Int) × (List Int)))).length 0 (RdS Y133 none ([] : List ((List Int) × (List Int)))), .one (.int .i64 0), .sl none (([] : List L100)).length 0 (RdS Y100 none ([] : List L100)), .one (.bool false), .sl none (([] : List ST37)).length 0 (SR37 none ([] : List ST37))]), (.v (.slice none 0 0)), (.agg (Y46.segs x1 ((), (), (), (), (), (ch_0_0, ch_0_1))))]) (ds := [(.v (.pointer none)), (.agg [.sl none (([] : List L71)).length 0 (RdS Y71 none ([] : List L71)), .sl none (([] : List (L71 × Bool × Bool))).length 0 (RdS Y122 none ([] : List (L71 × Bool × Bool))), .sl none (([] : List (List Int))).length 0 (RdS (Ty.arr .u8 20) none ([] : List (List Int))), .sl none (([] : List ((List Int) × (List Int)))).length 0 (RdS Y133 none ([] : List ((List Int) × (List Int)))), .one (.int .i64 0), .sl none (([] : List L100)).length 0 (RdS Y100 none ([] : List L100)), .one (.bool false), .sl none (([] : List ST37)).length 0 (SR37 none ([] : List ST37))]), (.v (.slice none 0 0)), (.agg (Y46.segs x1 ((), (), (), (), (), (ch_0_0, ch_0_1))))]) [Res.row (Ty.arr .i64 2) 103 none 0 0 ([] : List (List Int))] [Res.cells g1 46 (Y46.segs x1 ((), (), (), (), (), (ch_0_0, ch_0_1)))] (fun (ch : W24) => ((.tup [(false, [.one (.bool t2.1)]), (true, [.sl ch.1.1.1 ((ST37.un t2.2.1).1).length ch.1.1.2 (RdS Y71 ch.1.1.1 ((ST37.un t2.2.1).1)), .sl ch.1.2.1.1 ((ST37.un t2.2.1).2.1).length ch.1.2.1.2 (RdS Y122 ch.1.2.1.1 ((ST37.un t2.2.1).2.1)), .sl ch.1.2.2.1.1 ((ST37.un t2.2.1).2.2.1).length ch.1.2.2.1.2 (RdS (Ty.arr .u8 20) ch.1.2.2.1.1 ((ST37.un t2.2.1).2.2.1)), .sl ch.1.2.2.2.1.1 ((ST37.un t2.2.1).2.2.2.1).length ch.1.2.2.2.1.2 (RdS Y133 ch.1.2.2.2.1.1 ((ST37.un t2.2.1).2.2.2.1)), .one (.int .i64 ((ST37.un t2.2.1).2.2.2.2.1)), .sl ch.1.2.2.2.2.2.1.1 ((ST37.un t2.2.1).2.2.2.2.2.1).length ch.1.2.2.2.2.2.1.2 (RdS Y100 ch.1.2.2.2.2.2.1.1 ((ST37.un t2.2.1).2.2.2.2.2.1)), .one (.bool ((ST37.un t2.2.1).2.2.2.2.2.2.1)), .sl ch.1.2.2.2.2.2.2.2.1 ((ST37.un t2.2.1).2.2.2.2.2.2.2).length ch.1.2.2.2.2.2.2.2.2 (SR37 ch.1.2.2.2.2.2.2.2.1 ((ST37.un t2.2.1).2.2.2.2.2.2.2))]), (false, [.one (.slice ch.2.1 ch.2.2.1 ch.2.2.2)])]) : D)) (fun (ch : W24) => [Res.row (Ty.arr .i64 2) 103 ch.2.1 ch.2.2.1 ch.2.2.2 t2.2.2]) (fun (ch : W24) => [Res.row (Ty.arr .i64 2) 103 ch.2.1 ch.2.2.1 ch.2.2.2 t2.2.2, Res.cells g1 46 (Y46.segs x1 ((), (), (), (), (), (ch_0_0, ch_0_1)))]) (fun _ => rfl) N12 rfl rfl (fun ok => ok) (.cons .here (.cons .here .nil)) rfl (smithylaw14_do_0nil_2o.ok k (ST37.mk (([] : List L71), ([] : List (L71 × Bool × Bool)), ([] : List (List Int)), ([] : List ((List Int) × (List Int))), 0, ([] : List L100), false, ([] : List ST37))) ([] : List (List Int)) x1 ((none, 0), (none, 0), (none, 0), (none, 0), (), (none, 0), (), (none, 0)) none 0 0 ch_0_0 ch_0_1 t2 et2 _ _) ?_; clear S a w; intro ch2 m le1 a w S
  refine s_move S rfl rfl ?_; clear S a; intro a S
  refine s_extract S rfl rfl rfl rfl ?_; clear S a; intro a S
  refine s_extract S rfl rfl rfl rfl ?_; clear S a; intro a S
  refine s_extract S rfl rfl rfl rfl ?_; clear S a; intro a S
  refine c_end ?_
  refine c_region ?_
  refine s_move S rfl rfl ?_; clear S a; intro a S
  obtain ⟨t3, et3, h3⟩ := bind_of h2; clear h2
  refine s_callP S (fun (ch : Unit) => ((.tup [(true, [.ints .u8 t3.1 20]), (false, [.one (.bool t3.2)])]) : D)) N16 rfl rfl (state_State_Missing_0nil.ok t3 et3 _ _) ?_; clear S a w; intro ch3 m le1 a w S
  refine s_move S rfl rfl ?_; clear S a; intro a S
  refine s_extract S rfl rfl rfl rfl ?_; clear S a; intro a S
  refine s_extract S rfl rfl rfl rfl ?_; clear S a; intro a S
  refine s_alloc S Z40 rfl ⟨rfl, trivial⟩ rfl ?_; clear S a w; intro g2 a w S
  refine s_store S rfl rfl rfl (s' := [.ints .u8 t3.1 20]) .here T40 rfl rfl ?_; clear S w; intro w S
  refine s_assign S rfl rfl ?_; clear S a; intro a S
  refine c_end ?_
  refine c_region ?_
  obtain ⟨t4, et4, h4⟩ := bind_of h3; clear h3
  refine s_callP S (fun (ch : Unit) => ((.v (.bool t4)) : D)) N8 rfl rfl (smithylaw14_fixed.ok k t4 et4 _ _) ?_; clear S a w; intro ch4 m le1 a w S
  refine s_move S rfl rfl ?_; clear S a; intro a S
  rcases ite_of h4 with ⟨c2, h5⟩ | ⟨c2, h5⟩ <;> clear h4
  ·refine s_gT S (b := t4) rfl rfl c2 ?_
   refine s_move S rfl rfl ?_; clear S a; intro a S
   refine s_gT S (b := t4) rfl rfl c2 ?_
   refine s_not S rfl rfl ?_; clear S a; intro a S
   refine s_pick S (b := true) (hc_of rfl c2) rfl rfl ?_; clear S a; intro a S
   refine s_move S rfl rfl ?_; clear S a; intro a S
   rcases ite_of h5 with ⟨c3, h6⟩ | ⟨c3, h6⟩ <;> clear h5
   ·refine s_gT S (b := (!t3.2)) rfl rfl c3 ?_
    refine s_move S rfl rfl ?_; clear S a; intro a S
    refine s_gT S (b := (!t3.2)) rfl rfl c3 ?_
    refine s_fieldAddr S rfl I46_1 T40 (by decide) rfl rfl ?_; clear S a; intro a S
    refine s_gT S (b := (!t3.2)) rfl rfl c3 ?_
    refine s_loada S rfl (.there (.there .here)) T40 (s' := [.ints .u8 x1.2.1 20]) rfl rfl ?_; clear S a; intro a S
    refine s_gT S (b := (!t3.2)) rfl rfl c3 ?_
    obtain ⟨t5, et5, h7⟩ := bind_of h6; clear h6
    refine s_callP S (fun (ch : Unit) => ((.v (.bool t5)) : D)) N17 rfl rfl (state_State_Empty_0nil.ok x1.2.1 t5 et5 _ _) ?_; clear S a w; intro ch5 m le1 a w S
    refine s_gT S (b := (!t3.2)) rfl rfl c3 ?_
    refine s_not S rfl rfl ?_; clear S a; intro a S
    refine s_pick S (b := true) (hc_of rfl c3) rfl rfl ?_; clear S a; intro a S
    refine s_move S rfl rfl ?_; clear S a; intro a S
    rcases ite_of h7 with ⟨c4, h8⟩ | ⟨c4, h8⟩ <;> clear h7
    ·refine s_gT S (b := (!t5)) rfl rfl c4 ?_
     refine s_move S rfl rfl ?_; clear S a; intro a S
     refine s_gT S (b := (!t5)) rfl rfl c4 ?_
     refine s_fieldAddr S rfl I46_1 T40 (by decide) rfl rfl ?_; clear S a; intro a S
     refine s_gT S (b := (!t5)) rfl rfl c4 ?_
     refine s_loada S rfl (.there (.there .here)) T40 (s' := [.ints .u8 x1.2.1 20]) rfl rfl ?_; clear S a; intro a S
     refine s_gT S (b := (!t5)) rfl rfl c4 ?_
     obtain ⟨t6, et6, h9⟩ := bind_of h8; clear h8
     refine s_callP S (fun (ch : Unit) => ((.v (.int .u64 t6)) : D)) N18 rfl rfl (state_State_Nonce_0nil.ok x1.2.1 t6 et6 _ _) ?_; clear S a w; intro ch6 m le1 a w S
     refine s_gT S (b := (!t5)) rfl rfl c4 ?_
     refine s_bin S rfl rfl rfl rfl ?_; clear S a; intro a S
     refine s_pick S (b := true) (hc_of rfl c4) rfl rfl ?_; clear S a; intro a S
     refine s_move S rfl rfl ?_; clear S a; intro a S
     rcases ite_of h9 with ⟨c5, h10⟩ | ⟨c5, h10⟩ <;> clear h9
     ·refine s_gT S (b := (t6 == 0)) rfl rfl c5 ?_
      refine s_move S rfl rfl ?_; clear S a; intro a S
      refine s_gT S (b := (t6 == 0)) rfl rfl c5 ?_
      refine s_fieldAddr S rfl I46_1 T40 (by decide) rfl rfl ?_; clear S a; intro a S
      refine s_gT S (b := (t6 == 0)) rfl rfl c5 ?_
      refine s_loada S rfl (.there (.there .here)) T40 (s' := [.ints .u8 x1.2.1 20]) rfl rfl ?_; clear S a; intro a S
      refine s_gT S (b := (t6 == 0)) rfl rfl c5 ?_
      obtain ⟨t7, et7, h11⟩ := bind_of h10; clear h10
      refine s_callP S (fun (ch : Unit) => ((.agg [.ints .u64 t7 4]) : D)) N19 rfl rfl (state_State_Balance_0nil.ok x1.2.1 t7 et7 _ _) ?_; clear S a w; intro ch7 m le1 a w S
      refine s_gT S (b := (t6 == 0)) rfl rfl c5 ?_
      refine s_build S (ds := []) (dv := (.agg [.ints .u64 [0, 0, 0, 0] 4])) rfl (fun _ => by kernel_rfl) ⟨rfl, trivial⟩ rfl ?_; clear S a; intro a S
      refine s_gT S (b := (t6 == 0)) rfl rfl c5 ?_
      refine s_eqa S rfl rfl Tryz.underlying43 Tryz.underlying41 T41 Q43 rfl ?_; clear S a; intro a S
      refine s_pick S (b := true) (hc_of rfl c5) rfl rfl ?_; clear S a; intro a S
      refine s_move S rfl rfl ?_; clear S a; intro a S
      rcases ite_of h11 with ⟨c6, h12⟩ | ⟨c6, h12⟩ <;> clear h11
      ·refine s_gT S (b := (decide (t7 = [0, 0, 0, 0]))) rfl rfl c6 ?_
       refine s_move S rfl rfl ?_; clear S a; intro a S
       refine s_gT S (b := (decide (t7 = [0, 0, 0, 0]))) rfl rfl c6 ?_
       refine s_fieldAddr S rfl I46_1 T40 (by decide) rfl rfl ?_; clear S a; intro a S
       refine s_gT S (b := (decide (t7 = [0, 0, 0, 0]))) rfl rfl c6 ?_
       refine s_loada S rfl (.there (.there .here)) T40 (s' := [.ints .u8 x1.2.1 20]) rfl rfl ?_; clear S a; intro a S
       refine s_gT S (b := (decide (t7 = [0, 0, 0, 0]))) rfl rfl c6 ?_
       obtain ⟨t8, et8, h13⟩ := bind_of h12; clear h12
       refine s_callP S (fun (ch : (Option Addr) × Nat) => ((.sl ch.1 (t8).length ch.2 (RdS (Ty.int .u8) ch.1 t8)) : D)) N20 rfl rfl (state_State_Code_0nil.ok x1.2.1 t8 et8 _ _) ?_; clear S a w; intro ch8 m le1 a w S
       refine s_gT S (b := (decide (t7 = [0, 0, 0, 0]))) rfl rfl c6 ?_
       refine s_lenS S rfl Tryz.underlying44 rfl ?_; clear S a; intro a S
       refine s_gT S (b := (decide (t7 = [0, 0, 0, 0]))) rfl rfl c6 ?_
       refine s_bin S rfl rfl rfl rfl ?_; clear S a; intro a S
       refine s_pick S (b := true) (hc_of rfl c6) rfl rfl ?_; clear S a; intro a S
       refine s_move S rfl rfl ?_; clear S a; intro a S
       rcases ite_of h13 with ⟨c7, h14⟩ | ⟨c7, h14⟩ <;> clear h13
       ·refine s_gT S (b := (((t8).length : Int) == 0)) rfl rfl c7 ?_
        refine s_move S rfl rfl ?_; clear S a; intro a S
        refine s_gT S (b := (((t8).length : Int) == 0)) rfl rfl c7 ?_
        refine s_fieldAddr S rfl I46_1 T40 (by decide) rfl rfl ?_; clear S a; intro a S
        refine s_gT S (b := (((t8).length : Int) == 0)) rfl rfl c7 ?_
        refine s_loada S rfl (.there (.there .here)) T40 (s' := [.ints .u8 x1.2.1 20]) rfl rfl ?_; clear S a; intro a S
        refine s_gT S (b := (((t8).length : Int) == 0)) rfl rfl c7 ?_
        refine s_fieldAddr S rfl I46_2 T43 (by decide) rfl rfl ?_; clear S a; intro a S
        refine s_gT S (b := (((t8).length : Int) == 0)) rfl rfl c7 ?_
        refine s_loada S rfl (.there (.there .here)) T43 (s' := [.ints .u64 x1.2.2.1 4]) rfl rfl ?_; clear S a; intro a S
        refine s_gT S (b := (((t8).length : Int) == 0)) rfl rfl c7 ?_
        obtain ⟨t9, et9, h15⟩ := bind_of h14; clear h14
        refine s_callP S (fun (ch : Unit) => ((.agg [.ints .u64 t9 4]) : D)) N21 rfl rfl (state_State_Load_0nil.ok x1.2.1 x1.2.2.1 t9 et9 _ _) ?_; clear S a w; intro ch9 m le1 a w S
        refine s_gT S (b := (((t8).length : Int) == 0)) rfl rfl c7 ?_
        refine s_build S (ds := []) (dv := (.agg [.ints .u64 [0, 0, 0, 0] 4])) rfl (fun _ => by kernel_rfl) ⟨rfl, trivial⟩ rfl ?_; clear S a; intro a S
        refine s_gT S (b := (((t8).length : Int) == 0)) rfl rfl c7 ?_
        refine s_eqa S rfl rfl Tryz.underlying43 Tryz.underlying41 T41 Q43 rfl ?_; clear S a; intro a S
        refine s_pick S (b := true) (hc_of rfl c7) rfl rfl ?_; clear S a; intro a S
        refine s_move S rfl rfl ?_; clear S a; intro a S
        rcases ite_of h15 with ⟨c8, h16⟩ | ⟨c8, h16⟩ <;> clear h15
        ·refine s_gT S (b := (decide (t9 = [0, 0, 0, 0]))) rfl rfl c8 ?_
         refine s_move S rfl rfl ?_; clear S a; intro a S
         refine s_gT S (b := (decide (t9 = [0, 0, 0, 0]))) rfl rfl c8 ?_
         refine s_fieldAddr S rfl I46_1 T40 (by decide) rfl rfl ?_; clear S a; intro a S
         refine s_gT S (b := (decide (t9 = [0, 0, 0, 0]))) rfl rfl c8 ?_
         refine s_loada S rfl (.there (.there .here)) T40 (s' := [.ints .u8 x1.2.1 20]) rfl rfl ?_; clear S a; intro a S
         refine s_gT S (b := (decide (t9 = [0, 0, 0, 0]))) rfl rfl c8 ?_
         refine s_fieldAddr S rfl I46_2 T43 (by decide) rfl rfl ?_; clear S a; intro a S
         refine s_gT S (b := (decide (t9 = [0, 0, 0, 0]))) rfl rfl c8 ?_
         refine s_loada S rfl (.there (.there .here)) T43 (s' := [.ints .u64 x1.2.2.1 4]) rfl rfl ?_; clear S a; intro a S
         refine s_gT S (b := (decide (t9 = [0, 0, 0, 0]))) rfl rfl c8 ?_
         obtain ⟨t10, et10, h17⟩ := bind_of h16; clear h16
         refine s_callP S (fun (ch : Unit) => ((.agg [.ints .u64 t10 4]) : D)) N22 rfl rfl (state_State_First_0nil.ok x1.2.1 x1.2.2.1 t10 et10 _ _) ?_; clear S a w; intro ch10 m le1 a w S
         refine s_gT S (b := (decide (t9 = [0, 0, 0, 0]))) rfl rfl c8 ?_
         refine s_build S (ds := []) (dv := (.agg [.ints .u64 [0, 0, 0, 0] 4])) rfl (fun _ => by kernel_rfl) ⟨rfl, trivial⟩ rfl ?_; clear S a; intro a S
         refine s_gT S (b := (decide (t9 = [0, 0, 0, 0]))) rfl rfl c8 ?_
         refine s_eqa S rfl rfl Tryz.underlying43 Tryz.underlying41 T41 Q43 rfl ?_; clear S a; intro a S
         refine s_pick S (b := true) (hc_of rfl c8) rfl rfl ?_; clear S a; intro a S
         refine s_move S rfl rfl ?_; clear S a; intro a S
         rcases ite_of h17 with ⟨c9, h18⟩ | ⟨c9, h18⟩ <;> clear h17
         ·refine s_gT S (b := (decide (t10 = [0, 0, 0, 0]))) rfl rfl c9 ?_
          refine s_move S rfl rfl ?_; clear S a; intro a S
          refine s_gT S (b := (decide (t10 = [0, 0, 0, 0]))) rfl rfl c9 ?_
          obtain ⟨t11, et11, h19⟩ := bind_of h18; clear h18
          refine s_callP S (fun (ch : Unit) => ((.v (.int .i64 t11)) : D)) N23 rfl rfl (state_State_Refund_0nil.ok t11 et11 _ _) ?_; clear S a w; intro ch11 m le1 a w S
          refine s_gT S (b := (decide (t10 = [0, 0, 0, 0]))) rfl rfl c9 ?_
          refine s_bin S rfl rfl rfl rfl ?_; clear S a; intro a S
          refine s_pick S (b := true) (hc_of rfl c9) rfl rfl ?_; clear S a; intro a S
          refine s_move S rfl rfl ?_; clear S a; intro a S
          rcases ite_of h19 with ⟨c10, h20⟩ | ⟨c10, h20⟩ <;> clear h19
          ·refine s_gT S (b := (t11 == 0)) rfl rfl c10 ?_
           refine s_move S rfl rfl ?_; clear S a; intro a S
           refine s_gT S (b := (t11 == 0)) rfl rfl c10 ?_
           obtain ⟨t12, et12, h21⟩ := bind_of h20; clear h20
           refine s_callP S (fun (ch : (Option Addr) × Nat) => ((.sl ch.1 (t12).length ch.2 (RdS Y100 ch.1 t12)) : D)) N24 rfl rfl (state_State_Logs_0nil.ok t12 et12 _ _) ?_; clear S a w; intro ch12 m le1 a w S
           refine s_gT S (b := (t11 == 0)) rfl rfl c10 ?_
           refine s_lenS S rfl Tryz.underlying34 rfl ?_; clear S a; intro a S
           refine s_gT S (b := (t11 == 0)) rfl rfl c10 ?_
           refine s_bin S rfl rfl rfl rfl ?_; clear S a; intro a S
           refine s_pick S (b := true) (hc_of rfl c10) rfl rfl ?_; clear S a; intro a S
           refine s_move S rfl rfl ?_; clear S a; intro a S
           rcases ite_of h21 with ⟨c11, h22⟩ | ⟨c11, h22⟩ <;> clear h21
           ·refine s_gT S (b := (((t12).length : Int) == 0)) rfl rfl c11 ?_
            refine s_move S rfl rfl ?_; clear S a; intro a S
            refine s_gT S (b := (((t12).length : Int) == 0)) rfl rfl c11 ?_
            refine s_fieldAddr S rfl I46_1 T40 (by decide) rfl rfl ?_; clear S a; intro a S
            refine s_gT S (b := (((t12).length : Int) == 0)) rfl rfl c11 ?_
            refine s_loada S rfl (.there (.there .here)) T40 (s' := [.ints .u8 x1.2.1 20]) rfl rfl ?_; clear S a; intro a S
            refine s_gT S (b := (((t12).length : Int) == 0)) rfl rfl c11 ?_
            obtain ⟨t13, et13, h23⟩ := bind_of h22; clear h22
            refine s_callP S (fun (ch : Unit) => ((.v (.bool t13)) : D)) N25 rfl rfl (state_State_Destroyed_0nil.ok x1.2.1 t13 et13 _ _) ?_; clear S a w; intro ch13 m le1 a w S
            refine s_gT S (b := (((t12).length : Int) == 0)) rfl rfl c11 ?_
            refine s_not S rfl rfl ?_; clear S a; intro a S
            refine s_pick S (b := true) (hc_of rfl c11) rfl rfl ?_; clear S a; intro a S
            refine s_move S rfl rfl ?_; clear S a; intro a S
            rcases ite_of h23 with ⟨c12, h24⟩ | ⟨c12, h24⟩ <;> clear h23
            ·refine s_gT S (b := (!t13)) rfl rfl c12 ?_
             refine s_move S rfl rfl ?_; clear S a; intro a S
             refine s_gT S (b := (!t13)) rfl rfl c12 ?_
             obtain ⟨t14, et14, h25⟩ := bind_of h24; clear h24
             refine s_callP S (fun (ch : Unit) => ((.v (.int .i64 t14)) : D)) N13 rfl rfl (state_State_Mark_0nil.ok t14 et14 _ _) ?_; clear S a w; intro ch14 m le1 a w S
             refine s_gT S (b := (!t13)) rfl rfl c12 ?_
             refine s_bin S rfl rfl rfl rfl ?_; clear S a; intro a S
             refine s_pick S (b := true) (hc_of rfl c12) rfl rfl ?_; clear S a; intro a S
             refine s_move S rfl rfl ?_; clear S a; intro a S
             rcases ite_of h25 with ⟨c13, h26⟩ | ⟨c13, h26⟩ <;> clear h25
             ·refine s_gT S (b := (t14 == 0)) rfl rfl c13 ?_
              refine s_move S rfl rfl ?_; clear S a; intro a S
              refine s_gT S (b := (t14 == 0)) rfl rfl c13 ?_
              obtain ⟨t15, et15, h27⟩ := bind_of h26; clear h26
              refine s_callP S (fun (ch : (Option Addr) × Nat) => ((.sl ch.1 (t15).length ch.2 (RdS Y71 ch.1 t15)) : D)) N26 rfl rfl (state_State_Changes_0nil.ok t15 et15 _ _) ?_; clear S a w; intro ch15 m le1 a w S
              refine s_gT S (b := (t14 == 0)) rfl rfl c13 ?_
              refine s_lenS S rfl Tryz.underlying22 rfl ?_; clear S a; intro a S
              refine s_gT S (b := (t14 == 0)) rfl rfl c13 ?_
              refine s_bin S rfl rfl rfl rfl ?_; clear S a; intro a S
              refine s_pick S (b := true) (hc_of rfl c13) rfl rfl ?_; clear S a; intro a S
              refine s_assign S rfl rfl ?_; clear S a; intro a S
              refine c_end ?_
              refine wp_ret ?_
              obtain rfl := Option.some.inj h27
              exact b_ret1 (d := (.v (.bool (((t15).length : Int) == 0)))) S rfl rfl fun ok => S.retX (Hx := []) hb _ _ (() : Unit) .nil ok
             ·refine s_gF S (b := (t14 == 0)) rfl rfl c13 rfl ?_; clear S a; intro a S
              refine s_gF S (b := (t14 == 0)) rfl rfl c13 rfl ?_; clear S a; intro a S
              refine s_gF S (b := (t14 == 0)) rfl rfl c13 rfl ?_; clear S a; intro a S
              refine s_gF S (b := (t14 == 0)) rfl rfl c13 rfl ?_; clear S a; intro a S
              refine s_pick S (b := false) (hc_of rfl c13) rfl rfl ?_; clear S a; intro a S
              refine s_assign S rfl rfl ?_; clear S a; intro a S
              refine c_end ?_
              refine wp_ret ?_
              obtain rfl := Option.some.inj h26
              exact b_ret1 (d := (.v (.bool false))) S rfl rfl fun ok => S.retX (Hx := []) hb _ _ (() : Unit) .nil ok
            ·refine s_gF S (b := (!t13)) rfl rfl c12 rfl ?_; clear S a; intro a S
             refine s_gF S (b := (!t13)) rfl rfl c12 rfl ?_; clear S a; intro a S
             refine s_gF S (b := (!t13)) rfl rfl c12 rfl ?_; clear S a; intro a S
             refine s_pick S (b := false) (hc_of rfl c12) rfl rfl ?_; clear S a; intro a S
             refine s_move S rfl rfl ?_; clear S a; intro a S
             refine s_gF S (b := false) rfl rfl rfl rfl ?_; clear S a; intro a S
             refine s_gF S (b := false) rfl rfl rfl rfl ?_; clear S a; intro a S
             refine s_gF S (b := false) rfl rfl rfl rfl ?_; clear S a; intro a S
             refine s_gF S (b := false) rfl rfl rfl rfl ?_; clear S a; intro a S
             refine s_pick S (b := false) (hc_of rfl rfl) rfl rfl ?_; clear S a; intro a S
             refine s_assign S rfl rfl ?_; clear S a; intro a S
             refine c_end ?_
             refine wp_ret ?_
             obtain rfl := Option.some.inj h24
             exact b_ret1 (d := (.v (.bool false))) S rfl rfl fun ok => S.retX (Hx := []) hb _ _ (() : Unit) .nil ok
           ·refine s_gF S (b := (((t12).length : Int) == 0)) rfl rfl c11 rfl ?_; clear S a; intro a S
            refine s_gF S (b := (((t12).length : Int) == 0)) rfl rfl c11 rfl ?_; clear S a; intro a S
            refine s_gF S (b := (((t12).length : Int) == 0)) rfl rfl c11 rfl ?_; clear S a; intro a S
            refine s_gF S (b := (((t12).length : Int) == 0)) rfl rfl c11 rfl ?_; clear S a; intro a S
            refine s_gF S (b := (((t12).length : Int) == 0)) rfl rfl c11 rfl ?_; clear S a; intro a S
            refine s_pick S (b := false) (hc_of rfl c11) rfl rfl ?_; clear S a; intro a S
            refine s_move S rfl rfl ?_; clear S a; intro a S
            refine s_gF S (b := false) rfl rfl rfl rfl ?_; clear S a; intro a S
            refine s_gF S (b := false) rfl rfl rfl rfl ?_; clear S a; intro a S
            refine s_gF S (b := false) rfl rfl rfl rfl ?_; clear S a; intro a S
            refine s_pick S (b := false) (hc_of rfl rfl) rfl rfl ?_; clear S a; intro a S
            refine s_move S rfl rfl ?_; clear S a; intro a S
            refine s_gF S (b := false) rfl rfl rfl rfl ?_; clear S a; intro a S
            refine s_gF S (b := false) rfl rfl rfl rfl ?_; clear S a; intro a S
            refine s_gF S (b := false) rfl rfl rfl rfl ?_; clear S a; intro a S
            refine s_gF S (b := false) rfl rfl rfl rfl ?_; clear S a; intro a S
            refine s_pick S (b := false) (hc_of rfl rfl) rfl rfl ?_; clear S a; intro a S
            refine s_assign S rfl rfl ?_; clear S a; intro a S
            refine c_end ?_
            refine wp_ret ?_
            obtain rfl := Option.some.inj h22
            exact b_ret1 (d := (.v (.bool false))) S rfl rfl fun ok => S.retX (Hx := []) hb _ _ (() : Unit) .nil ok
          ·refine s_gF S (b := (t11 == 0)) rfl rfl c10 rfl ?_; clear S a; intro a S
           refine s_gF S (b := (t11 == 0)) rfl rfl c10 rfl ?_; clear S a; intro a S
           refine s_gF S (b := (t11 == 0)) rfl rfl c10 rfl ?_; clear S a; intro a S
           refine s_gF S (b := (t11 == 0)) rfl rfl c10 rfl ?_; clear S a; intro a S
           refine s_pick S (b := false) (hc_of rfl c10) rfl rfl ?_; clear S a; intro a S
           refine s_move S rfl rfl ?_; clear S a; intro a S
           refine s_gF S (b := false) rfl rfl rfl rfl ?_; clear S a; intro a S
           refine s_gF S (b := false) rfl rfl rfl rfl ?_; clear S a; intro a S
           refine s_gF S (b := false) rfl rfl rfl rfl ?_; clear S a; intro a S
           refine s_gF S (b := false) rfl rfl rfl rfl ?_; clear S a; intro a S
           refine s_gF S (b := false) rfl rfl rfl rfl ?_; clear S a; intro a S
           refine s_pick S (b := false) (hc_of rfl rfl) rfl rfl ?_; clear S a; intro a S
           refine s_move S rfl rfl ?_; clear S a; intro a S
           refine s_gF S (b := false) rfl rfl rfl rfl ?_; clear S a; intro a S
           refine s_gF S (b := false) rfl rfl rfl rfl ?_; clear S a; intro a S
           refine s_gF S (b := false) rfl rfl rfl rfl ?_; clear S a; intro a S
           refine s_pick S (b := false) (hc_of rfl rfl) rfl rfl ?_; clear S a; intro a S
           refine s_move S rfl rfl ?_; clear S a; intro a S
           refine s_gF S (b := false) rfl rfl rfl rfl ?_; clear S a; intro a S
           refine s_gF S (b := false) rfl rfl rfl rfl ?_; clear S a; intro a S
           refine s_gF S (b := false) rfl rfl rfl rfl ?_; clear S a; intro a S
           refine s_gF S (b := false) rfl rfl rfl rfl ?_; clear S a; intro a S
           refine s_pick S (b := false) (hc_of rfl rfl) rfl rfl ?_; clear S a; intro a S
           refine s_assign S rfl rfl ?_; clear S a; intro a S
           refine c_end ?_
           refine wp_ret ?_
           obtain rfl := Option.some.inj h20
           exact b_ret1 (d := (.v (.bool false))) S rfl rfl fun ok => S.retX (Hx := []) hb _ _ (() : Unit) .nil ok
         ·refine s_gF S (b := (decide (t10 = [0, 0, 0, 0]))) rfl rfl c9 rfl ?_; clear S a; intro a S
          refine s_gF S (b := (decide (t10 = [0, 0, 0, 0]))) rfl rfl c9 rfl ?_; clear S a; intro a S
          refine s_gF S (b := (decide (t10 = [0, 0, 0, 0]))) rfl rfl c9 rfl ?_; clear S a; intro a S
          refine s_pick S (b := false) (hc_of rfl c9) rfl rfl ?_; clear S a; intro a S
          refine s_move S rfl rfl ?_; clear S a; intro a S
          refine s_gF S (b := false) rfl rfl rfl rfl ?_; clear S a; intro a S
          refine s_gF S (b := false) rfl rfl rfl rfl ?_; clear S a; intro a S
          refine s_gF S (b := false) rfl rfl rfl rfl ?_; clear S a; intro a S
          refine s_gF S (b := false) rfl rfl rfl rfl ?_; clear S a; intro a S
          refine s_pick S (b := false) (hc_of rfl rfl) rfl rfl ?_; clear S a; intro a S
          refine s_move S rfl rfl ?_; clear S a; intro a S
          refine s_gF S (b := false) rfl rfl rfl rfl ?_; clear S a; intro a S
          refine s_gF S (b := false) rfl rfl rfl rfl ?_; clear S a; intro a S
          refine s_gF S (b := false) rfl rfl rfl rfl ?_; clear S a; intro a S
          refine s_gF S (b := false) rfl rfl rfl rfl ?_; clear S a; intro a S
          refine s_gF S (b := false) rfl rfl rfl rfl ?_; clear S a; intro a S
          refine s_pick S (b := false) (hc_of rfl rfl) rfl rfl ?_; clear S a; intro a S
          refine s_move S rfl rfl ?_; clear S a; intro a S
          refine s_gF S (b := false) rfl rfl rfl rfl ?_; clear S a; intro a S
          refine s_gF S (b := false) rfl rfl rfl rfl ?_; clear S a; intro a S
          refine s_gF S (b := false) rfl rfl rfl rfl ?_; clear S a; intro a S
          refine s_pick S (b := false) (hc_of rfl rfl) rfl rfl ?_; clear S a; intro a S
          refine s_move S rfl rfl ?_; clear S a; intro a S
          refine s_gF S (b := false) rfl rfl rfl rfl ?_; clear S a; intro a S
          refine s_gF S (b := false) rfl rfl rfl rfl ?_; clear S a; intro a S
          refine s_gF S (b := false) rfl rfl rfl rfl ?_; clear S a; intro a S
          refine s_gF S (b := false) rfl rfl rfl rfl ?_; clear S a; intro a S
          refine s_pick S (b := false) (hc_of rfl rfl) rfl rfl ?_; clear S a; intro a S
          refine s_assign S rfl rfl ?_; clear S a; intro a S
          refine c_end ?_
          refine wp_ret ?_
          obtain rfl := Option.some.inj h18
          exact b_ret1 (d := (.v (.bool false))) S rfl rfl fun ok => S.retX (Hx := []) hb _ _ (() : Unit) .nil ok
        ·refine s_gF S (b := (decide (t9 = [0, 0, 0, 0]))) rfl rfl c8 rfl ?_; clear S a; intro a S
         refine s_gF S (b := (decide (t9 = [0, 0, 0, 0]))) rfl rfl c8 rfl ?_; clear S a; intro a S
         refine s_gF S (b := (decide (t9 = [0, 0, 0, 0]))) rfl rfl c8 rfl ?_; clear S a; intro a S
         refine s_gF S (b := (decide (t9 = [0, 0, 0, 0]))) rfl rfl c8 rfl ?_; clear S a; intro a S
         refine s_gF S (b := (decide (t9 = [0, 0, 0, 0]))) rfl rfl c8 rfl ?_; clear S a; intro a S
         refine s_gF S (b := (decide (t9 = [0, 0, 0, 0]))) rfl rfl c8 rfl ?_; clear S a; intro a S
         refine s_gF S (b := (decide (t9 = [0, 0, 0, 0]))) rfl rfl c8 rfl ?_; clear S a; intro a S
         refine s_gF S (b := (decide (t9 = [0, 0, 0, 0]))) rfl rfl c8 rfl ?_; clear S a; intro a S
         refine s_pick S (b := false) (hc_of rfl c8) rfl rfl ?_; clear S a; intro a S
         refine s_move S rfl rfl ?_; clear S a; intro a S
         refine s_gF S (b := false) rfl rfl rfl rfl ?_; clear S a; intro a S
         refine s_gF S (b := false) rfl rfl rfl rfl ?_; clear S a; intro a S
         refine s_gF S (b := false) rfl rfl rfl rfl ?_; clear S a; intro a S
         refine s_pick S (b := false) (hc_of rfl rfl) rfl rfl ?_; clear S a; intro a S
         refine s_move S rfl rfl ?_; clear S a; intro a S
         refine s_gF S (b := false) rfl rfl rfl rfl ?_; clear S a; intro a S
         refine s_gF S (b := false) rfl rfl rfl rfl ?_; clear S a; intro a S
         refine s_gF S (b := false) rfl rfl rfl rfl ?_; clear S a; intro a S
         refine s_gF S (b := false) rfl rfl rfl rfl ?_; clear S a; intro a S
         refine s_pick S (b := false) (hc_of rfl rfl) rfl rfl ?_; clear S a; intro a S
         refine s_move S rfl rfl ?_; clear S a; intro a S
         refine s_gF S (b := false) rfl rfl rfl rfl ?_; clear S a; intro a S
         refine s_gF S (b := false) rfl rfl rfl rfl ?_; clear S a; intro a S
         refine s_gF S (b := false) rfl rfl rfl rfl ?_; clear S a; intro a S
         refine s_gF S (b := false) rfl rfl rfl rfl ?_; clear S a; intro a S
         refine s_gF S (b := false) rfl rfl rfl rfl ?_; clear S a; intro a S
         refine s_pick S (b := false) (hc_of rfl rfl) rfl rfl ?_; clear S a; intro a S
         refine s_move S rfl rfl ?_; clear S a; intro a S
         refine s_gF S (b := false) rfl rfl rfl rfl ?_; clear S a; intro a S
         refine s_gF S (b := false) rfl rfl rfl rfl ?_; clear S a; intro a S
         refine s_gF S (b := false) rfl rfl rfl rfl ?_; clear S a; intro a S
         refine s_pick S (b := false) (hc_of rfl rfl) rfl rfl ?_; clear S a; intro a S
         refine s_move S rfl rfl ?_; clear S a; intro a S
         refine s_gF S (b := false) rfl rfl rfl rfl ?_; clear S a; intro a S
         refine s_gF S (b := false) rfl rfl rfl rfl ?_; clear S a; intro a S
         refine s_gF S (b := false) rfl rfl rfl rfl ?_; clear S a; intro a S
         refine s_gF S (b := false) rfl rfl rfl rfl ?_; clear S a; intro a S
         refine s_pick S (b := false) (hc_of rfl rfl) rfl rfl ?_; clear S a; intro a S
         refine s_assign S rfl rfl ?_; clear S a; intro a S
         refine c_end ?_
         refine wp_ret ?_
         obtain rfl := Option.some.inj h16
         exact b_ret1 (d := (.v (.bool false))) S rfl rfl fun ok => S.retX (Hx := []) hb _ _ (() : Unit) .nil ok
       ·refine s_gF S (b := (((t8).length : Int) == 0)) rfl rfl c7 rfl ?_; clear S a; intro a S
        refine s_gF S (b := (((t8).length : Int) == 0)) rfl rfl c7 rfl ?_; clear S a; intro a S
        refine s_gF S (b := (((t8).length : Int) == 0)) rfl rfl c7 rfl ?_; clear S a; intro a S
        refine s_gF S (b := (((t8).length : Int) == 0)) rfl rfl c7 rfl ?_; clear S a; intro a S
        refine s_gF S (b := (((t8).length : Int) == 0)) rfl rfl c7 rfl ?_; clear S a; intro a S
        refine s_gF S (b := (((t8).length : Int) == 0)) rfl rfl c7 rfl ?_; clear S a; intro a S
        refine s_gF S (b := (((t8).length : Int) == 0)) rfl rfl c7 rfl ?_; clear S a; intro a S
        refine s_gF S (b := (((t8).length : Int) == 0)) rfl rfl c7 rfl ?_; clear S a; intro a S
        refine s_pick S (b := false) (hc_of rfl c7) rfl rfl ?_; clear S a; intro a S
        refine s_move S rfl rfl ?_; clear S a; intro a S
        refine s_gF S (b := false) rfl rfl rfl rfl ?_; clear S a; intro a S
        refine s_gF S (b := false) rfl rfl rfl rfl ?_; clear S a; intro a S
        refine s_gF S (b := false) rfl rfl rfl rfl ?_; clear S a; intro a S
        refine s_gF S (b := false) rfl rfl rfl rfl ?_; clear S a; intro a S
        refine s_gF S (b := false) rfl rfl rfl rfl ?_; clear S a; intro a S
        refine s_gF S (b := false) rfl rfl rfl rfl ?_; clear S a; intro a S
        refine s_gF S (b := false) rfl rfl rfl rfl ?_; clear S a; intro a S
        refine s_gF S (b := false) rfl rfl rfl rfl ?_; clear S a; intro a S
        refine s_pick S (b := false) (hc_of rfl rfl) rfl rfl ?_; clear S a; intro a S
        refine s_move S rfl rfl ?_; clear S a; intro a S
        refine s_gF S (b := false) rfl rfl rfl rfl ?_; clear S a; intro a S
        refine s_gF S (b := false) rfl rfl rfl rfl ?_; clear S a; intro a S
        refine s_gF S (b := false) rfl rfl rfl rfl ?_; clear S a; intro a S
        refine s_pick S (b := false) (hc_of rfl rfl) rfl rfl ?_; clear S a; intro a S
        refine s_move S rfl rfl ?_; clear S a; intro a S
        refine s_gF S (b := false) rfl rfl rfl rfl ?_; clear S a; intro a S
        refine s_gF S (b := false) rfl rfl rfl rfl ?_; clear S a; intro a S
        refine s_gF S (b := false) rfl rfl rfl rfl ?_; clear S a; intro a S
        refine s_gF S (b := false) rfl rfl rfl rfl ?_; clear S a; intro a S
        refine s_pick S (b := false) (hc_of rfl rfl) rfl rfl ?_; clear S a; intro a S
        refine s_move S rfl rfl ?_; clear S a; intro a S
        refine s_gF S (b := false) rfl rfl rfl rfl ?_; clear S a; intro a S
        refine s_gF S (b := false) rfl rfl rfl rfl ?_; clear S a; intro a S
        refine s_gF S (b := false) rfl rfl rfl rfl ?_; clear S a; intro a S
        refine s_gF S (b := false) rfl rfl rfl rfl ?_; clear S a; intro a S
        refine s_gF S (b := false) rfl rfl rfl rfl ?_; clear S a; intro a S
        refine s_pick S (b := false) (hc_of rfl rfl) rfl rfl ?_; clear S a; intro a S
        refine s_move S rfl rfl ?_; clear S a; intro a S
        refine s_gF S (b := false) rfl rfl rfl rfl ?_; clear S a; intro a S
        refine s_gF S (b := false) rfl rfl rfl rfl ?_; clear S a; intro a S
        refine s_gF S (b := false) rfl rfl rfl rfl ?_; clear S a; intro a S
        refine s_pick S (b := false) (hc_of rfl rfl) rfl rfl ?_; clear S a; intro a S
        refine s_move S rfl rfl ?_; clear S a; intro a S
        refine s_gF S (b := false) rfl rfl rfl rfl ?_; clear S a; intro a S
        refine s_gF S (b := false) rfl rfl rfl rfl ?_; clear S a; intro a S
        refine s_gF S (b := false) rfl rfl rfl rfl ?_; clear S a; intro a S
        refine s_gF S (b := false) rfl rfl rfl rfl ?_; clear S a; intro a S
        refine s_pick S (b := false) (hc_of rfl rfl) rfl rfl ?_; clear S a; intro a S
        refine s_assign S rfl rfl ?_; clear S a; intro a S
        refine c_end ?_
        refine wp_ret ?_
        obtain rfl := Option.some.inj h14
        exact b_ret1 (d := (.v (.bool false))) S rfl rfl fun ok => S.retX (Hx := []) hb _ _ (() : Unit) .nil ok
      ·refine s_gF S (b := (decide (t7 = [0, 0, 0, 0]))) rfl rfl c6 rfl ?_; clear S a; intro a S
       refine s_gF S (b := (decide (t7 = [0, 0, 0, 0]))) rfl rfl c6 rfl ?_; clear S a; intro a S
       refine s_gF S (b := (decide (t7 = [0, 0, 0, 0]))) rfl rfl c6 rfl ?_; clear S a; intro a S
       refine s_gF S (b := (decide (t7 = [0, 0, 0, 0]))) rfl rfl c6 rfl ?_; clear S a; intro a S
       refine s_gF S (b := (decide (t7 = [0, 0, 0, 0]))) rfl rfl c6 rfl ?_; clear S a; intro a S
       refine s_gF S (b := (decide (t7 = [0, 0, 0, 0]))) rfl rfl c6 rfl ?_; clear S a; intro a S
       refine s_pick S (b := false) (hc_of rfl c6) rfl rfl ?_; clear S a; intro a S
       refine s_move S rfl rfl ?_; clear S a; intro a S
       refine s_gF S (b := false) rfl rfl rfl rfl ?_; clear S a; intro a S
       refine s_gF S (b := false) rfl rfl rfl rfl ?_; clear S a; intro a S
       refine s_gF S (b := false) rfl rfl rfl rfl ?_; clear S a; intro a S
       refine s_gF S (b := false) rfl rfl rfl rfl ?_; clear S a; intro a S
       refine s_gF S (b := false) rfl rfl rfl rfl ?_; clear S a; intro a S
       refine s_gF S (b := false) rfl rfl rfl rfl ?_; clear S a; intro a S
       refine s_gF S (b := false) rfl rfl rfl rfl ?_; clear S a; intro a S
       refine s_gF S (b := false) rfl rfl rfl rfl ?_; clear S a; intro a S
       refine s_pick S (b := false) (hc_of rfl rfl) rfl rfl ?_; clear S a; intro a S
       refine s_move S rfl rfl ?_; clear S a; intro a S
       refine s_gF S (b := false) rfl rfl rfl rfl ?_; clear S a; intro a S
       refine s_gF S (b := false) rfl rfl rfl rfl ?_; clear S a; intro a S
       refine s_gF S (b := false) rfl rfl rfl rfl ?_; clear S a; intro a S
       refine s_gF S (b := false) rfl rfl rfl rfl ?_; clear S a; intro a S
       refine s_gF S (b := false) rfl rfl rfl rfl ?_; clear S a; intro a S
       refine s_gF S (b := false) rfl rfl rfl rfl ?_; clear S a; intro a S
       refine s_gF S (b := false) rfl rfl rfl rfl ?_; clear S a; intro a S
       refine s_gF S (b := false) rfl rfl rfl rfl ?_; clear S a; intro a S
       refine s_pick S (b := false) (hc_of rfl rfl) rfl rfl ?_; clear S a; intro a S
       refine s_move S rfl rfl ?_; clear S a; intro a S
       refine s_gF S (b := false) rfl rfl rfl rfl ?_; clear S a; intro a S
       refine s_gF S (b := false) rfl rfl rfl rfl ?_; clear S a; intro a S
       refine s_gF S (b := false) rfl rfl rfl rfl ?_; clear S a; intro a S
       refine s_pick S (b := false) (hc_of rfl rfl) rfl rfl ?_; clear S a; intro a S
       refine s_move S rfl rfl ?_; clear S a; intro a S
       refine s_gF S (b := false) rfl rfl rfl rfl ?_; clear S a; intro a S
       refine s_gF S (b := false) rfl rfl rfl rfl ?_; clear S a; intro a S
       refine s_gF S (b := false) rfl rfl rfl rfl ?_; clear S a; intro a S
       refine s_gF S (b := false) rfl rfl rfl rfl ?_; clear S a; intro a S
       refine s_pick S (b := false) (hc_of rfl rfl) rfl rfl ?_; clear S a; intro a S
       refine s_move S rfl rfl ?_; clear S a; intro a S
       refine s_gF S (b := false) rfl rfl rfl rfl ?_; clear S a; intro a S
       refine s_gF S (b := false) rfl rfl rfl rfl ?_; clear S a; intro a S
       refine s_gF S (b := false) rfl rfl rfl rfl ?_; clear S a; intro a S
       refine s_gF S (b := false) rfl rfl rfl rfl ?_; clear S a; intro a S
       refine s_gF S (b := false) rfl rfl rfl rfl ?_; clear S a; intro a S
       refine s_pick S (b := false) (hc_of rfl rfl) rfl rfl ?_; clear S a; intro a S
       refine s_move S rfl rfl ?_; clear S a; intro a S
       refine s_gF S (b := false) rfl rfl rfl rfl ?_; clear S a; intro a S
       refine s_gF S (b := false) rfl rfl rfl rfl ?_; clear S a; intro a S
       refine s_gF S (b := false) rfl rfl rfl rfl ?_; clear S a; intro a S
       refine s_pick S (b := false) (hc_of rfl rfl) rfl rfl ?_; clear S a; intro a S
       refine s_move S rfl rfl ?_; clear S a; intro a S
       refine s_gF S (b := false) rfl rfl rfl rfl ?_; clear S a; intro a S
       refine s_gF S (b := false) rfl rfl rfl rfl ?_; clear S a; intro a S
       refine s_gF S (b := false) rfl rfl rfl rfl ?_; clear S a; intro a S
       refine s_gF S (b := false) rfl rfl rfl rfl ?_; clear S a; intro a S
       refine s_pick S (b := false) (hc_of rfl rfl) rfl rfl ?_; clear S a; intro a S
       refine s_assign S rfl rfl ?_; clear S a; intro a S
       refine c_end ?_
       refine wp_ret ?_
       obtain rfl := Option.some.inj h12
       exact b_ret1 (d := (.v (.bool false))) S rfl rfl fun ok => S.retX (Hx := []) hb _ _ (() : Unit) .nil ok
     ·refine s_gF S (b := (t6 == 0)) rfl rfl c5 rfl ?_; clear S a; intro a S
      refine s_gF S (b := (t6 == 0)) rfl rfl c5 rfl ?_; clear S a; intro a S
      refine s_gF S (b := (t6 == 0)) rfl rfl c5 rfl ?_; clear S a; intro a S
      refine s_gF S (b := (t6 == 0)) rfl rfl c5 rfl ?_; clear S a; intro a S
      refine s_gF S (b := (t6 == 0)) rfl rfl c5 rfl ?_; clear S a; intro a S
      refine s_gF S (b := (t6 == 0)) rfl rfl c5 rfl ?_; clear S a; intro a S
      refine s_pick S (b := false) (hc_of rfl c5) rfl rfl ?_; clear S a; intro a S
      refine s_move S rfl rfl ?_; clear S a; intro a S
      refine s_gF S (b := false) rfl rfl rfl rfl ?_; clear S a; intro a S
      refine s_gF S (b := false) rfl rfl rfl rfl ?_; clear S a; intro a S
      refine s_gF S (b := false) rfl rfl rfl rfl ?_; clear S a; intro a S
      refine s_gF S (b := false) rfl rfl rfl rfl ?_; clear S a; intro a S
      refine s_gF S (b := false) rfl rfl rfl rfl ?_; clear S a; intro a S
      refine s_gF S (b := false) rfl rfl rfl rfl ?_; clear S a; intro a S
      refine s_pick S (b := false) (hc_of rfl rfl) rfl rfl ?_; clear S a; intro a S
      refine s_move S rfl rfl ?_; clear S a; intro a S
      refine s_gF S (b := false) rfl rfl rfl rfl ?_; clear S a; intro a S
      refine s_gF S (b := false) rfl rfl rfl rfl ?_; clear S a; intro a S
      refine s_gF S (b := false) rfl rfl rfl rfl ?_; clear S a; intro a S
      refine s_gF S (b := false) rfl rfl rfl rfl ?_; clear S a; intro a S
      refine s_gF S (b := false) rfl rfl rfl rfl ?_; clear S a; intro a S
      refine s_gF S (b := false) rfl rfl rfl rfl ?_; clear S a; intro a S
      refine s_gF S (b := false) rfl rfl rfl rfl ?_; clear S a; intro a S
      refine s_gF S (b := false) rfl rfl rfl rfl ?_; clear S a; intro a S
      refine s_pick S (b := false) (hc_of rfl rfl) rfl rfl ?_; clear S a; intro a S
      refine s_move S rfl rfl ?_; clear S a; intro a S
      refine s_gF S (b := false) rfl rfl rfl rfl ?_; clear S a; intro a S
      refine s_gF S (b := false) rfl rfl rfl rfl ?_; clear S a; intro a S
      refine s_gF S (b := false) rfl rfl rfl rfl ?_; clear S a; intro a S
      refine s_gF S (b := false) rfl rfl rfl rfl ?_; clear S a; intro a S
      refine s_gF S (b := false) rfl rfl rfl rfl ?_; clear S a; intro a S
      refine s_gF S (b := false) rfl rfl rfl rfl ?_; clear S a; intro a S
      refine s_gF S (b := false) rfl rfl rfl rfl ?_; clear S a; intro a S
      refine s_gF S (b := false) rfl rfl rfl rfl ?_; clear S a; intro a S
      refine s_pick S (b := false) (hc_of rfl rfl) rfl rfl ?_; clear S a; intro a S
      refine s_move S rfl rfl ?_; clear S a; intro a S
      refine s_gF S (b := false) rfl rfl rfl rfl ?_; clear S a; intro a S
      refine s_gF S (b := false) rfl rfl rfl rfl ?_; clear S a; intro a S
      refine s_gF S (b := false) rfl rfl rfl rfl ?_; clear S a; intro a S
      refine s_pick S (b := false) (hc_of rfl rfl) rfl rfl ?_; clear S a; intro a S
      refine s_move S rfl rfl ?_; clear S a; intro a S
      refine s_gF S (b := false) rfl rfl rfl rfl ?_; clear S a; intro a S
      refine s_gF S (b := false) rfl rfl rfl rfl ?_; clear S a; intro a S
      refine s_gF S (b := false) rfl rfl rfl rfl ?_; clear S a; intro a S
      refine s_gF S (b := false) rfl rfl rfl rfl ?_; clear S a; intro a S
      refine s_pick S (b := false) (hc_of rfl rfl) rfl rfl ?_; clear S a; intro a S
      refine s_move S rfl rfl ?_; clear S a; intro a S
      refine s_gF S (b := false) rfl rfl rfl rfl ?_; clear S a; intro a S
      refine s_gF S (b := false) rfl rfl rfl rfl ?_; clear S a; intro a S
      refine s_gF S (b := false) rfl rfl rfl rfl ?_; clear S a; intro a S
      refine s_gF S (b := false) rfl rfl rfl rfl ?_; clear S a; intro a S
      refine s_gF S (b := false) rfl rfl rfl rfl ?_; clear S a; intro a S
      refine s_pick S (b := false) (hc_of rfl rfl) rfl rfl ?_; clear S a; intro a S
      refine s_move S rfl rfl ?_; clear S a; intro a S
      refine s_gF S (b := false) rfl rfl rfl rfl ?_; clear S a; intro a S
      refine s_gF S (b := false) rfl rfl rfl rfl ?_; clear S a; intro a S
      refine s_gF S (b := false) rfl rfl rfl rfl ?_; clear S a; intro a S
      refine s_pick S (b := false) (hc_of rfl rfl) rfl rfl ?_; clear S a; intro a S
      refine s_move S rfl rfl ?_; clear S a; intro a S
      refine s_gF S (b := false) rfl rfl rfl rfl ?_; clear S a; intro a S
      refine s_gF S (b := false) rfl rfl rfl rfl ?_; clear S a; intro a S
      refine s_gF S (b := false) rfl rfl rfl rfl ?_; clear S a; intro a S
      refine s_gF S (b := false) rfl rfl rfl rfl ?_; clear S a; intro a S
      refine s_pick S (b := false) (hc_of rfl rfl) rfl rfl ?_; clear S a; intro a S
      refine s_assign S rfl rfl ?_; clear S a; intro a S
      refine c_end ?_
      refine wp_ret ?_
      obtain rfl := Option.some.inj h10
      exact b_ret1 (d := (.v (.bool false))) S rfl rfl fun ok => S.retX (Hx := []) hb _ _ (() : Unit) .nil ok
    ·refine s_gF S (b := (!t5)) rfl rfl c4 rfl ?_; clear S a; intro a S
     refine s_gF S (b := (!t5)) rfl rfl c4 rfl ?_; clear S a; intro a S
     refine s_gF S (b := (!t5)) rfl rfl c4 rfl ?_; clear S a; intro a S
     refine s_gF S (b := (!t5)) rfl rfl c4 rfl ?_; clear S a; intro a S
     refine s_gF S (b := (!t5)) rfl rfl c4 rfl ?_; clear S a; intro a S
     refine s_pick S (b := false) (hc_of rfl c4) rfl rfl ?_; clear S a; intro a S
     refine s_move S rfl rfl ?_; clear S a; intro a S
     refine s_gF S (b := false) rfl rfl rfl rfl ?_; clear S a; intro a S
     refine s_gF S (b := false) rfl rfl rfl rfl ?_; clear S a; intro a S
     refine s_gF S (b := false) rfl rfl rfl rfl ?_; clear S a; intro a S
     refine s_gF S (b := false) rfl rfl rfl rfl ?_; clear S a; intro a S
     refine s_gF S (b := false) rfl rfl rfl rfl ?_; clear S a; intro a S
     refine s_gF S (b := false) rfl rfl rfl rfl ?_; clear S a; intro a S
     refine s_pick S (b := false) (hc_of rfl rfl) rfl rfl ?_; clear S a; intro a S
     refine s_move S rfl rfl ?_; clear S a; intro a S
     refine s_gF S (b := false) rfl rfl rfl rfl ?_; clear S a; intro a S
     refine s_gF S (b := false) rfl rfl rfl rfl ?_; clear S a; intro a S
     refine s_gF S (b := false) rfl rfl rfl rfl ?_; clear S a; intro a S
     refine s_gF S (b := false) rfl rfl rfl rfl ?_; clear S a; intro a S
     refine s_gF S (b := false) rfl rfl rfl rfl ?_; clear S a; intro a S
     refine s_gF S (b := false) rfl rfl rfl rfl ?_; clear S a; intro a S
     refine s_pick S (b := false) (hc_of rfl rfl) rfl rfl ?_; clear S a; intro a S
     refine s_move S rfl rfl ?_; clear S a; intro a S
     refine s_gF S (b := false) rfl rfl rfl rfl ?_; clear S a; intro a S
     refine s_gF S (b := false) rfl rfl rfl rfl ?_; clear S a; intro a S
     refine s_gF S (b := false) rfl rfl rfl rfl ?_; clear S a; intro a S
     refine s_gF S (b := false) rfl rfl rfl rfl ?_; clear S a; intro a S
     refine s_gF S (b := false) rfl rfl rfl rfl ?_; clear S a; intro a S
     refine s_gF S (b := false) rfl rfl rfl rfl ?_; clear S a; intro a S
     refine s_gF S (b := false) rfl rfl rfl rfl ?_; clear S a; intro a S
     refine s_gF S (b := false) rfl rfl rfl rfl ?_; clear S a; intro a S
     refine s_pick S (b := false) (hc_of rfl rfl) rfl rfl ?_; clear S a; intro a S
     refine s_move S rfl rfl ?_; clear S a; intro a S
     refine s_gF S (b := false) rfl rfl rfl rfl ?_; clear S a; intro a S
     refine s_gF S (b := false) rfl rfl rfl rfl ?_; clear S a; intro a S
     refine s_gF S (b := false) rfl rfl rfl rfl ?_; clear S a; intro a S
     refine s_gF S (b := false) rfl rfl rfl rfl ?_; clear S a; intro a S
     refine s_gF S (b := false) rfl rfl rfl rfl ?_; clear S a; intro a S
     refine s_gF S (b := false) rfl rfl rfl rfl ?_; clear S a; intro a S
     refine s_gF S (b := false) rfl rfl rfl rfl ?_; clear S a; intro a S
     refine s_gF S (b := false) rfl rfl rfl rfl ?_; clear S a; intro a S
     refine s_pick S (b := false) (hc_of rfl rfl) rfl rfl ?_; clear S a; intro a S
     refine s_move S rfl rfl ?_; clear S a; intro a S
     refine s_gF S (b := false) rfl rfl rfl rfl ?_; clear S a; intro a S
     refine s_gF S (b := false) rfl rfl rfl rfl ?_; clear S a; intro a S
     refine s_gF S (b := false) rfl rfl rfl rfl ?_; clear S a; intro a S
     refine s_pick S (b := false) (hc_of rfl rfl) rfl rfl ?_; clear S a; intro a S
     refine s_move S rfl rfl ?_; clear S a; intro a S
     refine s_gF S (b := false) rfl rfl rfl rfl ?_; clear S a; intro a S
     refine s_gF S (b := false) rfl rfl rfl rfl ?_; clear S a; intro a S
     refine s_gF S (b := false) rfl rfl rfl rfl ?_; clear S a; intro a S
     refine s_gF S (b := false) rfl rfl rfl rfl ?_; clear S a; intro a S
     refine s_pick S (b := false) (hc_of rfl rfl) rfl rfl ?_; clear S a; intro a S
     refine s_move S rfl rfl ?_; clear S a; intro a S
     refine s_gF S (b := false) rfl rfl rfl rfl ?_; clear S a; intro a S
     refine s_gF S (b := false) rfl rfl rfl rfl ?_; clear S a; intro a S
     refine s_gF S (b := false) rfl rfl rfl rfl ?_; clear S a; intro a S
     refine s_gF S (b := false) rfl rfl rfl rfl ?_; clear S a; intro a S
     refine s_gF S (b := false) rfl rfl rfl rfl ?_; clear S a; intro a S
     refine s_pick S (b := false) (hc_of rfl rfl) rfl rfl ?_; clear S a; intro a S
     refine s_move S rfl rfl ?_; clear S a; intro a S
     refine s_gF S (b := false) rfl rfl rfl rfl ?_; clear S a; intro a S
     refine s_gF S (b := false) rfl rfl rfl rfl ?_; clear S a; intro a S
     refine s_gF S (b := false) rfl rfl rfl rfl ?_; clear S a; intro a S
     refine s_pick S (b := false) (hc_of rfl rfl) rfl rfl ?_; clear S a; intro a S
     refine s_move S rfl rfl ?_; clear S a; intro a S
     refine s_gF S (b := false) rfl rfl rfl rfl ?_; clear S a; intro a S
     refine s_gF S (b := false) rfl rfl rfl rfl ?_; clear S a; intro a S
     refine s_gF S (b := false) rfl rfl rfl rfl ?_; clear S a; intro a S
     refine s_gF S (b := false) rfl rfl rfl rfl ?_; clear S a; intro a S
     refine s_pick S (b := false) (hc_of rfl rfl) rfl rfl ?_; clear S a; intro a S
     refine s_assign S rfl rfl ?_; clear S a; intro a S
     refine c_end ?_
     refine wp_ret ?_
     obtain rfl := Option.some.inj h8
     exact b_ret1 (d := (.v (.bool false))) S rfl rfl fun ok => S.retX (Hx := []) hb _ _ (() : Unit) .nil ok
   ·refine s_gF S (b := (!t3.2)) rfl rfl c3 rfl ?_; clear S a; intro a S
    refine s_gF S (b := (!t3.2)) rfl rfl c3 rfl ?_; clear S a; intro a S
    refine s_gF S (b := (!t3.2)) rfl rfl c3 rfl ?_; clear S a; intro a S
    refine s_gF S (b := (!t3.2)) rfl rfl c3 rfl ?_; clear S a; intro a S
    refine s_gF S (b := (!t3.2)) rfl rfl c3 rfl ?_; clear S a; intro a S
    refine s_pick S (b := false) (hc_of rfl c3) rfl rfl ?_; clear S a; intro a S
    refine s_move S rfl rfl ?_; clear S a; intro a S
    refine s_gF S (b := false) rfl rfl rfl rfl ?_; clear S a; intro a S
    refine s_gF S (b := false) rfl rfl rfl rfl ?_; clear S a; intro a S
    refine s_gF S (b := false) rfl rfl rfl rfl ?_; clear S a; intro a S
    refine s_gF S (b := false) rfl rfl rfl rfl ?_; clear S a; intro a S
    refine s_gF S (b := false) rfl rfl rfl rfl ?_; clear S a; intro a S
    refine s_pick S (b := false) (hc_of rfl rfl) rfl rfl ?_; clear S a; intro a S
    refine s_move S rfl rfl ?_; clear S a; intro a S
    refine s_gF S (b := false) rfl rfl rfl rfl ?_; clear S a; intro a S
    refine s_gF S (b := false) rfl rfl rfl rfl ?_; clear S a; intro a S
    refine s_gF S (b := false) rfl rfl rfl rfl ?_; clear S a; intro a S
    refine s_gF S (b := false) rfl rfl rfl rfl ?_; clear S a; intro a S
    refine s_gF S (b := false) rfl rfl rfl rfl ?_; clear S a; intro a S
    refine s_gF S (b := false) rfl rfl rfl rfl ?_; clear S a; intro a S
    refine s_pick S (b := false) (hc_of rfl rfl) rfl rfl ?_; clear S a; intro a S
    refine s_move S rfl rfl ?_; clear S a; intro a S
    refine s_gF S (b := false) rfl rfl rfl rfl ?_; clear S a; intro a S
    refine s_gF S (b := false) rfl rfl rfl rfl ?_; clear S a; intro a S
    refine s_gF S (b := false) rfl rfl rfl rfl ?_; clear S a; intro a S
    refine s_gF S (b := false) rfl rfl rfl rfl ?_; clear S a; intro a S
    refine s_gF S (b := false) rfl rfl rfl rfl ?_; clear S a; intro a S
    refine s_gF S (b := false) rfl rfl rfl rfl ?_; clear S a; intro a S
    refine s_pick S (b := false) (hc_of rfl rfl) rfl rfl ?_; clear S a; intro a S
    refine s_move S rfl rfl ?_; clear S a; intro a S
    refine s_gF S (b := false) rfl rfl rfl rfl ?_; clear S a; intro a S
    refine s_gF S (b := false) rfl rfl rfl rfl ?_; clear S a; intro a S
    refine s_gF S (b := false) rfl rfl rfl rfl ?_; clear S a; intro a S
    refine s_gF S (b := false) rfl rfl rfl rfl ?_; clear S a; intro a S
    refine s_gF S (b := false) rfl rfl rfl rfl ?_; clear S a; intro a S
    refine s_gF S (b := false) rfl rfl rfl rfl ?_; clear S a; intro a S
    refine s_gF S (b := false) rfl rfl rfl rfl ?_; clear S a; intro a S
    refine s_gF S (b := false) rfl rfl rfl rfl ?_; clear S a; intro a S
    refine s_pick S (b := false) (hc_of rfl rfl) rfl rfl ?_; clear S a; intro a S
    refine s_move S rfl rfl ?_; clear S a; intro a S
    refine s_gF S (b := false) rfl rfl rfl rfl ?_; clear S a; intro a S
    refine s_gF S (b := false) rfl rfl rfl rfl ?_; clear S a; intro a S
    refine s_gF S (b := false) rfl rfl rfl rfl ?_; clear S a; intro a S
    refine s_gF S (b := false) rfl rfl rfl rfl ?_; clear S a; intro a S
    refine s_gF S (b := false) rfl rfl rfl rfl ?_; clear S a; intro a S
    refine s_gF S (b := false) rfl rfl rfl rfl ?_; clear S a; intro a S
    refine s_gF S (b := false) rfl rfl rfl rfl ?_; clear S a; intro a S
    refine s_gF S (b := false) rfl rfl rfl rfl ?_; clear S a; intro a S
    refine s_pick S (b := false) (hc_of rfl rfl) rfl rfl ?_; clear S a; intro a S
    refine s_move S rfl rfl ?_; clear S a; intro a S
    refine s_gF S (b := false) rfl rfl rfl rfl ?_; clear S a; intro a S
    refine s_gF S (b := false) rfl rfl rfl rfl ?_; clear S a; intro a S
    refine s_gF S (b := false) rfl rfl rfl rfl ?_; clear S a; intro a S
    refine s_pick S (b := false) (hc_of rfl rfl) rfl rfl ?_; clear S a; intro a S
    refine s_move S rfl rfl ?_; clear S a; intro a S
    refine s_gF S (b := false) rfl rfl rfl rfl ?_; clear S a; intro a S
    refine s_gF S (b := false) rfl rfl rfl rfl ?_; clear S a; intro a S
    refine s_gF S (b := false) rfl rfl rfl rfl ?_; clear S a; intro a S
    refine s_gF S (b := false) rfl rfl rfl rfl ?_; clear S a; intro a S
    refine s_pick S (b := false) (hc_of rfl rfl) rfl rfl ?_; clear S a; intro a S
    refine s_move S rfl rfl ?_; clear S a; intro a S
    refine s_gF S (b := false) rfl rfl rfl rfl ?_; clear S a; intro a S
    refine s_gF S (b := false) rfl rfl rfl rfl ?_; clear S a; intro a S
    refine s_gF S (b := false) rfl rfl rfl rfl ?_; clear S a; intro a S
    refine s_gF S (b := false) rfl rfl rfl rfl ?_; clear S a; intro a S
    refine s_gF S (b := false) rfl rfl rfl rfl ?_; clear S a; intro a S
    refine s_pick S (b := false) (hc_of rfl rfl) rfl rfl ?_; clear S a; intro a S
    refine s_move S rfl rfl ?_; clear S a; intro a S
    refine s_gF S (b := false) rfl rfl rfl rfl ?_; clear S a; intro a S
    refine s_gF S (b := false) rfl rfl rfl rfl ?_; clear S a; intro a S
    refine s_gF S (b := false) rfl rfl rfl rfl ?_; clear S a; intro a S
    refine s_pick S (b := false) (hc_of rfl rfl) rfl rfl ?_; clear S a; intro a S
    refine s_move S rfl rfl ?_; clear S a; intro a S
    refine s_gF S (b := false) rfl rfl rfl rfl ?_; clear S a; intro a S
    refine s_gF S (b := false) rfl rfl rfl rfl ?_; clear S a; intro a S
    refine s_gF S (b := false) rfl rfl rfl rfl ?_; clear S a; intro a S
    refine s_gF S (b := false) rfl rfl rfl rfl ?_; clear S a; intro a S
    refine s_pick S (b := false) (hc_of rfl rfl) rfl rfl ?_; clear S a; intro a S
    refine s_assign S rfl rfl ?_; clear S a; intro a S
    refine c_end ?_
    refine wp_ret ?_
    obtain rfl := Option.some.inj h6
    exact b_ret1 (d := (.v (.bool false))) S rfl rfl fun ok => S.retX (Hx := []) hb _ _ (() : Unit) .nil ok
  ·refine s_gF S (b := t4) rfl rfl c2 rfl ?_; clear S a; intro a S
   refine s_gF S (b := t4) rfl rfl c2 rfl ?_; clear S a; intro a S
   refine s_pick S (b := false) (hc_of rfl c2) rfl rfl ?_; clear S a; intro a S
   refine s_move S rfl rfl ?_; clear S a; intro a S
   refine s_gF S (b := false) rfl rfl rfl rfl ?_; clear S a; intro a S
   refine s_gF S (b := false) rfl rfl rfl rfl ?_; clear S a; intro a S
   refine s_gF S (b := false) rfl rfl rfl rfl ?_; clear S a; intro a S
   refine s_gF S (b := false) rfl rfl rfl rfl ?_; clear S a; intro a S
   refine s_gF S (b := false) rfl rfl rfl rfl ?_; clear S a; intro a S
   refine s_pick S (b := false) (hc_of rfl rfl) rfl rfl ?_; clear S a; intro a S
   refine s_move S rfl rfl ?_; clear S a; intro a S
   refine s_gF S (b := false) rfl rfl rfl rfl ?_; clear S a; intro a S
   refine s_gF S (b := false) rfl rfl rfl rfl ?_; clear S a; intro a S
   refine s_gF S (b := false) rfl rfl rfl rfl ?_; clear S a; intro a S
   refine s_gF S (b := false) rfl rfl rfl rfl ?_; clear S a; intro a S
   refine s_gF S (b := false) rfl rfl rfl rfl ?_; clear S a; intro a S
   refine s_pick S (b := false) (hc_of rfl rfl) rfl rfl ?_; clear S a; intro a S
   refine s_move S rfl rfl ?_; clear S a; intro a S
   refine s_gF S (b := false) rfl rfl rfl rfl ?_; clear S a; intro a S
   refine s_gF S (b := false) rfl rfl rfl rfl ?_; clear S a; intro a S
   refine s_gF S (b := false) rfl rfl rfl rfl ?_; clear S a; intro a S
   refine s_gF S (b := false) rfl rfl rfl rfl ?_; clear S a; intro a S
   refine s_gF S (b := false) rfl rfl rfl rfl ?_; clear S a; intro a S
   refine s_gF S (b := false) rfl rfl rfl rfl ?_; clear S a; intro a S
   refine s_pick S (b := false) (hc_of rfl rfl) rfl rfl ?_; clear S a; intro a S
   refine s_move S rfl rfl ?_; clear S a; intro a S
   refine s_gF S (b := false) rfl rfl rfl rfl ?_; clear S a; intro a S
   refine s_gF S (b := false) rfl rfl rfl rfl ?_; clear S a; intro a S
   refine s_gF S (b := false) rfl rfl rfl rfl ?_; clear S a; intro a S
   refine s_gF S (b := false) rfl rfl rfl rfl ?_; clear S a; intro a S
   refine s_gF S (b := false) rfl rfl rfl rfl ?_; clear S a; intro a S
   refine s_gF S (b := false) rfl rfl rfl rfl ?_; clear S a; intro a S
   refine s_pick S (b := false) (hc_of rfl rfl) rfl rfl ?_; clear S a; intro a S
   refine s_move S rfl rfl ?_; clear S a; intro a S
   refine s_gF S (b := false) rfl rfl rfl rfl ?_; clear S a; intro a S
   refine s_gF S (b := false) rfl rfl rfl rfl ?_; clear S a; intro a S
   refine s_gF S (b := false) rfl rfl rfl rfl ?_; clear S a; intro a S
   refine s_gF S (b := false) rfl rfl rfl rfl ?_; clear S a; intro a S
   refine s_gF S (b := false) rfl rfl rfl rfl ?_; clear S a; intro a S
   refine s_gF S (b := false) rfl rfl rfl rfl ?_; clear S a; intro a S
   refine s_gF S (b := false) rfl rfl rfl rfl ?_; clear S a; intro a S
   refine s_gF S (b := false) rfl rfl rfl rfl ?_; clear S a; intro a S
   refine s_pick S (b := false) (hc_of rfl rfl) rfl rfl ?_; clear S a; intro a S
   refine s_move S rfl rfl ?_; clear S a; intro a S
   refine s_gF S (b := false) rfl rfl rfl rfl ?_; clear S a; intro a S
   refine s_gF S (b := false) rfl rfl rfl rfl ?_; clear S a; intro a S
   refine s_gF S (b := false) rfl rfl rfl rfl ?_; clear S a; intro a S
   refine s_gF S (b := false) rfl rfl rfl rfl ?_; clear S a; intro a S
   refine s_gF S (b := false) rfl rfl rfl rfl ?_; clear S a; intro a S
   refine s_gF S (b := false) rfl rfl rfl rfl ?_; clear S a; intro a S
   refine s_gF S (b := false) rfl rfl rfl rfl ?_; clear S a; intro a S
   refine s_gF S (b := false) rfl rfl rfl rfl ?_; clear S a; intro a S
   refine s_pick S (b := false) (hc_of rfl rfl) rfl rfl ?_; clear S a; intro a S
   refine s_move S rfl rfl ?_; clear S a; intro a S
   refine s_gF S (b := false) rfl rfl rfl rfl ?_; clear S a; intro a S
   refine s_gF S (b := false) rfl rfl rfl rfl ?_; clear S a; intro a S
   refine s_gF S (b := false) rfl rfl rfl rfl ?_; clear S a; intro a S
   refine s_pick S (b := false) (hc_of rfl rfl) rfl rfl ?_; clear S a; intro a S
   refine s_move S rfl rfl ?_; clear S a; intro a S
   refine s_gF S (b := false) rfl rfl rfl rfl ?_; clear S a; intro a S
   refine s_gF S (b := false) rfl rfl rfl rfl ?_; clear S a; intro a S
   refine s_gF S (b := false) rfl rfl rfl rfl ?_; clear S a; intro a S
   refine s_gF S (b := false) rfl rfl rfl rfl ?_; clear S a; intro a S
   refine s_pick S (b := false) (hc_of rfl rfl) rfl rfl ?_; clear S a; intro a S
   refine s_move S rfl rfl ?_; clear S a; intro a S
   refine s_gF S (b := false) rfl rfl rfl rfl ?_; clear S a; intro a S
   refine s_gF S (b := false) rfl rfl rfl rfl ?_; clear S a; intro a S
   refine s_gF S (b := false) rfl rfl rfl rfl ?_; clear S a; intro a S
   refine s_gF S (b := false) rfl rfl rfl rfl ?_; clear S a; intro a S
   refine s_gF S (b := false) rfl rfl rfl rfl ?_; clear S a; intro a S
   refine s_pick S (b := false) (hc_of rfl rfl) rfl rfl ?_; clear S a; intro a S
   refine s_move S rfl rfl ?_; clear S a; intro a S
   refine s_gF S (b := false) rfl rfl rfl rfl ?_; clear S a; intro a S
   refine s_gF S (b := false) rfl rfl rfl rfl ?_; clear S a; intro a S
   refine s_gF S (b := false) rfl rfl rfl rfl ?_; clear S a; intro a S
   refine s_pick S (b := false) (hc_of rfl rfl) rfl rfl ?_; clear S a; intro a S
   refine s_move S rfl rfl ?_; clear S a; intro a S
   refine s_gF S (b := false) rfl rfl rfl rfl ?_; clear S a; intro a S
   refine s_gF S (b := false) rfl rfl rfl rfl ?_; clear S a; intro a S
   refine s_gF S (b := false) rfl rfl rfl rfl ?_; clear S a; intro a S
   refine s_gF S (b := false) rfl rfl rfl rfl ?_; clear S a; intro a S
   refine s_pick S (b := false) (hc_of rfl rfl) rfl rfl ?_; clear S a; intro a S
   refine s_assign S rfl rfl ?_; clear S a; intro a S
   refine c_end ?_
   refine wp_ret ?_
   obtain rfl := Option.some.inj h5
   exact b_ret1 (d := (.v (.bool false))) S rfl rfl fun ok => S.retX (Hx := []) hb _ _ (() : Unit) .nil ok
end
end GW
