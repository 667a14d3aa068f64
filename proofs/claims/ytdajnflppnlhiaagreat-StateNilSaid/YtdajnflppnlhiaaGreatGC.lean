import Derived.Test.YtdajnflppnlhiaaGreatProg
import Derived.Test.YtdajnflppnlhiaaGreatGB
set_option linter.unusedVariables false
set_option linter.unusedSimpArgs false
set_option maxRecDepth 10000
set_option maxHeartbeats 4000000
namespace GW
open Go Go.RowKit Go.Proofs
noncomputable section
abbrev smithyref14_State_keep.Ty : Type := ST37 → Option ST37
def smithyref14_State_keep.Ctr (s : smithyref14_State_keep.Ty) : Prop := ∀ (x1 : ST37) (ch_0_0 : (Option Addr × Nat) × (Option Addr × Nat) × (Option Addr × Nat) × (Option Addr × Nat) × Unit × (Option Addr × Nat) × Unit × (Option Addr × Nat)) (r : ST37) (h0 : s x1 = some r) (mi : Mem) (w0 : World), okL mi [(.agg [.sl ch_0_0.1.1 ((ST37.un x1).1).length ch_0_0.1.2 (RdS Y71 ch_0_0.1.1 ((ST37.un x1).1)), .sl ch_0_0.2.1.1 ((ST37.un x1).2.1).length ch_0_0.2.1.2 (RdS Y122 ch_0_0.2.1.1 ((ST37.un x1).2.1)), .sl ch_0_0.2.2.1.1 ((ST37.un x1).2.2.1).length ch_0_0.2.2.1.2 (RdS (Ty.arr .u8 20) ch_0_0.2.2.1.1 ((ST37.un x1).2.2.1)), .sl ch_0_0.2.2.2.1.1 ((ST37.un x1).2.2.2.1).length ch_0_0.2.2.2.1.2 (RdS Y133 ch_0_0.2.2.2.1.1 ((ST37.un x1).2.2.2.1)), .one (.int .i64 ((ST37.un x1).2.2.2.2.1)), .sl ch_0_0.2.2.2.2.2.1.1 ((ST37.un x1).2.2.2.2.2.1).length ch_0_0.2.2.2.2.2.1.2 (RdS Y100 ch_0_0.2.2.2.2.2.1.1 ((ST37.un x1).2.2.2.2.2.1)), .one (.bool ((ST37.un x1).2.2.2.2.2.2.1)), .sl ch_0_0.2.2.2.2.2.2.2.1 ((ST37.un x1).2.2.2.2.2.2.2).length ch_0_0.2.2.2.2.2.2.2.2 (SR37 ch_0_0.2.2.2.2.2.2.2.1 ((ST37.un x1).2.2.2.2.2.2.2))])] → Pre mi [] w0 → Calls Tryz.prog 81 (([(.agg [.sl ch_0_0.1.1 ((ST37.un x1).1).length ch_0_0.1.2 (RdS Y71 ch_0_0.1.1 ((ST37.un x1).1)), .sl ch_0_0.2.1.1 ((ST37.un x1).2.1).length ch_0_0.2.1.2 (RdS Y122 ch_0_0.2.1.1 ((ST37.un x1).2.1)), .sl ch_0_0.2.2.1.1 ((ST37.un x1).2.2.1).length ch_0_0.2.2.1.2 (RdS (Ty.arr .u8 20) ch_0_0.2.2.1.1 ((ST37.un x1).2.2.1)), .sl ch_0_0.2.2.2.1.1 ((ST37.un x1).2.2.2.1).length ch_0_0.2.2.2.1.2 (RdS Y133 ch_0_0.2.2.2.1.1 ((ST37.un x1).2.2.2.1)), .one (.int .i64 ((ST37.un x1).2.2.2.2.1)), .sl ch_0_0.2.2.2.2.2.1.1 ((ST37.un x1).2.2.2.2.2.1).length ch_0_0.2.2.2.2.2.1.2 (RdS Y100 ch_0_0.2.2.2.2.2.1.1 ((ST37.un x1).2.2.2.2.2.1)), .one (.bool ((ST37.un x1).2.2.2.2.2.2.1)), .sl ch_0_0.2.2.2.2.2.2.2.1 ((ST37.un x1).2.2.2.2.2.2.2).length ch_0_0.2.2.2.2.2.2.2.2 (SR37 ch_0_0.2.2.2.2.2.2.2.1 ((ST37.un x1).2.2.2.2.2.2.2))])] : List D).map D.val).toArray w0 (RetX mi [] (fun (ch : W21) => ((.agg [.sl ch.1.1 ((ST37.un r).1).length ch.1.2 (RdS Y71 ch.1.1 ((ST37.un r).1)), .sl ch.2.1.1 ((ST37.un r).2.1).length ch.2.1.2 (RdS Y122 ch.2.1.1 ((ST37.un r).2.1)), .sl ch.2.2.1.1 ((ST37.un r).2.2.1).length ch.2.2.1.2 (RdS (Ty.arr .u8 20) ch.2.2.1.1 ((ST37.un r).2.2.1)), .sl ch.2.2.2.1.1 ((ST37.un r).2.2.2.1).length ch.2.2.2.1.2 (RdS Y133 ch.2.2.2.1.1 ((ST37.un r).2.2.2.1)), .one (.int .i64 ((ST37.un r).2.2.2.2.1)), .sl ch.2.2.2.2.2.1.1 ((ST37.un r).2.2.2.2.2.1).length ch.2.2.2.2.2.1.2 (RdS Y100 ch.2.2.2.2.2.1.1 ((ST37.un r).2.2.2.2.2.1)), .one (.bool ((ST37.un r).2.2.2.2.2.2.1)), .sl ch.2.2.2.2.2.2.2.1 ((ST37.un r).2.2.2.2.2.2.2).length ch.2.2.2.2.2.2.2.2 (SR37 ch.2.2.2.2.2.2.2.1 ((ST37.un r).2.2.2.2.2.2.2))]) : D)) (fun (ch : W21) => []) w0)
def smithyref14_State_keep.f (x1 : ST37) : Option ST37 := if (!((ST37.un x1).2.2.2.2.2.2.1)) = true then (some x1) else (if ((([] : List ST37)).length + ((ST37.un x1).2.2.2.2.2.2.2).length) * 160 ≤ 140737488355328 then (if ((([] : List ST37) ++ ((ST37.un x1).2.2.2.2.2.2.2)).length + ([(ST37.mk ((ST37.un x1).1, (ST37.un x1).2.1, (ST37.un x1).2.2.1, (ST37.un x1).2.2.2.1, (ST37.un x1).2.2.2.2.1, (ST37.un x1).2.2.2.2.2.1, (ST37.un x1).2.2.2.2.2.2.1, ([] : List ST37)))]).length) * 160 ≤ 140737488355328 then (some (ST37.mk ((ST37.un x1).1, (ST37.un x1).2.1, (ST37.un x1).2.2.1, (ST37.un x1).2.2.2.1, (ST37.un x1).2.2.2.2.1, (ST37.un x1).2.2.2.2.2.1, (ST37.un x1).2.2.2.2.2.2.1, (([] : List ST37) ++ ((ST37.un x1).2.2.2.2.2.2.2)) ++ [(ST37.mk ((ST37.un x1).1, (ST37.un x1).2.1, (ST37.un x1).2.2.1, (ST37.un x1).2.2.2.1, (ST37.un x1).2.2.2.2.1, (ST37.un x1).2.2.2.2.2.1, (ST37.un x1).2.2.2.2.2.2.1, ([] : List ST37)))]))) else none) else none)
theorem smithyref14_State_keep.ok : smithyref14_State_keep.Ctr (smithyref14_State_keep.f) := by
 intro x1 ch_0_0 r h0 mi w0 ok hm
 delta smithyref14_State_keep.f at h0
 refine c_enterX (n := 24) [(.agg [.sl ch_0_0.1.1 ((ST37.un x1).1).length ch_0_0.1.2 (RdS Y71 ch_0_0.1.1 ((ST37.un x1).1)), .sl ch_0_0.2.1.1 ((ST37.un x1).2.1).length ch_0_0.2.1.2 (RdS Y122 ch_0_0.2.1.1 ((ST37.un x1).2.1)), .sl ch_0_0.2.2.1.1 ((ST37.un x1).2.2.1).length ch_0_0.2.2.1.2 (RdS (Ty.arr .u8 20) ch_0_0.2.2.1.1 ((ST37.un x1).2.2.1)), .sl ch_0_0.2.2.2.1.1 ((ST37.un x1).2.2.2.1).length ch_0_0.2.2.2.1.2 (RdS Y133 ch_0_0.2.2.2.1.1 ((ST37.un x1).2.2.2.1)), .one (.int .i64 ((ST37.un x1).2.2.2.2.1)), .sl ch_0_0.2.2.2.2.2.1.1 ((ST37.un x1).2.2.2.2.2.1).length ch_0_0.2.2.2.2.2.1.2 (RdS Y100 ch_0_0.2.2.2.2.2.1.1 ((ST37.un x1).2.2.2.2.2.1)), .one (.bool ((ST37.un x1).2.2.2.2.2.2.1)), .sl ch_0_0.2.2.2.2.2.2.2.1 ((ST37.un x1).2.2.2.2.2.2.2).length ch_0_0.2.2.2.2.2.2.2.2 (SR37 ch_0_0.2.2.2.2.2.2.2.1 ((ST37.un x1).2.2.2.2.2.2.2))])] (l := [(0, (.agg [.sl ch_0_0.1.1 ((ST37.un x1).1).length ch_0_0.1.2 (RdS Y71 ch_0_0.1.1 ((ST37.un x1).1)), .sl ch_0_0.2.1.1 ((ST37.un x1).2.1).length ch_0_0.2.1.2 (RdS Y122 ch_0_0.2.1.1 ((ST37.un x1).2.1)), .sl ch_0_0.2.2.1.1 ((ST37.un x1).2.2.1).length ch_0_0.2.2.1.2 (RdS (Ty.arr .u8 20) ch_0_0.2.2.1.1 ((ST37.un x1).2.2.1)), .sl ch_0_0.2.2.2.1.1 ((ST37.un x1).2.2.2.1).length ch_0_0.2.2.2.1.2 (RdS Y133 ch_0_0.2.2.2.1.1 ((ST37.un x1).2.2.2.1)), .one (.int .i64 ((ST37.un x1).2.2.2.2.1)), .sl ch_0_0.2.2.2.2.2.1.1 ((ST37.un x1).2.2.2.2.2.1).length ch_0_0.2.2.2.2.2.1.2 (RdS Y100 ch_0_0.2.2.2.2.2.1.1 ((ST37.un x1).2.2.2.2.2.1)), .one (.bool ((ST37.un x1).2.2.2.2.2.2.1)), .sl ch_0_0.2.2.2.2.2.2.2.1 ((ST37.un x1).2.2.2.2.2.2.2).length ch_0_0.2.2.2.2.2.2.2.2 (SR37 ch_0_0.2.2.2.2.2.2.2.1 ((ST37.un x1).2.2.2.2.2.2.2))]))]) Tryz.func81 rfl rfl rfl rfl ok hm ?_
 clear ok hm
 intro b0 hb a S
 refine c_region ?_
 refine s_box S rfl rfl rfl ?_; clear S a; intro g1 a w S
 refine s_alloc S Z37 rfl ⟨rfl, rfl, rfl, rfl, rfl, rfl, rfl, rfl, trivial⟩ rfl ?_; clear S a w; intro g2 a w S
 refine c_end ?_
 refine wp_seq ?_
 refine c_region ?_
 refine s_fieldAddr S rfl I37_6 T4 (by decide) rfl rfl ?_; clear S a; intro a S
 refine s_load1 S rfl (.there .here) T4 (v := (.bool ((ST37.un x1).2.2.2.2.2.2.1))) rfl rfl ?_; clear S a; intro a S
 refine s_not S rfl rfl ?_; clear S a; intro a S
 refine c_end ?_
 rcases ite_of h0 with ⟨c1, h1⟩ | ⟨c1, h1⟩ <;> clear h0
 ·refine c_condT S rfl c1 ?_
  refine c_region ?_
  refine s_loada S rfl (.there .here) T37 (s' := [.sl ch_0_0.1.1 ((ST37.un x1).1).length ch_0_0.1.2 (RdS Y71 ch_0_0.1.1 ((ST37.un x1).1)), .sl ch_0_0.2.1.1 ((ST37.un x1).2.1).length ch_0_0.2.1.2 (RdS Y122 ch_0_0.2.1.1 ((ST37.un x1).2.1)), .sl ch_0_0.2.2.1.1 ((ST37.un x1).2.2.1).length ch_0_0.2.2.1.2 (RdS (Ty.arr .u8 20) ch_0_0.2.2.1.1 ((ST37.un x1).2.2.1)), .sl ch_0_0.2.2.2.1.1 ((ST37.un x1).2.2.2.1).length ch_0_0.2.2.2.1.2 (RdS Y133 ch_0_0.2.2.2.1.1 ((ST37.un x1).2.2.2.1)), .one (.int .i64 ((ST37.un x1).2.2.2.2.1)), .sl ch_0_0.2.2.2.2.2.1.1 ((ST37.un x1).2.2.2.2.2.1).length ch_0_0.2.2.2.2.2.1.2 (RdS Y100 ch_0_0.2.2.2.2.2.1.1 ((ST37.un x1).2.2.2.2.2.1)), .one (.bool ((ST37.un x1).2.2.2.2.2.2.1)), .sl ch_0_0.2.2.2.2.2.2.2.1 ((ST37.un x1).2.2.2.2.2.2.2).length ch_0_0.2.2.2.2.2.2.2.2 (SR37 ch_0_0.2.2.2.2.2.2.2.1 ((ST37.un x1).2.2.2.2.2.2.2))]) rfl rfl ?_; clear S a; intro a S
  refine s_store S rfl rfl rfl (s' := [.sl ch_0_0.1.1 ((ST37.un x1).1).length ch_0_0.1.2 (RdS Y71 ch_0_0.1.1 ((ST37.un x1).1)), .sl ch_0_0.2.1.1 ((ST37.un x1).2.1).length ch_0_0.2.1.2 (RdS Y122 ch_0_0.2.1.1 ((ST37.un x1).2.1)), .sl ch_0_0.2.2.1.1 ((ST37.un x1).2.2.1).length ch_0_0.2.2.1.2 (RdS (Ty.arr .u8 20) ch_0_0.2.2.1.1 ((ST37.un x1).2.2.1)), .sl ch_0_0.2.2.2.1.1 ((ST37.un x1).2.2.2.1).length ch_0_0.2.2.2.1.2 (RdS Y133 ch_0_0.2.2.2.1.1 ((ST37.un x1).2.2.2.1)), .one (.int .i64 ((ST37.un x1).2.2.2.2.1)), .sl ch_0_0.2.2.2.2.2.1.1 ((ST37.un x1).2.2.2.2.2.1).length ch_0_0.2.2.2.2.2.1.2 (RdS Y100 ch_0_0.2.2.2.2.2.1.1 ((ST37.un x1).2.2.2.2.2.1)), .one (.bool ((ST37.un x1).2.2.2.2.2.2.1)), .sl ch_0_0.2.2.2.2.2.2.2.1 ((ST37.un x1).2.2.2.2.2.2.2).length ch_0_0.2.2.2.2.2.2.2.2 (SR37 ch_0_0.2.2.2.2.2.2.2.1 ((ST37.un x1).2.2.2.2.2.2.2))]) .here T37 rfl rfl ?_; clear S w; intro w S
  refine c_end ?_
  refine wp_ret ?_
  refine x_thenR ?_
  obtain rfl := Option.some.inj h1
  exact b_ret1 (d := (.agg [.sl ch_0_0.1.1 ((ST37.un x1).1).length ch_0_0.1.2 (RdS Y71 ch_0_0.1.1 ((ST37.un x1).1)), .sl ch_0_0.2.1.1 ((ST37.un x1).2.1).length ch_0_0.2.1.2 (RdS Y122 ch_0_0.2.1.1 ((ST37.un x1).2.1)), .sl ch_0_0.2.2.1.1 ((ST37.un x1).2.2.1).length ch_0_0.2.2.1.2 (RdS (Ty.arr .u8 20) ch_0_0.2.2.1.1 ((ST37.un x1).2.2.1)), .sl ch_0_0.2.2.2.1.1 ((ST37.un x1).2.2.2.1).length ch_0_0.2.2.2.1.2 (RdS Y133 ch_0_0.2.2.2.1.1 ((ST37.un x1).2.2.2.1)), .one (.int .i64 ((ST37.un x1).2.2.2.2.1)), .sl ch_0_0.2.2.2.2.2.1.1 ((ST37.un x1).2.2.2.2.2.1).length ch_0_0.2.2.2.2.2.1.2 (RdS Y100 ch_0_0.2.2.2.2.2.1.1 ((ST37.un x1).2.2.2.2.2.1)), .one (.bool ((ST37.un x1).2.2.2.2.2.2.1)), .sl ch_0_0.2.2.2.2.2.2.2.1 ((ST37.un x1).2.2.2.2.2.2.2).length ch_0_0.2.2.2.2.2.2.2.2 (SR37 ch_0_0.2.2.2.2.2.2.2.1 ((ST37.un x1).2.2.2.2.2.2.2))])) S rfl (resD_cell rfl .here T37 rfl rfl) fun ok => S.retX (Hx := []) hb _ _ (((ch_0_0.1.1, ch_0_0.1.2), (ch_0_0.2.1.1, ch_0_0.2.1.2), (ch_0_0.2.2.1.1, ch_0_0.2.2.1.2), (ch_0_0.2.2.2.1.1, ch_0_0.2.2.2.1.2), (), (ch_0_0.2.2.2.2.2.1.1, ch_0_0.2.2.2.2.2.1.2), (), (ch_0_0.2.2.2.2.2.2.2.1, ch_0_0.2.2.2.2.2.2.2.2)) : W21) .nil ok
 ·refine c_condF S rfl c1 ?_
  refine wp_skip ?_
  refine x_thenN ?_
  refine c_region ?_
  refine s_loada S rfl (.there .here) T37 (s' := [.sl ch_0_0.1.1 ((ST37.un x1).1).length ch_0_0.1.2 (RdS Y71 ch_0_0.1.1 ((ST37.un x1).1)), .sl ch_0_0.2.1.1 ((ST37.un x1).2.1).length ch_0_0.2.1.2 (RdS Y122 ch_0_0.2.1.1 ((ST37.un x1).2.1)), .sl ch_0_0.2.2.1.1 ((ST37.un x1).2.2.1).length ch_0_0.2.2.1.2 (RdS (Ty.arr .u8 20) ch_0_0.2.2.1.1 ((ST37.un x1).2.2.1)), .sl ch_0_0.2.2.2.1.1 ((ST37.un x1).2.2.2.1).length ch_0_0.2.2.2.1.2 (RdS Y133 ch_0_0.2.2.2.1.1 ((ST37.un x1).2.2.2.1)), .one (.int .i64 ((ST37.un x1).2.2.2.2.1)), .sl ch_0_0.2.2.2.2.2.1.1 ((ST37.un x1).2.2.2.2.2.1).length ch_0_0.2.2.2.2.2.1.2 (RdS Y100 ch_0_0.2.2.2.2.2.1.1 ((ST37.un x1).2.2.2.2.2.1)), .one (.bool ((ST37.un x1).2.2.2.2.2.2.1)), .sl ch_0_0.2.2.2.2.2.2.2.1 ((ST37.un x1).2.2.2.2.2.2.2).length ch_0_0.2.2.2.2.2.2.2.2 (SR37 ch_0_0.2.2.2.2.2.2.2.1 ((ST37.un x1).2.2.2.2.2.2.2))]) rfl rfl ?_; clear S a; intro a S
  refine s_alloc S Z37 rfl ⟨rfl, rfl, rfl, rfl, rfl, rfl, rfl, rfl, trivial⟩ rfl ?_; clear S a w; intro g3 a w S
  refine s_store S rfl rfl rfl (s' := [.sl ch_0_0.1.1 ((ST37.un x1).1).length ch_0_0.1.2 (RdS Y71 ch_0_0.1.1 ((ST37.un x1).1)), .sl ch_0_0.2.1.1 ((ST37.un x1).2.1).length ch_0_0.2.1.2 (RdS Y122 ch_0_0.2.1.1 ((ST37.un x1).2.1)), .sl ch_0_0.2.2.1.1 ((ST37.un x1).2.2.1).length ch_0_0.2.2.1.2 (RdS (Ty.arr .u8 20) ch_0_0.2.2.1.1 ((ST37.un x1).2.2.1)), .sl ch_0_0.2.2.2.1.1 ((ST37.un x1).2.2.2.1).length ch_0_0.2.2.2.1.2 (RdS Y133 ch_0_0.2.2.2.1.1 ((ST37.un x1).2.2.2.1)), .one (.int .i64 ((ST37.un x1).2.2.2.2.1)), .sl ch_0_0.2.2.2.2.2.1.1 ((ST37.un x1).2.2.2.2.2.1).length ch_0_0.2.2.2.2.2.1.2 (RdS Y100 ch_0_0.2.2.2.2.2.1.1 ((ST37.un x1).2.2.2.2.2.1)), .one (.bool ((ST37.un x1).2.2.2.2.2.2.1)), .sl ch_0_0.2.2.2.2.2.2.2.1 ((ST37.un x1).2.2.2.2.2.2.2).length ch_0_0.2.2.2.2.2.2.2.2 (SR37 ch_0_0.2.2.2.2.2.2.2.1 ((ST37.un x1).2.2.2.2.2.2.2))]) .here T37 rfl rfl ?_; clear S w; intro w S
  refine c_end ?_
  refine c_region ?_
  refine s_bldSl S (ty' := SY37) (ds := []) (z := (ST37.mk (([] : List L71), ([] : List (L71 × Bool × Bool)), ([] : List (List Int)), ([] : List ((List Int) × (List Int))), 0, ([] : List L100), false, ([] : List ST37)))) (c0 := ((none, 0), (none, 0), (none, 0), (none, 0), (), (none, 0), (), (none, 0))) (ys := ([] : List ST37)) (cs := []) rfl Tryz.underlying35 J37 Z37 rfl ⟨⟨Nat.le_refl _, Nat.zero_le _, RdS.nil _ _ _, RdS.mono _ _ _⟩, ⟨Nat.le_refl _, Nat.zero_le _, RdS.nil _ _ _, RdS.mono _ _ _⟩, ⟨Nat.le_refl _, Nat.zero_le _, RdS.nil _ _ _, RdS.mono _ _ _⟩, ⟨Nat.le_refl _, Nat.zero_le _, RdS.nil _ _ _, RdS.mono _ _ _⟩, rfl, ⟨Nat.le_refl _, Nat.zero_le _, RdS.nil _ _ _, RdS.mono _ _ _⟩, rfl, ⟨Nat.le_refl _, Nat.zero_le _, (SE37 _ _ ▸ RdS.nil _ _ _), SM37 _ _⟩, trivial⟩ rfl rfl rfl rfl rfl rfl ?_; clear S a w; intro g4 a w S
  refine s_fieldAddr S rfl I37_7 T35 (by decide) rfl rfl ?_; clear S a; intro a S
  refine s_store S rfl rfl rfl (s' := [.sl ch_0_0.1.1 ((ST37.un x1).1).length ch_0_0.1.2 (RdS Y71 ch_0_0.1.1 ((ST37.un x1).1)), .sl ch_0_0.2.1.1 ((ST37.un x1).2.1).length ch_0_0.2.1.2 (RdS Y122 ch_0_0.2.1.1 ((ST37.un x1).2.1)), .sl ch_0_0.2.2.1.1 ((ST37.un x1).2.2.1).length ch_0_0.2.2.1.2 (RdS (Ty.arr .u8 20) ch_0_0.2.2.1.1 ((ST37.un x1).2.2.1)), .sl ch_0_0.2.2.2.1.1 ((ST37.un x1).2.2.2.1).length ch_0_0.2.2.2.1.2 (RdS Y133 ch_0_0.2.2.2.1.1 ((ST37.un x1).2.2.2.1)), .one (.int .i64 ((ST37.un x1).2.2.2.2.1)), .sl ch_0_0.2.2.2.2.2.1.1 ((ST37.un x1).2.2.2.2.2.1).length ch_0_0.2.2.2.2.2.1.2 (RdS Y100 ch_0_0.2.2.2.2.2.1.1 ((ST37.un x1).2.2.2.2.2.1)), .one (.bool ((ST37.un x1).2.2.2.2.2.2.1)), .one (.slice (some ⟨g4, 0, none⟩) 0 0)]) (.there .here) T35 rfl rfl ?_; clear S w; intro w S
  refine c_end ?_
  refine c_region ?_
  refine s_bldSl S (ty' := SY37) (ds := []) (z := (ST37.mk (([] : List L71), ([] : List (L71 × Bool × Bool)), ([] : List (List Int)), ([] : List ((List Int) × (List Int))), 0, ([] : List L100), false, ([] : List ST37)))) (c0 := ((none, 0), (none, 0), (none, 0), (none, 0), (), (none, 0), (), (none, 0))) (ys := ([] : List ST37)) (cs := []) rfl Tryz.underlying35 J37 Z37 rfl ⟨⟨Nat.le_refl _, Nat.zero_le _, RdS.nil _ _ _, RdS.mono _ _ _⟩, ⟨Nat.le_refl _, Nat.zero_le _, RdS.nil _ _ _, RdS.mono _ _ _⟩, ⟨Nat.le_refl _, Nat.zero_le _, RdS.nil _ _ _, RdS.mono _ _ _⟩, ⟨Nat.le_refl _, Nat.zero_le _, RdS.nil _ _ _, RdS.mono _ _ _⟩, rfl, ⟨Nat.le_refl _, Nat.zero_le _, RdS.nil _ _ _, RdS.mono _ _ _⟩, rfl, ⟨Nat.le_refl _, Nat.zero_le _, (SE37 _ _ ▸ RdS.nil _ _ _), SM37 _ _⟩, trivial⟩ rfl rfl rfl rfl rfl rfl ?_; clear S a w; intro g5 a w S
  refine s_assign S rfl rfl ?_; clear S a; intro a S
  refine c_end ?_
  refine c_region ?_
  refine s_move S rfl rfl ?_; clear S a; intro a S
  refine s_fieldAddr S rfl I37_7 T35 (by decide) rfl rfl ?_; clear S a; intro a S
  refine s_loadSl S rfl (.there (.there (.there (.there .here)))) T35 (A := ch_0_0.2.2.2.2.2.2.2.1) (len := ((ST37.un x1).2.2.2.2.2.2.2).length) (cap := ch_0_0.2.2.2.2.2.2.2.2) rfl rfl ?_; clear S a; intro a S
  obtain ⟨c2, h2⟩ := chk_of h1; clear h1
  refine s_app S (k2 := (((ST37.un x1).2.2.2.2.2.2.2).length)) (ys := ((ST37.un x1).2.2.2.2.2.2.2)) rfl (fun _ _ => .here) rfl rfl rfl (RdS.src (SD37 (S.get 15 (.sl ch_0_0.2.2.2.2.2.2.2.1 ((ST37.un x1).2.2.2.2.2.2.2).length ch_0_0.2.2.2.2.2.2.2.2 (SR37 ch_0_0.2.2.2.2.2.2.2.1 ((ST37.un x1).2.2.2.2.2.2.2))) rfl).2.2.2.1) (by decide) S.frz) Tryz.underlying35 J37 c2 rfl ?_; clear S a w; intro A1 cp1 a w S
  refine s_assign S rfl rfl ?_; clear S a; intro a S
  refine c_end ?_
  refine c_region ?_
  refine s_move S rfl rfl ?_; clear S a; intro a S
  refine s_loada S rfl (.there (.there .here)) T37 (s' := [.sl ch_0_0.1.1 ((ST37.un x1).1).length ch_0_0.1.2 (RdS Y71 ch_0_0.1.1 ((ST37.un x1).1)), .sl ch_0_0.2.1.1 ((ST37.un x1).2.1).length ch_0_0.2.1.2 (RdS Y122 ch_0_0.2.1.1 ((ST37.un x1).2.1)), .sl ch_0_0.2.2.1.1 ((ST37.un x1).2.2.1).length ch_0_0.2.2.1.2 (RdS (Ty.arr .u8 20) ch_0_0.2.2.1.1 ((ST37.un x1).2.2.1)), .sl ch_0_0.2.2.2.1.1 ((ST37.un x1).2.2.2.1).length ch_0_0.2.2.2.1.2 (RdS Y133 ch_0_0.2.2.2.1.1 ((ST37.un x1).2.2.2.1)), .one (.int .i64 ((ST37.un x1).2.2.2.2.1)), .sl ch_0_0.2.2.2.2.2.1.1 ((ST37.un x1).2.2.2.2.2.1).length ch_0_0.2.2.2.2.2.1.2 (RdS Y100 ch_0_0.2.2.2.2.2.1.1 ((ST37.un x1).2.2.2.2.2.1)), .one (.bool ((ST37.un x1).2.2.2.2.2.2.1)), .one (.slice (some ⟨g4, 0, none⟩) 0 0)]) rfl rfl ?_; clear S a; intro a S
  replace S := S.rowfro (.there .here)
  obtain ⟨m, le1, S, hro⟩ := S
  rw [← SE37] at hro
  replace S := S.slot (u := 18) (d' := (.agg [.sl ch_0_0.1.1 ((ST37.un x1).1).length ch_0_0.1.2 (RdS Y71 ch_0_0.1.1 ((ST37.un x1).1)), .sl ch_0_0.2.1.1 ((ST37.un x1).2.1).length ch_0_0.2.1.2 (RdS Y122 ch_0_0.2.1.1 ((ST37.un x1).2.1)), .sl ch_0_0.2.2.1.1 ((ST37.un x1).2.2.1).length ch_0_0.2.2.1.2 (RdS (Ty.arr .u8 20) ch_0_0.2.2.1.1 ((ST37.un x1).2.2.1)), .sl ch_0_0.2.2.2.1.1 ((ST37.un x1).2.2.2.1).length ch_0_0.2.2.2.1.2 (RdS Y133 ch_0_0.2.2.2.1.1 ((ST37.un x1).2.2.2.1)), .one (.int .i64 ((ST37.un x1).2.2.2.2.1)), .sl ch_0_0.2.2.2.2.2.1.1 ((ST37.un x1).2.2.2.2.2.1).length ch_0_0.2.2.2.2.2.1.2 (RdS Y100 ch_0_0.2.2.2.2.2.1.1 ((ST37.un x1).2.2.2.2.2.1)), .one (.bool ((ST37.un x1).2.2.2.2.2.2.1)), .sl (some ⟨g4, 0, none⟩) (([] : List ST37)).length 0 (SR37 (some ⟨g4, 0, none⟩) ([] : List ST37))])) rfl (by simp [D.val, pd, cellsOf, Seg.cells, hro.2.1]) (by have h := (S.get 18 (.agg [.sl ch_0_0.1.1 ((ST37.un x1).1).length ch_0_0.1.2 (RdS Y71 ch_0_0.1.1 ((ST37.un x1).1)), .sl ch_0_0.2.1.1 ((ST37.un x1).2.1).length ch_0_0.2.1.2 (RdS Y122 ch_0_0.2.1.1 ((ST37.un x1).2.1)), .sl ch_0_0.2.2.1.1 ((ST37.un x1).2.2.1).length ch_0_0.2.2.1.2 (RdS (Ty.arr .u8 20) ch_0_0.2.2.1.1 ((ST37.un x1).2.2.1)), .sl ch_0_0.2.2.2.1.1 ((ST37.un x1).2.2.2.1).length ch_0_0.2.2.2.1.2 (RdS Y133 ch_0_0.2.2.2.1.1 ((ST37.un x1).2.2.2.1)), .one (.int .i64 ((ST37.un x1).2.2.2.2.1)), .sl ch_0_0.2.2.2.2.2.1.1 ((ST37.un x1).2.2.2.2.2.1).length ch_0_0.2.2.2.2.2.1.2 (RdS Y100 ch_0_0.2.2.2.2.2.1.1 ((ST37.un x1).2.2.2.2.2.1)), .one (.bool ((ST37.un x1).2.2.2.2.2.2.1)), .one (.slice (some ⟨g4, 0, none⟩) 0 0)]) rfl).2; exact ⟨h.1, h.2.1, h.2.2.1, h.2.2.2.1, h.2.2.2.2.1, h.2.2.2.2.2.1, h.2.2.2.2.2.2.1, ⟨by have := hro.2.2.1; omega, hro.2.2.2, hro.1, SM37 _ _⟩, trivial⟩)
  replace S := S.slotrR (u := 10) rfl hro (SM37 _ _)
  replace S := S.cellro (s' := [.sl ch_0_0.1.1 ((ST37.un x1).1).length ch_0_0.1.2 (RdS Y71 ch_0_0.1.1 ((ST37.un x1).1)), .sl ch_0_0.2.1.1 ((ST37.un x1).2.1).length ch_0_0.2.1.2 (RdS Y122 ch_0_0.2.1.1 ((ST37.un x1).2.1)), .sl ch_0_0.2.2.1.1 ((ST37.un x1).2.2.1).length ch_0_0.2.2.1.2 (RdS (Ty.arr .u8 20) ch_0_0.2.2.1.1 ((ST37.un x1).2.2.1)), .sl ch_0_0.2.2.2.1.1 ((ST37.un x1).2.2.2.1).length ch_0_0.2.2.2.1.2 (RdS Y133 ch_0_0.2.2.2.1.1 ((ST37.un x1).2.2.2.1)), .one (.int .i64 ((ST37.un x1).2.2.2.2.1)), .sl ch_0_0.2.2.2.2.2.1.1 ((ST37.un x1).2.2.2.2.2.1).length ch_0_0.2.2.2.2.2.1.2 (RdS Y100 ch_0_0.2.2.2.2.2.1.1 ((ST37.un x1).2.2.2.2.2.1)), .one (.bool ((ST37.un x1).2.2.2.2.2.2.1)), .sl (some ⟨g4, 0, none⟩) (([] : List ST37)).length 0 (SR37 (some ⟨g4, 0, none⟩) ([] : List ST37))]) (.there .here) (by simp [cellsOf, Seg.cells, hro.2.1]) (fun h => ⟨h.1, h.2.1, h.2.2.1, h.2.2.2.1, h.2.2.2.2.1, h.2.2.2.2.2.1, h.2.2.2.2.2.2.1, ⟨by have := hro.2.2.1; omega, hro.2.2.2, hro.1, SM37 _ _⟩, trivial⟩)
  refine s_bldSl S (ty' := SY37) (ds := [(0, (.agg [.sl ch_0_0.1.1 ((ST37.un x1).1).length ch_0_0.1.2 (RdS Y71 ch_0_0.1.1 ((ST37.un x1).1)), .sl ch_0_0.2.1.1 ((ST37.un x1).2.1).length ch_0_0.2.1.2 (RdS Y122 ch_0_0.2.1.1 ((ST37.un x1).2.1)), .sl ch_0_0.2.2.1.1 ((ST37.un x1).2.2.1).length ch_0_0.2.2.1.2 (RdS (Ty.arr .u8 20) ch_0_0.2.2.1.1 ((ST37.un x1).2.2.1)), .sl ch_0_0.2.2.2.1.1 ((ST37.un x1).2.2.2.1).length ch_0_0.2.2.2.1.2 (RdS Y133 ch_0_0.2.2.2.1.1 ((ST37.un x1).2.2.2.1)), .one (.int .i64 ((ST37.un x1).2.2.2.2.1)), .sl ch_0_0.2.2.2.2.2.1.1 ((ST37.un x1).2.2.2.2.2.1).length ch_0_0.2.2.2.2.2.1.2 (RdS Y100 ch_0_0.2.2.2.2.2.1.1 ((ST37.un x1).2.2.2.2.2.1)), .one (.bool ((ST37.un x1).2.2.2.2.2.2.1)), .sl (some ⟨g4, 0, none⟩) (([] : List ST37)).length 0 (SR37 (some ⟨g4, 0, none⟩) ([] : List ST37))]))]) (z := (ST37.mk (([] : List L71), ([] : List (L71 × Bool × Bool)), ([] : List (List Int)), ([] : List ((List Int) × (List Int))), 0, ([] : List L100), false, ([] : List ST37)))) (c0 := ((none, 0), (none, 0), (none, 0), (none, 0), (), (none, 0), (), (none, 0))) (ys := [(ST37.mk ((ST37.un x1).1, (ST37.un x1).2.1, (ST37.un x1).2.2.1, (ST37.un x1).2.2.2.1, (ST37.un x1).2.2.2.2.1, (ST37.un x1).2.2.2.2.2.1, (ST37.un x1).2.2.2.2.2.2.1, ([] : List ST37)))]) (cs := [((ch_0_0.1.1, ch_0_0.1.2), (ch_0_0.2.1.1, ch_0_0.2.1.2), (ch_0_0.2.2.1.1, ch_0_0.2.2.1.2), (ch_0_0.2.2.2.1.1, ch_0_0.2.2.2.1.2), (), (ch_0_0.2.2.2.2.2.1.1, ch_0_0.2.2.2.2.2.1.2), (), ((some ⟨g4, 0, none⟩), 0))]) rfl Tryz.underlying35 J37 Z37 rfl ⟨⟨Nat.le_refl _, Nat.zero_le _, RdS.nil _ _ _, RdS.mono _ _ _⟩, ⟨Nat.le_refl _, Nat.zero_le _, RdS.nil _ _ _, RdS.mono _ _ _⟩, ⟨Nat.le_refl _, Nat.zero_le _, RdS.nil _ _ _, RdS.mono _ _ _⟩, ⟨Nat.le_refl _, Nat.zero_le _, RdS.nil _ _ _, RdS.mono _ _ _⟩, rfl, ⟨Nat.le_refl _, Nat.zero_le _, RdS.nil _ _ _, RdS.mono _ _ _⟩, rfl, ⟨Nat.le_refl _, Nat.zero_le _, (SE37 _ _ ▸ RdS.nil _ _ _), SM37 _ _⟩, trivial⟩ rfl rfl rfl rfl rfl rfl ?_; clear S a w; intro g6 a w S
  obtain ⟨c3, h3⟩ := chk_of h2; clear h2
  refine s_app S (k2 := 1) (ys := [(ST37.mk ((ST37.un x1).1, (ST37.un x1).2.1, (ST37.un x1).2.2.1, (ST37.un x1).2.2.2.1, (ST37.un x1).2.2.2.2.1, (ST37.un x1).2.2.2.2.2.1, (ST37.un x1).2.2.2.2.2.2.1, ([] : List ST37)))]) rfl (fun _ _ => (.there .here)) rfl rfl (S.holds _ (Pull.mem .here).1).1 (Res.row.src (S.holds _ (Pull.mem .here).1)) Tryz.underlying35 J37 c3 rfl ?_; clear S a w; intro A2 cp2 a w S
  refine s_assign S rfl rfl ?_; clear S a; intro a S
  refine c_end ?_
  refine c_region ?_
  refine s_move S rfl rfl ?_; clear S a; intro a S
  refine s_fieldAddr S rfl I37_7 T35 (by decide) rfl rfl ?_; clear S a; intro a S
  refine s_store S rfl rfl rfl (s' := [.sl ch_0_0.1.1 ((ST37.un x1).1).length ch_0_0.1.2 (RdS Y71 ch_0_0.1.1 ((ST37.un x1).1)), .sl ch_0_0.2.1.1 ((ST37.un x1).2.1).length ch_0_0.2.1.2 (RdS Y122 ch_0_0.2.1.1 ((ST37.un x1).2.1)), .sl ch_0_0.2.2.1.1 ((ST37.un x1).2.2.1).length ch_0_0.2.2.1.2 (RdS (Ty.arr .u8 20) ch_0_0.2.2.1.1 ((ST37.un x1).2.2.1)), .sl ch_0_0.2.2.2.1.1 ((ST37.un x1).2.2.2.1).length ch_0_0.2.2.2.1.2 (RdS Y133 ch_0_0.2.2.2.1.1 ((ST37.un x1).2.2.2.1)), .one (.int .i64 ((ST37.un x1).2.2.2.2.1)), .sl ch_0_0.2.2.2.2.2.1.1 ((ST37.un x1).2.2.2.2.2.1).length ch_0_0.2.2.2.2.2.1.2 (RdS Y100 ch_0_0.2.2.2.2.2.1.1 ((ST37.un x1).2.2.2.2.2.1)), .one (.bool ((ST37.un x1).2.2.2.2.2.2.1)), .one (.slice A2 ((0 + (((ST37.un x1).2.2.2.2.2.2.2).length)) + 1) cp2)]) (.there (.there (.there (.there .here)))) T35 rfl rfl ?_; clear S w; intro w S
  refine c_end ?_
  refine c_region ?_
  refine s_loada S rfl (.there (.there (.there (.there .here)))) T37 (s' := [.sl ch_0_0.1.1 ((ST37.un x1).1).length ch_0_0.1.2 (RdS Y71 ch_0_0.1.1 ((ST37.un x1).1)), .sl ch_0_0.2.1.1 ((ST37.un x1).2.1).length ch_0_0.2.1.2 (RdS Y122 ch_0_0.2.1.1 ((ST37.un x1).2.1)), .sl ch_0_0.2.2.1.1 ((ST37.un x1).2.2.1).length ch_0_0.2.2.1.2 (RdS (Ty.arr .u8 20) ch_0_0.2.2.1.1 ((ST37.un x1).2.2.1)), .sl ch_0_0.2.2.2.1.1 ((ST37.un x1).2.2.2.1).length ch_0_0.2.2.2.1.2 (RdS Y133 ch_0_0.2.2.2.1.1 ((ST37.un x1).2.2.2.1)), .one (.int .i64 ((ST37.un x1).2.2.2.2.1)), .sl ch_0_0.2.2.2.2.2.1.1 ((ST37.un x1).2.2.2.2.2.1).length ch_0_0.2.2.2.2.2.1.2 (RdS Y100 ch_0_0.2.2.2.2.2.1.1 ((ST37.un x1).2.2.2.2.2.1)), .one (.bool ((ST37.un x1).2.2.2.2.2.2.1)), .one (.slice A2 ((0 + (((ST37.un x1).2.2.2.2.2.2.2).length)) + 1) cp2)]) rfl rfl ?_; clear S a; intro a S
  refine s_store S rfl rfl rfl (s' := [.sl ch_0_0.1.1 ((ST37.un x1).1).length ch_0_0.1.2 (RdS Y71 ch_0_0.1.1 ((ST37.un x1).1)), .sl ch_0_0.2.1.1 ((ST37.un x1).2.1).length ch_0_0.2.1.2 (RdS Y122 ch_0_0.2.1.1 ((ST37.un x1).2.1)), .sl ch_0_0.2.2.1.1 ((ST37.un x1).2.2.1).length ch_0_0.2.2.1.2 (RdS (Ty.arr .u8 20) ch_0_0.2.2.1.1 ((ST37.un x1).2.2.1)), .sl ch_0_0.2.2.2.1.1 ((ST37.un x1).2.2.2.1).length ch_0_0.2.2.2.1.2 (RdS Y133 ch_0_0.2.2.2.1.1 ((ST37.un x1).2.2.2.1)), .one (.int .i64 ((ST37.un x1).2.2.2.2.1)), .sl ch_0_0.2.2.2.2.2.1.1 ((ST37.un x1).2.2.2.2.2.1).length ch_0_0.2.2.2.2.2.1.2 (RdS Y100 ch_0_0.2.2.2.2.2.1.1 ((ST37.un x1).2.2.2.2.2.1)), .one (.bool ((ST37.un x1).2.2.2.2.2.2.1)), .one (.slice A2 ((0 + (((ST37.un x1).2.2.2.2.2.2.2).length)) + 1) cp2)]) (.there (.there (.there .here))) T37 rfl rfl ?_; clear S w; intro w S
  refine c_end ?_
  refine wp_ret ?_
  replace S := S.rowfro (.there .here)
  obtain ⟨m, le1, S, hro⟩ := S
  rw [← SE37] at hro
  replace S := S.slot (u := 23) (d' := (.agg [.sl ch_0_0.1.1 ((ST37.un x1).1).length ch_0_0.1.2 (RdS Y71 ch_0_0.1.1 ((ST37.un x1).1)), .sl ch_0_0.2.1.1 ((ST37.un x1).2.1).length ch_0_0.2.1.2 (RdS Y122 ch_0_0.2.1.1 ((ST37.un x1).2.1)), .sl ch_0_0.2.2.1.1 ((ST37.un x1).2.2.1).length ch_0_0.2.2.1.2 (RdS (Ty.arr .u8 20) ch_0_0.2.2.1.1 ((ST37.un x1).2.2.1)), .sl ch_0_0.2.2.2.1.1 ((ST37.un x1).2.2.2.1).length ch_0_0.2.2.2.1.2 (RdS Y133 ch_0_0.2.2.2.1.1 ((ST37.un x1).2.2.2.1)), .one (.int .i64 ((ST37.un x1).2.2.2.2.1)), .sl ch_0_0.2.2.2.2.2.1.1 ((ST37.un x1).2.2.2.2.2.1).length ch_0_0.2.2.2.2.2.1.2 (RdS Y100 ch_0_0.2.2.2.2.2.1.1 ((ST37.un x1).2.2.2.2.2.1)), .one (.bool ((ST37.un x1).2.2.2.2.2.2.1)), .sl A2 ((([] : List ST37) ++ ((ST37.un x1).2.2.2.2.2.2.2)) ++ [(ST37.mk ((ST37.un x1).1, (ST37.un x1).2.1, (ST37.un x1).2.2.1, (ST37.un x1).2.2.2.1, (ST37.un x1).2.2.2.2.1, (ST37.un x1).2.2.2.2.2.1, (ST37.un x1).2.2.2.2.2.2.1, ([] : List ST37)))]).length cp2 (SR37 A2 ((([] : List ST37) ++ ((ST37.un x1).2.2.2.2.2.2.2)) ++ [(ST37.mk ((ST37.un x1).1, (ST37.un x1).2.1, (ST37.un x1).2.2.1, (ST37.un x1).2.2.2.1, (ST37.un x1).2.2.2.2.1, (ST37.un x1).2.2.2.2.2.1, (ST37.un x1).2.2.2.2.2.2.1, ([] : List ST37)))]))])) rfl (by simp [D.val, pd, cellsOf, Seg.cells, hro.2.1]) (by have h := (S.get 23 (.agg [.sl ch_0_0.1.1 ((ST37.un x1).1).length ch_0_0.1.2 (RdS Y71 ch_0_0.1.1 ((ST37.un x1).1)), .sl ch_0_0.2.1.1 ((ST37.un x1).2.1).length ch_0_0.2.1.2 (RdS Y122 ch_0_0.2.1.1 ((ST37.un x1).2.1)), .sl ch_0_0.2.2.1.1 ((ST37.un x1).2.2.1).length ch_0_0.2.2.1.2 (RdS (Ty.arr .u8 20) ch_0_0.2.2.1.1 ((ST37.un x1).2.2.1)), .sl ch_0_0.2.2.2.1.1 ((ST37.un x1).2.2.2.1).length ch_0_0.2.2.2.1.2 (RdS Y133 ch_0_0.2.2.2.1.1 ((ST37.un x1).2.2.2.1)), .one (.int .i64 ((ST37.un x1).2.2.2.2.1)), .sl ch_0_0.2.2.2.2.2.1.1 ((ST37.un x1).2.2.2.2.2.1).length ch_0_0.2.2.2.2.2.1.2 (RdS Y100 ch_0_0.2.2.2.2.2.1.1 ((ST37.un x1).2.2.2.2.2.1)), .one (.bool ((ST37.un x1).2.2.2.2.2.2.1)), .one (.slice A2 ((0 + (((ST37.un x1).2.2.2.2.2.2.2).length)) + 1) cp2)]) rfl).2; exact ⟨h.1, h.2.1, h.2.2.1, h.2.2.2.1, h.2.2.2.2.1, h.2.2.2.2.2.1, h.2.2.2.2.2.2.1, ⟨by have := hro.2.2.1; omega, hro.2.2.2, hro.1, SM37 _ _⟩, trivial⟩)
  replace S := S.slotrR (u := 21) rfl hro (SM37 _ _)
  replace S := S.slotrR (u := 4) rfl hro (SM37 _ _)
  replace S := S.slotrR (u := 20) rfl hro (SM37 _ _)
  replace S := S.cellro (s' := [.sl ch_0_0.1.1 ((ST37.un x1).1).length ch_0_0.1.2 (RdS Y71 ch_0_0.1.1 ((ST37.un x1).1)), .sl ch_0_0.2.1.1 ((ST37.un x1).2.1).length ch_0_0.2.1.2 (RdS Y122 ch_0_0.2.1.1 ((ST37.un x1).2.1)), .sl ch_0_0.2.2.1.1 ((ST37.un x1).2.2.1).length ch_0_0.2.2.1.2 (RdS (Ty.arr .u8 20) ch_0_0.2.2.1.1 ((ST37.un x1).2.2.1)), .sl ch_0_0.2.2.2.1.1 ((ST37.un x1).2.2.2.1).length ch_0_0.2.2.2.1.2 (RdS Y133 ch_0_0.2.2.2.1.1 ((ST37.un x1).2.2.2.1)), .one (.int .i64 ((ST37.un x1).2.2.2.2.1)), .sl ch_0_0.2.2.2.2.2.1.1 ((ST37.un x1).2.2.2.2.2.1).length ch_0_0.2.2.2.2.2.1.2 (RdS Y100 ch_0_0.2.2.2.2.2.1.1 ((ST37.un x1).2.2.2.2.2.1)), .one (.bool ((ST37.un x1).2.2.2.2.2.2.1)), .sl A2 ((([] : List ST37) ++ ((ST37.un x1).2.2.2.2.2.2.2)) ++ [(ST37.mk ((ST37.un x1).1, (ST37.un x1).2.1, (ST37.un x1).2.2.1, (ST37.un x1).2.2.2.1, (ST37.un x1).2.2.2.2.1, (ST37.un x1).2.2.2.2.2.1, (ST37.un x1).2.2.2.2.2.2.1, ([] : List ST37)))]).length cp2 (SR37 A2 ((([] : List ST37) ++ ((ST37.un x1).2.2.2.2.2.2.2)) ++ [(ST37.mk ((ST37.un x1).1, (ST37.un x1).2.1, (ST37.un x1).2.2.1, (ST37.un x1).2.2.2.1, (ST37.un x1).2.2.2.2.1, (ST37.un x1).2.2.2.2.2.1, (ST37.un x1).2.2.2.2.2.2.1, ([] : List ST37)))]))]) (.there (.there .here)) (by simp [cellsOf, Seg.cells, hro.2.1]) (fun h => ⟨h.1, h.2.1, h.2.2.1, h.2.2.2.1, h.2.2.2.2.1, h.2.2.2.2.2.1, h.2.2.2.2.2.2.1, ⟨by have := hro.2.2.1; omega, hro.2.2.2, hro.1, SM37 _ _⟩, trivial⟩)
  replace S := S.cellro (s' := [.sl ch_0_0.1.1 ((ST37.un x1).1).length ch_0_0.1.2 (RdS Y71 ch_0_0.1.1 ((ST37.un x1).1)), .sl ch_0_0.2.1.1 ((ST37.un x1).2.1).length ch_0_0.2.1.2 (RdS Y122 ch_0_0.2.1.1 ((ST37.un x1).2.1)), .sl ch_0_0.2.2.1.1 ((ST37.un x1).2.2.1).length ch_0_0.2.2.1.2 (RdS (Ty.arr .u8 20) ch_0_0.2.2.1.1 ((ST37.un x1).2.2.1)), .sl ch_0_0.2.2.2.1.1 ((ST37.un x1).2.2.2.1).length ch_0_0.2.2.2.1.2 (RdS Y133 ch_0_0.2.2.2.1.1 ((ST37.un x1).2.2.2.1)), .one (.int .i64 ((ST37.un x1).2.2.2.2.1)), .sl ch_0_0.2.2.2.2.2.1.1 ((ST37.un x1).2.2.2.2.2.1).length ch_0_0.2.2.2.2.2.1.2 (RdS Y100 ch_0_0.2.2.2.2.2.1.1 ((ST37.un x1).2.2.2.2.2.1)), .one (.bool ((ST37.un x1).2.2.2.2.2.2.1)), .sl A2 ((([] : List ST37) ++ ((ST37.un x1).2.2.2.2.2.2.2)) ++ [(ST37.mk ((ST37.un x1).1, (ST37.un x1).2.1, (ST37.un x1).2.2.1, (ST37.un x1).2.2.2.1, (ST37.un x1).2.2.2.2.1, (ST37.un x1).2.2.2.2.2.1, (ST37.un x1).2.2.2.2.2.2.1, ([] : List ST37)))]).length cp2 (SR37 A2 ((([] : List ST37) ++ ((ST37.un x1).2.2.2.2.2.2.2)) ++ [(ST37.mk ((ST37.un x1).1, (ST37.un x1).2.1, (ST37.un x1).2.2.1, (ST37.un x1).2.2.2.1, (ST37.un x1).2.2.2.2.1, (ST37.un x1).2.2.2.2.2.1, (ST37.un x1).2.2.2.2.2.2.1, ([] : List ST37)))]))]) (.there (.there (.there .here))) (by simp [cellsOf, Seg.cells, hro.2.1]) (fun h => ⟨h.1, h.2.1, h.2.2.1, h.2.2.2.1, h.2.2.2.2.1, h.2.2.2.2.2.1, h.2.2.2.2.2.2.1, ⟨by have := hro.2.2.1; omega, hro.2.2.2, hro.1, SM37 _ _⟩, trivial⟩)
  obtain rfl := Option.some.inj h3
  exact b_ret1 (d := (.agg [.sl ch_0_0.1.1 ((ST37.un x1).1).length ch_0_0.1.2 (RdS Y71 ch_0_0.1.1 ((ST37.un x1).1)), .sl ch_0_0.2.1.1 ((ST37.un x1).2.1).length ch_0_0.2.1.2 (RdS Y122 ch_0_0.2.1.1 ((ST37.un x1).2.1)), .sl ch_0_0.2.2.1.1 ((ST37.un x1).2.2.1).length ch_0_0.2.2.1.2 (RdS (Ty.arr .u8 20) ch_0_0.2.2.1.1 ((ST37.un x1).2.2.1)), .sl ch_0_0.2.2.2.1.1 ((ST37.un x1).2.2.2.1).length ch_0_0.2.2.2.1.2 (RdS Y133 ch_0_0.2.2.2.1.1 ((ST37.un x1).2.2.2.1)), .one (.int .i64 ((ST37.un x1).2.2.2.2.1)), .sl ch_0_0.2.2.2.2.2.1.1 ((ST37.un x1).2.2.2.2.2.1).length ch_0_0.2.2.2.2.2.1.2 (RdS Y100 ch_0_0.2.2.2.2.2.1.1 ((ST37.un x1).2.2.2.2.2.1)), .one (.bool ((ST37.un x1).2.2.2.2.2.2.1)), .sl A2 ((([] : List ST37) ++ ((ST37.un x1).2.2.2.2.2.2.2)) ++ [(ST37.mk ((ST37.un x1).1, (ST37.un x1).2.1, (ST37.un x1).2.2.1, (ST37.un x1).2.2.2.1, (ST37.un x1).2.2.2.2.1, (ST37.un x1).2.2.2.2.2.1, (ST37.un x1).2.2.2.2.2.2.1, ([] : List ST37)))]).length cp2 (SR37 A2 ((([] : List ST37) ++ ((ST37.un x1).2.2.2.2.2.2.2)) ++ [(ST37.mk ((ST37.un x1).1, (ST37.un x1).2.1, (ST37.un x1).2.2.1, (ST37.un x1).2.2.2.1, (ST37.un x1).2.2.2.2.1, (ST37.un x1).2.2.2.2.2.1, (ST37.un x1).2.2.2.2.2.2.1, ([] : List ST37)))]))])) S rfl (resD_cell rfl (.there (.there .here)) T37 rfl rfl) fun ok => S.retX (Hx := []) hb _ _ (((ch_0_0.1.1, ch_0_0.1.2), (ch_0_0.2.1.1, ch_0_0.2.1.2), (ch_0_0.2.2.1.1, ch_0_0.2.2.1.2), (ch_0_0.2.2.2.1.1, ch_0_0.2.2.2.1.2), (), (ch_0_0.2.2.2.2.2.1.1, ch_0_0.2.2.2.2.2.1.2), (), (A2, cp2)) : W21) .nil ok
abbrev smithyref14_State_With.Ty : Type := ST37 → W20 → Option ST37
def smithyref14_State_With.Ctr (s : smithyref14_State_With.Ty) : Prop := ∀ (x1 : ST37) (x2 : W20) (ch_0_0 : (Option Addr × Nat) × (Option Addr × Nat) × (Option Addr × Nat) × (Option Addr × Nat) × Unit × (Option Addr × Nat) × Unit × (Option Addr × Nat)) (ch_1_0 : Option Addr) (ch_1_1 : Nat) (ch_1_2 : Option Addr) (ch_1_3 : Nat) (r : ST37) (h0 : s x1 x2 = some r) (mi : Mem) (w0 : World), okL mi [(.agg [.sl ch_0_0.1.1 ((ST37.un x1).1).length ch_0_0.1.2 (RdS Y71 ch_0_0.1.1 ((ST37.un x1).1)), .sl ch_0_0.2.1.1 ((ST37.un x1).2.1).length ch_0_0.2.1.2 (RdS Y122 ch_0_0.2.1.1 ((ST37.un x1).2.1)), .sl ch_0_0.2.2.1.1 ((ST37.un x1).2.2.1).length ch_0_0.2.2.1.2 (RdS (Ty.arr .u8 20) ch_0_0.2.2.1.1 ((ST37.un x1).2.2.1)), .sl ch_0_0.2.2.2.1.1 ((ST37.un x1).2.2.2.1).length ch_0_0.2.2.2.1.2 (RdS Y133 ch_0_0.2.2.2.1.1 ((ST37.un x1).2.2.2.1)), .one (.int .i64 ((ST37.un x1).2.2.2.2.1)), .sl ch_0_0.2.2.2.2.2.1.1 ((ST37.un x1).2.2.2.2.2.1).length ch_0_0.2.2.2.2.2.1.2 (RdS Y100 ch_0_0.2.2.2.2.2.1.1 ((ST37.un x1).2.2.2.2.2.1)), .one (.bool ((ST37.un x1).2.2.2.2.2.2.1)), .sl ch_0_0.2.2.2.2.2.2.2.1 ((ST37.un x1).2.2.2.2.2.2.2).length ch_0_0.2.2.2.2.2.2.2.2 (SR37 ch_0_0.2.2.2.2.2.2.2.1 ((ST37.un x1).2.2.2.2.2.2.2))]), (.agg (Y122.segs x2 (((), (), (), (ch_1_0, ch_1_1), (ch_1_2, ch_1_3)), (), ())))] → Pre mi [] w0 → Calls Tryz.prog 74 (([(.agg [.sl ch_0_0.1.1 ((ST37.un x1).1).length ch_0_0.1.2 (RdS Y71 ch_0_0.1.1 ((ST37.un x1).1)), .sl ch_0_0.2.1.1 ((ST37.un x1).2.1).length ch_0_0.2.1.2 (RdS Y122 ch_0_0.2.1.1 ((ST37.un x1).2.1)), .sl ch_0_0.2.2.1.1 ((ST37.un x1).2.2.1).length ch_0_0.2.2.1.2 (RdS (Ty.arr .u8 20) ch_0_0.2.2.1.1 ((ST37.un x1).2.2.1)), .sl ch_0_0.2.2.2.1.1 ((ST37.un x1).2.2.2.1).length ch_0_0.2.2.2.1.2 (RdS Y133 ch_0_0.2.2.2.1.1 ((ST37.un x1).2.2.2.1)), .one (.int .i64 ((ST37.un x1).2.2.2.2.1)), .sl ch_0_0.2.2.2.2.2.1.1 ((ST37.un x1).2.2.2.2.2.1).length ch_0_0.2.2.2.2.2.1.2 (RdS Y100 ch_0_0.2.2.2.2.2.1.1 ((ST37.un x1).2.2.2.2.2.1)), .one (.bool ((ST37.un x1).2.2.2.2.2.2.1)), .sl ch_0_0.2.2.2.2.2.2.2.1 ((ST37.un x1).2.2.2.2.2.2.2).length ch_0_0.2.2.2.2.2.2.2.2 (SR37 ch_0_0.2.2.2.2.2.2.2.1 ((ST37.un x1).2.2.2.2.2.2.2))]), (.agg (Y122.segs x2 (((), (), (), (ch_1_0, ch_1_1), (ch_1_2, ch_1_3)), (), ())))] : List D).map D.val).toArray w0 (RetX mi [] (fun (ch : W21) => ((.agg [.sl ch.1.1 ((ST37.un r).1).length ch.1.2 (RdS Y71 ch.1.1 ((ST37.un r).1)), .sl ch.2.1.1 ((ST37.un r).2.1).length ch.2.1.2 (RdS Y122 ch.2.1.1 ((ST37.un r).2.1)), .sl ch.2.2.1.1 ((ST37.un r).2.2.1).length ch.2.2.1.2 (RdS (Ty.arr .u8 20) ch.2.2.1.1 ((ST37.un r).2.2.1)), .sl ch.2.2.2.1.1 ((ST37.un r).2.2.2.1).length ch.2.2.2.1.2 (RdS Y133 ch.2.2.2.1.1 ((ST37.un r).2.2.2.1)), .one (.int .i64 ((ST37.un r).2.2.2.2.1)), .sl ch.2.2.2.2.2.1.1 ((ST37.un r).2.2.2.2.2.1).length ch.2.2.2.2.2.1.2 (RdS Y100 ch.2.2.2.2.2.1.1 ((ST37.un r).2.2.2.2.2.1)), .one (.bool ((ST37.un r).2.2.2.2.2.2.1)), .sl ch.2.2.2.2.2.2.2.1 ((ST37.un r).2.2.2.2.2.2.2).length ch.2.2.2.2.2.2.2.2 (SR37 ch.2.2.2.2.2.2.2.1 ((ST37.un r).2.2.2.2.2.2.2))]) : D)) (fun (ch : W21) => []) w0)
def smithyref14_State_With.j1 (x2 : W20) (t1 : ST37) (y1 : List (L71 × Bool × Bool)) : Option ST37 := if ((y1).length + ([x2]).length) * 120 ≤ 140737488355328 then (some (ST37.mk ((ST37.un t1).1, y1 ++ [x2], (ST37.un t1).2.2.1, (ST37.un t1).2.2.2.1, (ST37.un t1).2.2.2.2.1, (ST37.un t1).2.2.2.2.2.1, (ST37.un t1).2.2.2.2.2.2.1, (ST37.un t1).2.2.2.2.2.2.2))) else none
def smithyref14_State_With.j2 (y6 : Int) (rec1 : Int → (List (L71 × Bool × Bool)) → Option ST37) (y8 : List (L71 × Bool × Bool)) : Option ST37 := rec1 (wr .i64 (y6 + 1)) y8
def smithyref14_State_With.b1 (x2 : W20) (t1 : ST37) (rec1 : Int → (List (L71 × Bool × Bool)) → Option ST37) (y6 : Int) (y7 : List (L71 × Bool × Bool)) : Option ST37 := if (decide (y6 < (((ST37.un t1).2.1).length : Int))) = true then (if (0 : Int) ≤ y6 ∧ y6 < (((ST37.un t1).2.1).length : Int) then (if (!(decide (((gt ((ST37.un t1).2.1) y6).1).1 = x2.1.1))) = true then (if ((y7).length + ([gt ((ST37.un t1).2.1) y6]).length) * 120 ≤ 140737488355328 then (smithyref14_State_With.j2 y6 rec1 (y7 ++ [gt ((ST37.un t1).2.1) y6])) else none) else (smithyref14_State_With.j2 y6 rec1 y7)) else none) else (smithyref14_State_With.j1 x2 t1 y7)
def smithyref14_State_With.l1 (x2 : W20) (t1 : ST37) : Nat → Int → (List (L71 × Bool × Bool)) → Option ST37
  | 0, _, _ => none
  | q + 1, y6, y7 => smithyref14_State_With.b1 x2 t1 (smithyref14_State_With.l1 x2 t1 q) y6 y7
def smithyref14_State_With.f (k : Nat) (x1 : ST37) (x2 : W20) : Option ST37 := (smithyref14_State_keep.f x1).bind fun t1 => (smithyref14_State_With.l1 x2 t1 k 0 ([] : List (L71 × Bool × Bool)))
theorem smithyref14_State_With.ok (k : Nat) : smithyref14_State_With.Ctr (smithyref14_State_With.f k) := by
 intro x1 x2 ch_0_0 ch_1_0 ch_1_1 ch_1_2 ch_1_3 r h0 mi w0 ok hm
 delta smithyref14_State_With.f at h0
 refine c_enterX (n := 43) [(.agg [.sl ch_0_0.1.1 ((ST37.un x1).1).length ch_0_0.1.2 (RdS Y71 ch_0_0.1.1 ((ST37.un x1).1)), .sl ch_0_0.2.1.1 ((ST37.un x1).2.1).length ch_0_0.2.1.2 (RdS Y122 ch_0_0.2.1.1 ((ST37.un x1).2.1)), .sl ch_0_0.2.2.1.1 ((ST37.un x1).2.2.1).length ch_0_0.2.2.1.2 (RdS (Ty.arr .u8 20) ch_0_0.2.2.1.1 ((ST37.un x1).2.2.1)), .sl ch_0_0.2.2.2.1.1 ((ST37.un x1).2.2.2.1).length ch_0_0.2.2.2.1.2 (RdS Y133 ch_0_0.2.2.2.1.1 ((ST37.un x1).2.2.2.1)), .one (.int .i64 ((ST37.un x1).2.2.2.2.1)), .sl ch_0_0.2.2.2.2.2.1.1 ((ST37.un x1).2.2.2.2.2.1).length ch_0_0.2.2.2.2.2.1.2 (RdS Y100 ch_0_0.2.2.2.2.2.1.1 ((ST37.un x1).2.2.2.2.2.1)), .one (.bool ((ST37.un x1).2.2.2.2.2.2.1)), .sl ch_0_0.2.2.2.2.2.2.2.1 ((ST37.un x1).2.2.2.2.2.2.2).length ch_0_0.2.2.2.2.2.2.2.2 (SR37 ch_0_0.2.2.2.2.2.2.2.1 ((ST37.un x1).2.2.2.2.2.2.2))]), (.agg (Y122.segs x2 (((), (), (), (ch_1_0, ch_1_1), (ch_1_2, ch_1_3)), (), ())))] (l := [(0, (.agg [.sl ch_0_0.1.1 ((ST37.un x1).1).length ch_0_0.1.2 (RdS Y71 ch_0_0.1.1 ((ST37.un x1).1)), .sl ch_0_0.2.1.1 ((ST37.un x1).2.1).length ch_0_0.2.1.2 (RdS Y122 ch_0_0.2.1.1 ((ST37.un x1).2.1)), .sl ch_0_0.2.2.1.1 ((ST37.un x1).2.2.1).length ch_0_0.2.2.1.2 (RdS (Ty.arr .u8 20) ch_0_0.2.2.1.1 ((ST37.un x1).2.2.1)), .sl ch_0_0.2.2.2.1.1 ((ST37.un x1).2.2.2.1).length ch_0_0.2.2.2.1.2 (RdS Y133 ch_0_0.2.2.2.1.1 ((ST37.un x1).2.2.2.1)), .one (.int .i64 ((ST37.un x1).2.2.2.2.1)), .sl ch_0_0.2.2.2.2.2.1.1 ((ST37.un x1).2.2.2.2.2.1).length ch_0_0.2.2.2.2.2.1.2 (RdS Y100 ch_0_0.2.2.2.2.2.1.1 ((ST37.un x1).2.2.2.2.2.1)), .one (.bool ((ST37.un x1).2.2.2.2.2.2.1)), .sl ch_0_0.2.2.2.2.2.2.2.1 ((ST37.un x1).2.2.2.2.2.2.2).length ch_0_0.2.2.2.2.2.2.2.2 (SR37 ch_0_0.2.2.2.2.2.2.2.1 ((ST37.un x1).2.2.2.2.2.2.2))])), (1, (.agg (Y122.segs x2 (((), (), (), (ch_1_0, ch_1_1), (ch_1_2, ch_1_3)), (), ()))))]) Tryz.func74 rfl rfl rfl rfl ok hm ?_
 clear ok hm
 intro b0 hb a S
 refine c_region ?_
 refine s_box S rfl rfl rfl ?_; clear S a; intro g1 a w S
 refine s_box S rfl rfl rfl ?_; clear S a w; intro g2 a w S
 refine s_alloc S Z37 rfl ⟨rfl, rfl, rfl, rfl, rfl, rfl, rfl, rfl, trivial⟩ rfl ?_; clear S a w; intro g3 a w S
 refine c_end ?_
 refine c_region ?_
 refine s_loada S rfl (.there (.there .here)) T37 (s' := [.sl ch_0_0.1.1 ((ST37.un x1).1).length ch_0_0.1.2 (RdS Y71 ch_0_0.1.1 ((ST37.un x1).1)), .sl ch_0_0.2.1.1 ((ST37.un x1).2.1).length ch_0_0.2.1.2 (RdS Y122 ch_0_0.2.1.1 ((ST37.un x1).2.1)), .sl ch_0_0.2.2.1.1 ((ST37.un x1).2.2.1).length ch_0_0.2.2.1.2 (RdS (Ty.arr .u8 20) ch_0_0.2.2.1.1 ((ST37.un x1).2.2.1)), .sl ch_0_0.2.2.2.1.1 ((ST37.un x1).2.2.2.1).length ch_0_0.2.2.2.1.2 (RdS Y133 ch_0_0.2.2.2.1.1 ((ST37.un x1).2.2.2.1)), .one (.int .i64 ((ST37.un x1).2.2.2.2.1)), .sl ch_0_0.2.2.2.2.2.1.1 ((ST37.un x1).2.2.2.2.2.1).length ch_0_0.2.2.2.2.2.1.2 (RdS Y100 ch_0_0.2.2.2.2.2.1.1 ((ST37.un x1).2.2.2.2.2.1)), .one (.bool ((ST37.un x1).2.2.2.2.2.2.1)), .sl ch_0_0.2.2.2.2.2.2.2.1 ((ST37.un x1).2.2.2.2.2.2.2).length ch_0_0.2.2.2.2.2.2.2.2 (SR37 ch_0_0.2.2.2.2.2.2.2.1 ((ST37.un x1).2.2.2.2.2.2.2))]) rfl rfl ?_; clear S a; intro a S
 obtain ⟨t1, et1, h1⟩ := bind_of h0; clear h0
 refine s_callP S (fun (ch : W21) => ((.agg [.sl ch.1.1 ((ST37.un t1).1).length ch.1.2 (RdS Y71 ch.1.1 ((ST37.un t1).1)), .sl ch.2.1.1 ((ST37.un t1).2.1).length ch.2.1.2 (RdS Y122 ch.2.1.1 ((ST37.un t1).2.1)), .sl ch.2.2.1.1 ((ST37.un t1).2.2.1).length ch.2.2.1.2 (RdS (Ty.arr .u8 20) ch.2.2.1.1 ((ST37.un t1).2.2.1)), .sl ch.2.2.2.1.1 ((ST37.un t1).2.2.2.1).length ch.2.2.2.1.2 (RdS Y133 ch.2.2.2.1.1 ((ST37.un t1).2.2.2.1)), .one (.int .i64 ((ST37.un t1).2.2.2.2.1)), .sl ch.2.2.2.2.2.1.1 ((ST37.un t1).2.2.2.2.2.1).length ch.2.2.2.2.2.1.2 (RdS Y100 ch.2.2.2.2.2.1.1 ((ST37.un t1).2.2.2.2.2.1)), .one (.bool ((ST37.un t1).2.2.2.2.2.2.1)), .sl ch.2.2.2.2.2.2.2.1 ((ST37.un t1).2.2.2.2.2.2.2).length ch.2.2.2.2.2.2.2.2 (SR37 ch.2.2.2.2.2.2.2.1 ((ST37.un t1).2.2.2.2.2.2.2))]) : D)) N81 rfl rfl (smithyref14_State_keep.ok x1 ((ch_0_0.1.1, ch_0_0.1.2), (ch_0_0.2.1.1, ch_0_0.2.1.2), (ch_0_0.2.2.1.1, ch_0_0.2.2.1.2), (ch_0_0.2.2.2.1.1, ch_0_0.2.2.2.1.2), (), (ch_0_0.2.2.2.2.2.1.1, ch_0_0.2.2.2.2.2.1.2), (), (ch_0_0.2.2.2.2.2.2.2.1, ch_0_0.2.2.2.2.2.2.2.2)) t1 et1 _ _) ?_; clear S a w; intro ch1 m le1 a w S
 refine s_store S rfl rfl rfl (s' := [.sl ch1.1.1 ((ST37.un t1).1).length ch1.1.2 (RdS Y71 ch1.1.1 ((ST37.un t1).1)), .sl ch1.2.1.1 ((ST37.un t1).2.1).length ch1.2.1.2 (RdS Y122 ch1.2.1.1 ((ST37.un t1).2.1)), .sl ch1.2.2.1.1 ((ST37.un t1).2.2.1).length ch1.2.2.1.2 (RdS (Ty.arr .u8 20) ch1.2.2.1.1 ((ST37.un t1).2.2.1)), .sl ch1.2.2.2.1.1 ((ST37.un t1).2.2.2.1).length ch1.2.2.2.1.2 (RdS Y133 ch1.2.2.2.1.1 ((ST37.un t1).2.2.2.1)), .one (.int .i64 ((ST37.un t1).2.2.2.2.1)), .sl ch1.2.2.2.2.2.1.1 ((ST37.un t1).2.2.2.2.2.1).length ch1.2.2.2.2.2.1.2 (RdS Y100 ch1.2.2.2.2.2.1.1 ((ST37.un t1).2.2.2.2.2.1)), .one (.bool ((ST37.un t1).2.2.2.2.2.2.1)), .sl ch1.2.2.2.2.2.2.2.1 ((ST37.un t1).2.2.2.2.2.2.2).length ch1.2.2.2.2.2.2.2.2 (SR37 ch1.2.2.2.2.2.2.2.1 ((ST37.un t1).2.2.2.2.2.2.2))]) (.there (.there .here)) T37 rfl rfl ?_; clear S w; intro w S
 refine c_end ?_
 refine c_region ?_
 refine s_bldSl S (ty' := Y122) (ds := []) (z := (([0, 0, 0, 0, 0, 0, 0, 0, 0, 0, 0, 0, 0, 0, 0, 0, 0, 0, 0, 0], 0, [0, 0, 0, 0], ([] : List Int), ([] : List ((List Int) × (List Int)))), false, false)) (c0 := (((), (), (), (none, 0), (none, 0)), (), ())) (ys := ([] : List (L71 × Bool × Bool))) (cs := []) rfl Tryz.underlying31 J122 Z122 rfl ⟨rfl, rfl, rfl, ⟨Nat.le_refl _, Nat.zero_le _, RdS.nil _ _ _, RdS.mono _ _ _⟩, ⟨Nat.le_refl _, Nat.zero_le _, RdS.nil _ _ _, RdS.mono _ _ _⟩, rfl, rfl, trivial⟩ rfl rfl rfl rfl rfl rfl ?_; clear S a w; intro g4 a w S
 refine s_assign S rfl rfl ?_; clear S a; intro a S
 refine c_end ?_
 refine wp_seq_k ?_
 intro K1 hK1
 have j1 : ∀ (m : Mem) (A1 : Option Addr) (nn1 : Nat) (cp1 : Nat) (y1 : List (L71 × Bool × Bool)) (g22 : Nat) (g23 : Nat) (g24 : Nat) (A2 : Option Addr) (cp2 : Nat) (A3 : Option Addr) (cp3 : Nat) (A4 : Option Addr) (cp4 : Nat) (A5 : Option Addr) (cp5 : Nat) (A6 : Option Addr) (cp6 : Nat) (A7 : Option Addr) (cp7 : Nat) (a : Act) (w : World), St 43 m b0 [(5, (.v (.slice A1 nn1 cp1))), (4, (.v (.pointer (some ⟨g22, 0, none⟩)))), (3, (.v (.pointer (some ⟨g23, 0, none⟩)))), (2, (.v (.pointer (some ⟨g24, 0, none⟩))))] [Res.row Y122 122 A1 nn1 cp1 y1, Res.cells g22 37 [.one (.slice none 0 0), .one (.slice none 0 0), .one (.slice none 0 0), .one (.slice none 0 0), .one (.int .i64 0), .one (.slice none 0 0), .one (.bool false), .one (.slice none 0 0)], Res.cells g23 122 (Y122.segs x2 (((), (), (), (ch_1_0, ch_1_1), (ch_1_2, ch_1_3)), (), ())), Res.cells g24 37 [.sl A2 ((ST37.un t1).1).length cp2 (RdS Y71 A2 ((ST37.un t1).1)), .sl A3 ((ST37.un t1).2.1).length cp3 (RdS Y122 A3 ((ST37.un t1).2.1)), .sl A4 ((ST37.un t1).2.2.1).length cp4 (RdS (Ty.arr .u8 20) A4 ((ST37.un t1).2.2.1)), .sl A5 ((ST37.un t1).2.2.2.1).length cp5 (RdS Y133 A5 ((ST37.un t1).2.2.2.1)), .one (.int .i64 ((ST37.un t1).2.2.2.2.1)), .sl A6 ((ST37.un t1).2.2.2.2.2.1).length cp6 (RdS Y100 A6 ((ST37.un t1).2.2.2.2.2.1)), .one (.bool ((ST37.un t1).2.2.2.2.2.2.1)), .sl A7 ((ST37.un t1).2.2.2.2.2.2.2).length cp7 (SR37 A7 ((ST37.un t1).2.2.2.2.2.2.2))]] a w → smithyref14_State_With.j1 x2 t1 y1 = some r → K1 a w := by
  intro m A1 nn1 cp1 y1 g22 g23 g24 A2 cp2 A3 cp3 A4 cp4 A5 cp5 A6 cp6 A7 cp7 a w S h0
  delta smithyref14_State_With.j1 at h0
  refine hK1 a w ?_
  refine c_region ?_
  refine s_move S rfl rfl ?_; clear S a; intro a S
  refine s_loada S rfl (.there (.there .here)) T122 (s' := (Y122.segs x2 (((), (), (), (ch_1_0, ch_1_1), (ch_1_2, ch_1_3)), (), ()))) rfl rfl ?_; clear S a; intro a S
  refine s_bldSl S (ty' := Y122) (ds := [(0, (.agg (Y122.segs x2 (((), (), (), (ch_1_0, ch_1_1), (ch_1_2, ch_1_3)), (), ()))))]) (z := (([0, 0, 0, 0, 0, 0, 0, 0, 0, 0, 0, 0, 0, 0, 0, 0, 0, 0, 0, 0], 0, [0, 0, 0, 0], ([] : List Int), ([] : List ((List Int) × (List Int)))), false, false)) (c0 := (((), (), (), (none, 0), (none, 0)), (), ())) (ys := [x2]) (cs := [(((), (), (), (ch_1_0, ch_1_1), (ch_1_2, ch_1_3)), (), ())]) rfl Tryz.underlying31 J122 Z122 rfl ⟨rfl, rfl, rfl, ⟨Nat.le_refl _, Nat.zero_le _, RdS.nil _ _ _, RdS.mono _ _ _⟩, ⟨Nat.le_refl _, Nat.zero_le _, RdS.nil _ _ _, RdS.mono _ _ _⟩, rfl, rfl, trivial⟩ rfl rfl rfl rfl rfl rfl ?_; clear S a w; intro g25 a w S
  obtain ⟨c1, h1⟩ := chk_of h0; clear h0
  refine s_app S (k2 := 1) (ys := [x2]) rfl (fun _ _ => (.there .here)) rfl rfl (S.holds _ (Pull.mem .here).1).1 (Res.row.src (S.holds _ (Pull.mem .here).1)) Tryz.underlying31 J122 c1 rfl ?_; clear S a w; intro A8 cp8 a w S
  refine s_assign S rfl rfl ?_; clear S a; intro a S
  refine c_end ?_
  refine c_region ?_
  refine s_move S rfl rfl ?_; clear S a; intro a S
  refine s_fieldAddr S rfl I37_1 T31 (by decide) rfl rfl ?_; clear S a; intro a S
  refine s_store S rfl rfl rfl (s' := [.sl A2 ((ST37.un t1).1).length cp2 (RdS Y71 A2 ((ST37.un t1).1)), .one (.slice A8 (nn1 + 1) cp8), .sl A4 ((ST37.un t1).2.2.1).length cp4 (RdS (Ty.arr .u8 20) A4 ((ST37.un t1).2.2.1)), .sl A5 ((ST37.un t1).2.2.2.1).length cp5 (RdS Y133 A5 ((ST37.un t1).2.2.2.1)), .one (.int .i64 ((ST37.un t1).2.2.2.2.1)), .sl A6 ((ST37.un t1).2.2.2.2.2.1).length cp6 (RdS Y100 A6 ((ST37.un t1).2.2.2.2.2.1)), .one (.bool ((ST37.un t1).2.2.2.2.2.2.1)), .sl A7 ((ST37.un t1).2.2.2.2.2.2.2).length cp7 (SR37 A7 ((ST37.un t1).2.2.2.2.2.2.2))]) (.there (.there (.there (.there .here)))) T31 rfl rfl ?_; clear S w; intro w S
  refine c_end ?_
  refine c_region ?_
  refine s_loada S rfl (.there (.there (.there (.there .here)))) T37 (s' := [.sl A2 ((ST37.un t1).1).length cp2 (RdS Y71 A2 ((ST37.un t1).1)), .one (.slice A8 (nn1 + 1) cp8), .sl A4 ((ST37.un t1).2.2.1).length cp4 (RdS (Ty.arr .u8 20) A4 ((ST37.un t1).2.2.1)), .sl A5 ((ST37.un t1).2.2.2.1).length cp5 (RdS Y133 A5 ((ST37.un t1).2.2.2.1)), .one (.int .i64 ((ST37.un t1).2.2.2.2.1)), .sl A6 ((ST37.un t1).2.2.2.2.2.1).length cp6 (RdS Y100 A6 ((ST37.un t1).2.2.2.2.2.1)), .one (.bool ((ST37.un t1).2.2.2.2.2.2.1)), .sl A7 ((ST37.un t1).2.2.2.2.2.2.2).length cp7 (SR37 A7 ((ST37.un t1).2.2.2.2.2.2.2))]) rfl rfl ?_; clear S a; intro a S
  refine s_store S rfl rfl rfl (s' := [.sl A2 ((ST37.un t1).1).length cp2 (RdS Y71 A2 ((ST37.un t1).1)), .one (.slice A8 (nn1 + 1) cp8), .sl A4 ((ST37.un t1).2.2.1).length cp4 (RdS (Ty.arr .u8 20) A4 ((ST37.un t1).2.2.1)), .sl A5 ((ST37.un t1).2.2.2.1).length cp5 (RdS Y133 A5 ((ST37.un t1).2.2.2.1)), .one (.int .i64 ((ST37.un t1).2.2.2.2.1)), .sl A6 ((ST37.un t1).2.2.2.2.2.1).length cp6 (RdS Y100 A6 ((ST37.un t1).2.2.2.2.2.1)), .one (.bool ((ST37.un t1).2.2.2.2.2.2.1)), .sl A7 ((ST37.un t1).2.2.2.2.2.2.2).length cp7 (SR37 A7 ((ST37.un t1).2.2.2.2.2.2.2))]) (.there (.there .here)) T37 rfl rfl ?_; clear S w; intro w S
  refine c_end ?_
  refine wp_ret ?_
  replace S := S.rowfro (.there .here)
  obtain ⟨m, le1, S, hro⟩ := S
  replace S := S.slot (u := 42) (d' := (.agg [.sl A2 ((ST37.un t1).1).length cp2 (RdS Y71 A2 ((ST37.un t1).1)), .sl A8 (y1 ++ [x2]).length cp8 (RdS Y122 A8 (y1 ++ [x2])), .sl A4 ((ST37.un t1).2.2.1).length cp4 (RdS (Ty.arr .u8 20) A4 ((ST37.un t1).2.2.1)), .sl A5 ((ST37.un t1).2.2.2.1).length cp5 (RdS Y133 A5 ((ST37.un t1).2.2.2.1)), .one (.int .i64 ((ST37.un t1).2.2.2.2.1)), .sl A6 ((ST37.un t1).2.2.2.2.2.1).length cp6 (RdS Y100 A6 ((ST37.un t1).2.2.2.2.2.1)), .one (.bool ((ST37.un t1).2.2.2.2.2.2.1)), .sl A7 ((ST37.un t1).2.2.2.2.2.2.2).length cp7 (SR37 A7 ((ST37.un t1).2.2.2.2.2.2.2))])) rfl (by simp [D.val, pd, cellsOf, Seg.cells, hro.2.1]) (by have h := (S.get 42 (.agg [.sl A2 ((ST37.un t1).1).length cp2 (RdS Y71 A2 ((ST37.un t1).1)), .one (.slice A8 (nn1 + 1) cp8), .sl A4 ((ST37.un t1).2.2.1).length cp4 (RdS (Ty.arr .u8 20) A4 ((ST37.un t1).2.2.1)), .sl A5 ((ST37.un t1).2.2.2.1).length cp5 (RdS Y133 A5 ((ST37.un t1).2.2.2.1)), .one (.int .i64 ((ST37.un t1).2.2.2.2.1)), .sl A6 ((ST37.un t1).2.2.2.2.2.1).length cp6 (RdS Y100 A6 ((ST37.un t1).2.2.2.2.2.1)), .one (.bool ((ST37.un t1).2.2.2.2.2.2.1)), .sl A7 ((ST37.un t1).2.2.2.2.2.2.2).length cp7 (SR37 A7 ((ST37.un t1).2.2.2.2.2.2.2))]) rfl).2; exact ⟨h.1, ⟨by have := hro.2.2.1; omega, hro.2.2.2, hro.1, RdS.mono _ _ _⟩, h.2.2.1, h.2.2.2.1, h.2.2.2.2.1, h.2.2.2.2.2.1, h.2.2.2.2.2.2.1, h.2.2.2.2.2.2.2.1, trivial⟩)
  replace S := S.slotro (u := 40) rfl hro
  replace S := S.slotro (u := 5) rfl hro
  replace S := S.slotro (u := 39) rfl hro
  replace S := S.cellro (s' := [.sl A2 ((ST37.un t1).1).length cp2 (RdS Y71 A2 ((ST37.un t1).1)), .sl A8 (y1 ++ [x2]).length cp8 (RdS Y122 A8 (y1 ++ [x2])), .sl A4 ((ST37.un t1).2.2.1).length cp4 (RdS (Ty.arr .u8 20) A4 ((ST37.un t1).2.2.1)), .sl A5 ((ST37.un t1).2.2.2.1).length cp5 (RdS Y133 A5 ((ST37.un t1).2.2.2.1)), .one (.int .i64 ((ST37.un t1).2.2.2.2.1)), .sl A6 ((ST37.un t1).2.2.2.2.2.1).length cp6 (RdS Y100 A6 ((ST37.un t1).2.2.2.2.2.1)), .one (.bool ((ST37.un t1).2.2.2.2.2.2.1)), .sl A7 ((ST37.un t1).2.2.2.2.2.2.2).length cp7 (SR37 A7 ((ST37.un t1).2.2.2.2.2.2.2))]) (.there .here) (by simp [cellsOf, Seg.cells, hro.2.1]) (fun h => ⟨h.1, ⟨by have := hro.2.2.1; omega, hro.2.2.2, hro.1, RdS.mono _ _ _⟩, h.2.2.1, h.2.2.2.1, h.2.2.2.2.1, h.2.2.2.2.2.1, h.2.2.2.2.2.2.1, h.2.2.2.2.2.2.2.1, trivial⟩)
  replace S := S.cellro (s' := [.sl A2 ((ST37.un t1).1).length cp2 (RdS Y71 A2 ((ST37.un t1).1)), .sl A8 (y1 ++ [x2]).length cp8 (RdS Y122 A8 (y1 ++ [x2])), .sl A4 ((ST37.un t1).2.2.1).length cp4 (RdS (Ty.arr .u8 20) A4 ((ST37.un t1).2.2.1)), .sl A5 ((ST37.un t1).2.2.2.1).length cp5 (RdS Y133 A5 ((ST37.un t1).2.2.2.1)), .one (.int .i64 ((ST37.un t1).2.2.2.2.1)), .sl A6 ((ST37.un t1).2.2.2.2.2.1).length cp6 (RdS Y100 A6 ((ST37.un t1).2.2.2.2.2.1)), .one (.bool ((ST37.un t1).2.2.2.2.2.2.1)), .sl A7 ((ST37.un t1).2.2.2.2.2.2.2).length cp7 (SR37 A7 ((ST37.un t1).2.2.2.2.2.2.2))]) (.there (.there (.there .here))) (by simp [cellsOf, Seg.cells, hro.2.1]) (fun h => ⟨h.1, ⟨by have := hro.2.2.1; omega, hro.2.2.2, hro.1, RdS.mono _ _ _⟩, h.2.2.1, h.2.2.2.1, h.2.2.2.2.1, h.2.2.2.2.2.1, h.2.2.2.2.2.2.1, h.2.2.2.2.2.2.2.1, trivial⟩)
  obtain rfl := Option.some.inj h1
  exact b_ret1 (d := (.agg [.sl A2 ((ST37.un t1).1).length cp2 (RdS Y71 A2 ((ST37.un t1).1)), .sl A8 (y1 ++ [x2]).length cp8 (RdS Y122 A8 (y1 ++ [x2])), .sl A4 ((ST37.un t1).2.2.1).length cp4 (RdS (Ty.arr .u8 20) A4 ((ST37.un t1).2.2.1)), .sl A5 ((ST37.un t1).2.2.2.1).length cp5 (RdS Y133 A5 ((ST37.un t1).2.2.2.1)), .one (.int .i64 ((ST37.un t1).2.2.2.2.1)), .sl A6 ((ST37.un t1).2.2.2.2.2.1).length cp6 (RdS Y100 A6 ((ST37.un t1).2.2.2.2.2.1)), .one (.bool ((ST37.un t1).2.2.2.2.2.2.1)), .sl A7 ((ST37.un t1).2.2.2.2.2.2.2).length cp7 (SR37 A7 ((ST37.un t1).2.2.2.2.2.2.2))])) S rfl (resD_cell rfl (.there .here) T37 rfl rfl) fun ok => S.retX (Hx := []) hb _ _ (((A2, cp2), (A8, cp8), (A4, cp4), (A5, cp5), (), (A6, cp6), (), (A7, cp7)) : W21) .nil ok
 refine c_region ?_
 refine s_fieldAddr S rfl I37_1 T31 (by decide) rfl rfl ?_; clear S a; intro a S
 refine s_loadSl S rfl (.there (.there (.there .here))) T31 (A := ch1.2.1.1) (len := ((ST37.un t1).2.1).length) (cap := ch1.2.1.2) rfl rfl ?_; clear S a; intro a S
 refine s_lenS S rfl Tryz.underlying31 rfl ?_; clear S a; intro a S
 refine s_move S rfl rfl ?_; clear S a; intro a S
 refine c_end ?_
 refine wp_block ?_
 refine c_loop (fun q1 a w => ∃ (m : Mem) (y6 : Int) (A9 : Option Addr) (nn5 : Nat) (cp26 : Nat) (y7 : List (L71 × Bool × Bool)) (g40 : Nat) (g41 : Nat) (g42 : Nat) (A10 : Option Addr) (cp27 : Nat) (A11 : Option Addr) (cp28 : Nat) (A12 : Option Addr) (cp29 : Nat) (A13 : Option Addr) (cp30 : Nat) (A14 : Option Addr) (cp31 : Nat) (A15 : Option Addr) (cp32 : Nat), St 43 m b0 [(13, (.v (.int .i64 y6))), (12, (.v (.int .i64 (((ST37.un t1).2.1).length : Int)))), (5, (.v (.slice A9 nn5 cp26))), (4, (.v (.pointer (some ⟨g40, 0, none⟩)))), (3, (.v (.pointer (some ⟨g41, 0, none⟩)))), (2, (.v (.pointer (some ⟨g42, 0, none⟩))))] [Res.row Y122 122 A9 nn5 cp26 y7, Res.cells g40 37 [.one (.slice none 0 0), .one (.slice none 0 0), .one (.slice none 0 0), .one (.slice none 0 0), .one (.int .i64 0), .one (.slice none 0 0), .one (.bool false), .one (.slice none 0 0)], Res.cells g41 122 (Y122.segs x2 (((), (), (), (ch_1_0, ch_1_1), (ch_1_2, ch_1_3)), (), ())), Res.cells g42 37 [.sl A10 ((ST37.un t1).1).length cp27 (RdS Y71 A10 ((ST37.un t1).1)), .sl A11 ((ST37.un t1).2.1).length cp28 (RdS Y122 A11 ((ST37.un t1).2.1)), .sl A12 ((ST37.un t1).2.2.1).length cp29 (RdS (Ty.arr .u8 20) A12 ((ST37.un t1).2.2.1)), .sl A13 ((ST37.un t1).2.2.2.1).length cp30 (RdS Y133 A13 ((ST37.un t1).2.2.2.1)), .one (.int .i64 ((ST37.un t1).2.2.2.2.1)), .sl A14 ((ST37.un t1).2.2.2.2.2.1).length cp31 (RdS Y100 A14 ((ST37.un t1).2.2.2.2.2.1)), .one (.bool ((ST37.un t1).2.2.2.2.2.2.1)), .sl A15 ((ST37.un t1).2.2.2.2.2.2.2).length cp32 (SR37 A15 ((ST37.un t1).2.2.2.2.2.2.2))]] a w ∧ smithyref14_State_With.l1 x2 t1 q1 y6 y7 = some r) ?_ ?_ (k := k) ⟨_, 0, (some ⟨g4, 0, none⟩), 0, 0, ([] : List (L71 × Bool × Bool)), g3, g2, g1, ch1.1.1, ch1.1.2, ch1.2.1.1, ch1.2.1.2, ch1.2.2.1.1, ch1.2.2.1.2, ch1.2.2.2.1.1, ch1.2.2.2.1.2, ch1.2.2.2.2.2.1.1, ch1.2.2.2.2.2.1.2, ch1.2.2.2.2.2.2.2.1, ch1.2.2.2.2.2.2.2.2, (S.sub (subR rfl) (.cons .here (.cons .here (.cons .here (.cons .here .nil))))), h1⟩
 ·rintro a w ⟨m, y6, A9, nn5, cp26, y7, g40, g41, g42, A10, cp27, A11, cp28, A12, cp29, A13, cp30, A14, cp31, A15, cp32, S, h0⟩
  exact (nomatch (show (none : Option ST37) = some r from h0))
 ·clear S h1
  rintro q1 a w ⟨m, y6, A9, nn5, cp26, y7, g40, g41, g42, A10, cp27, A11, cp28, A12, cp29, A13, cp30, A14, cp31, A15, cp32, S, h0⟩
  replace h0 : smithyref14_State_With.b1 x2 t1 (smithyref14_State_With.l1 x2 t1 q1) y6 y7 = some r := h0
  delta smithyref14_State_With.b1 at h0
  refine c_region ?_
  refine s_bin S rfl rfl rfl rfl ?_; clear S a; intro a S
  refine c_end ?_
  refine wp_seq ?_
  rcases ite_of h0 with ⟨c2, h1⟩ | ⟨c2, h1⟩ <;> clear h0
  ·refine c_condT S rfl c2 ?_
   refine wp_skip ?_
   refine x_thenN ?_
   refine wp_seq_k ?_
   intro K2 hK2
   have j2 : ∀ (m : Mem) (A16 : Option Addr) (nn6 : Nat) (cp34 : Nat) (y8 : List (L71 × Bool × Bool)) (g44 : Nat) (g45 : Nat) (g46 : Nat) (a : Act) (w : World), St 43 m b0 [(5, (.v (.slice A16 nn6 cp34))), (13, (.v (.int .i64 y6))), (12, (.v (.int .i64 (((ST37.un t1).2.1).length : Int)))), (4, (.v (.pointer (some ⟨g44, 0, none⟩)))), (3, (.v (.pointer (some ⟨g45, 0, none⟩)))), (2, (.v (.pointer (some ⟨g46, 0, none⟩))))] [Res.row Y122 122 A16 nn6 cp34 y8, Res.cells g44 37 [.one (.slice none 0 0), .one (.slice none 0 0), .one (.slice none 0 0), .one (.slice none 0 0), .one (.int .i64 0), .one (.slice none 0 0), .one (.bool false), .one (.slice none 0 0)], Res.cells g45 122 (Y122.segs x2 (((), (), (), (ch_1_0, ch_1_1), (ch_1_2, ch_1_3)), (), ())), Res.cells g46 37 [.sl A10 ((ST37.un t1).1).length cp27 (RdS Y71 A10 ((ST37.un t1).1)), .sl A11 ((ST37.un t1).2.1).length cp28 (RdS Y122 A11 ((ST37.un t1).2.1)), .sl A12 ((ST37.un t1).2.2.1).length cp29 (RdS (Ty.arr .u8 20) A12 ((ST37.un t1).2.2.1)), .sl A13 ((ST37.un t1).2.2.2.1).length cp30 (RdS Y133 A13 ((ST37.un t1).2.2.2.1)), .one (.int .i64 ((ST37.un t1).2.2.2.2.1)), .sl A14 ((ST37.un t1).2.2.2.2.2.1).length cp31 (RdS Y100 A14 ((ST37.un t1).2.2.2.2.2.1)), .one (.bool ((ST37.un t1).2.2.2.2.2.2.1)), .sl A15 ((ST37.un t1).2.2.2.2.2.2.2).length cp32 (SR37 A15 ((ST37.un t1).2.2.2.2.2.2.2))]] a w → smithyref14_State_With.j2 y6 (smithyref14_State_With.l1 x2 t1 q1) y8 = some r → K2 a w := by
    intro m A16 nn6 cp34 y8 g44 g45 g46 a w S h0
    delta smithyref14_State_With.j2 at h0
    refine hK2 a w ?_
    refine c_region' ?_
    refine s_bin S rfl rfl rfl rfl ?_; clear S a; intro a S
    refine s_move S rfl rfl ?_; clear S a; intro a S
    refine c_end' ?_
    refine x_thenN ?_
    exact ⟨_, (wr .i64 (y6 + 1)), A16, nn6, cp34, y8, g44, g45, g46, A10, cp27, A11, cp28, A12, cp29, A13, cp30, A14, cp31, A15, cp32, (S.sub (subR rfl) (.cons .here (.cons .here (.cons .here (.cons .here .nil))))), h0⟩
   refine wp_block ?_
   refine c_region ?_
   refine s_move S rfl rfl ?_; clear S a; intro a S
   refine s_assign S rfl rfl ?_; clear S a; intro a S
   refine c_end ?_
   have hS := S.rowx (fun _ => .here)
   clear S; obtain ⟨cs1, S⟩ := hS
   refine wp_seq (c_heldS S (.take 0 (.take 1 (.take 2 (.take 3 (.take 4 (.take 5 (.take 6 (.take 7 (.take 8 (.take 9 (.take 10 .done))))))))))) 11 [Res.rowx Y122 122 A9 nn5 cp26 y7 cs1, Res.cells g40 37 [.one (.slice none 0 0), .one (.slice none 0 0), .one (.slice none 0 0), .one (.slice none 0 0), .one (.int .i64 0), .one (.slice none 0 0), .one (.bool false), .one (.slice none 0 0)], Res.cells g41 122 (Y122.segs x2 (((), (), (), (ch_1_0, ch_1_1), (ch_1_2, ch_1_3)), (), ())), Res.cells g42 37 [.sl A10 ((ST37.un t1).1).length cp27 (RdS Y71 A10 ((ST37.un t1).1)), .sl A11 ((ST37.un t1).2.1).length cp28 (RdS Y122 A11 ((ST37.un t1).2.1)), .sl A12 ((ST37.un t1).2.2.1).length cp29 (RdS (Ty.arr .u8 20) A12 ((ST37.un t1).2.2.1)), .sl A13 ((ST37.un t1).2.2.2.1).length cp30 (RdS Y133 A13 ((ST37.un t1).2.2.2.1)), .one (.int .i64 ((ST37.un t1).2.2.2.2.1)), .sl A14 ((ST37.un t1).2.2.2.2.2.1).length cp31 (RdS Y100 A14 ((ST37.un t1).2.2.2.2.2.1)), .one (.bool ((ST37.un t1).2.2.2.2.2.2.1)), .sl A15 ((ST37.un t1).2.2.2.2.2.2.2).length cp32 (SR37 A15 ((ST37.un t1).2.2.2.2.2.2.2))]] (.cons .here (.cons .here (.cons .here (.cons .here .nil)))) ⟨Res.stay_rowx, Res.stay_cells, Res.stay_cells, Res.stay_cells, trivial⟩ [(6, (.v (.int .i64 y6))), (3, (.v (.pointer (some ⟨g41, 0, none⟩)))), (2, (.v (.pointer (some ⟨g42, 0, none⟩))))] (subR rfl) (by kernel_rfl) (by kernel_rfl) ?_); clear S; intro w S CL hw le
   refine h_fieldAddr S CL hw le (subR rfl) rfl I37_1 T31 (by decide) rfl rfl rfl trivial ?_; clear S CL a; intro a S CL
   refine h_loadSl S CL hw le (subR rfl) rfl (.there (.there (.there .here))) T31 (A := A11) (len := ((ST37.un t1).2.1).length) (cap := cp28) rfl rfl rfl trivial ?_; clear S CL a; intro a S CL
   refine h_move S CL hw le (subR rfl) rfl rfl rfl trivial ?_; clear S CL a; intro a S CL
   obtain ⟨c3, h2⟩ := chk_of h1; clear h1
   refine h_iaddrS S CL hw le (subR rfl) rfl rfl rfl Tryz.underlying31 T122 c3.1 c3.2 rfl rfl trivial ?_; clear S CL a; intro p1 a S CL
   refine h_faddrP S CL hw le (subR rfl) (tF := Y71) (y := (gt ((ST37.un t1).2.1) y6).1) rfl I122_0 T71 (by decide) (fun m h => (at_fst (at_0 h))) rfl rfl trivial ?_; clear S CL a; intro a S CL
   refine h_faddrP S CL hw le (subR rfl) (tF := (Ty.arr .u8 20)) (y := ((gt ((ST37.un t1).2.1) y6).1).1) rfl I71_0 T40 (by decide) (fun m h => (at_fst (at_0 h))) rfl rfl trivial ?_; clear S CL a; intro a S CL
   refine h_ldA S CL hw le (subR rfl) (fun (c : Unit) => [.ints .u8 (((gt ((ST37.un t1).2.1) y6).1).1) 20]) rfl T40 (fun _ => rfl) rfl rfl trivial ?_; clear S CL a; intro ch4 a S CL
   refine h_fieldAddr S CL hw le (subR rfl) rfl I122_0 T71 (by decide) rfl rfl rfl trivial ?_; clear S CL a; intro a S CL
   refine h_fieldAddr S CL hw le (subR rfl) rfl I71_0 T40 (by decide) rfl rfl rfl trivial ?_; clear S CL a; intro a S CL
   refine h_loada S CL hw le (subR rfl) rfl (.there (.there .here)) T40 (s' := [.ints .u8 x2.1.1 20]) rfl rfl rfl trivial ?_; clear S CL a; intro a S CL
   refine h_nea S CL hw le (subR rfl) rfl rfl Tryz.underlying40 Tryz.underlying5 T5 Q40 rfl rfl trivial ?_; clear S CL a; intro a S CL
   refine h_done ?_; clear CL hw le
   replace S := S.rowu .here
   refine x_thenN ?_
   rcases ite_of h2 with ⟨c4, h3⟩ | ⟨c4, h3⟩ <;> clear h2
   ·refine c_condT S rfl c4 ?_
    refine c_region' ?_
    refine s_move S rfl rfl ?_; clear S a; intro a S
    refine s_fieldAddr S rfl I37_1 T31 (by decide) rfl rfl ?_; clear S a; intro a S
    refine s_loadSl S rfl (.there (.there (.there .here))) T31 (A := A11) (len := ((ST37.un t1).2.1).length) (cap := cp28) rfl rfl ?_; clear S a; intro a S
    refine s_move S rfl rfl ?_; clear S a; intro a S
    refine s_iaddrS S rfl rfl rfl Tryz.underlying31 T122 c3.1 c3.2 rfl ?_; clear S a; intro p2 a S
    refine s_ldA S (fun (c : (Unit × Unit × Unit × (Option Addr × Nat) × (Option Addr × Nat)) × Unit × Unit) => [.ints .u8 (((gt ((ST37.un t1).2.1) y6).1).1) 20, .one (.int .u64 (((gt ((ST37.un t1).2.1) y6).1).2.1)), .ints .u64 (((gt ((ST37.un t1).2.1) y6).1).2.2.1) 4, .sl c.1.2.2.2.1.1 (((gt ((ST37.un t1).2.1) y6).1).2.2.2.1).length c.1.2.2.2.1.2 (RdS (Ty.int .u8) c.1.2.2.2.1.1 (((gt ((ST37.un t1).2.1) y6).1).2.2.2.1)), .sl c.1.2.2.2.2.1 (((gt ((ST37.un t1).2.1) y6).1).2.2.2.2).length c.1.2.2.2.2.2 (RdS Y83 c.1.2.2.2.2.1 (((gt ((ST37.un t1).2.1) y6).1).2.2.2.2)), .one (.bool ((gt ((ST37.un t1).2.1) y6).2.1)), .one (.bool ((gt ((ST37.un t1).2.1) y6).2.2))]) rfl T122 (fun _ => rfl) rfl ?_; clear S a; intro ch5 a S
    refine s_bldSl S (ty' := Y122) (ds := [(0, (.agg [.ints .u8 (((gt ((ST37.un t1).2.1) y6).1).1) 20, .one (.int .u64 (((gt ((ST37.un t1).2.1) y6).1).2.1)), .ints .u64 (((gt ((ST37.un t1).2.1) y6).1).2.2.1) 4, .sl ch5.1.2.2.2.1.1 (((gt ((ST37.un t1).2.1) y6).1).2.2.2.1).length ch5.1.2.2.2.1.2 (RdS (Ty.int .u8) ch5.1.2.2.2.1.1 (((gt ((ST37.un t1).2.1) y6).1).2.2.2.1)), .sl ch5.1.2.2.2.2.1 (((gt ((ST37.un t1).2.1) y6).1).2.2.2.2).length ch5.1.2.2.2.2.2 (RdS Y83 ch5.1.2.2.2.2.1 (((gt ((ST37.un t1).2.1) y6).1).2.2.2.2)), .one (.bool ((gt ((ST37.un t1).2.1) y6).2.1)), .one (.bool ((gt ((ST37.un t1).2.1) y6).2.2))]))]) (z := (([0, 0, 0, 0, 0, 0, 0, 0, 0, 0, 0, 0, 0, 0, 0, 0, 0, 0, 0, 0], 0, [0, 0, 0, 0], ([] : List Int), ([] : List ((List Int) × (List Int)))), false, false)) (c0 := (((), (), (), (none, 0), (none, 0)), (), ())) (ys := [gt ((ST37.un t1).2.1) y6]) (cs := [(((), (), (), (ch5.1.2.2.2.1.1, ch5.1.2.2.2.1.2), (ch5.1.2.2.2.2.1, ch5.1.2.2.2.2.2)), (), ())]) rfl Tryz.underlying31 J122 Z122 rfl ⟨rfl, rfl, rfl, ⟨Nat.le_refl _, Nat.zero_le _, RdS.nil _ _ _, RdS.mono _ _ _⟩, ⟨Nat.le_refl _, Nat.zero_le _, RdS.nil _ _ _, RdS.mono _ _ _⟩, rfl, rfl, trivial⟩ rfl rfl rfl rfl rfl rfl ?_; clear S a w; intro g47 a w S
    obtain ⟨c5, h4⟩ := chk_of h3; clear h3
    refine s_app S (k2 := 1) (ys := [gt ((ST37.un t1).2.1) y6]) rfl (fun _ _ => (.there .here)) rfl rfl (S.holds _ (Pull.mem .here).1).1 (Res.row.src (S.holds _ (Pull.mem .here).1)) Tryz.underlying31 J122 c5 rfl ?_; clear S a w; intro A17 cp35 a w S
    refine s_assign S rfl rfl ?_; clear S a; intro a S
    refine c_end' ?_
    refine x_blockN ?_
    refine x_thenN ?_
    exact j2 _ A17 (nn5 + 1) cp35 (y7 ++ [gt ((ST37.un t1).2.1) y6]) g40 g41 g42 a w (S.sub (subR rfl) (.cons (.there .here) (.cons (.there .here) (.cons (.there .here) (.cons (.there .here) .nil))))) h4
   ·refine c_condF S rfl c4 ?_
    refine wp_skip ?_
    refine x_blockN ?_
    refine x_thenN ?_
    exact j2 _ A9 nn5 cp26 y7 g40 g41 g42 a w (S.sub (subR rfl) (.cons .here (.cons .here (.cons .here (.cons .here .nil))))) h3
  ·refine c_condF S rfl c2 ?_
   refine wp_exit ?_
   refine x_thenX ?_
   refine x_thenX ?_
   refine x_blockX ?_
   refine x_thenN ?_
   exact j1 _ A9 nn5 cp26 y7 g40 g41 g42 A10 cp27 A11 cp28 A12 cp29 A13 cp30 A14 cp31 A15 cp32 a w (S.sub (subR rfl) (.cons .here (.cons .here (.cons .here (.cons .here .nil))))) h1
abbrev smithyref14_State_SetNonce.Ty : Type := ST37 → (List Int) → Int → Option ST37
def smithyref14_State_SetNonce.Ctr (s : smithyref14_State_SetNonce.Ty) : Prop := ∀ (x1 : ST37) (x2 : List Int) (x3 : Int) (ch_0_0 : (Option Addr × Nat) × (Option Addr × Nat) × (Option Addr × Nat) × (Option Addr × Nat) × Unit × (Option Addr × Nat) × Unit × (Option Addr × Nat)) (r : ST37) (h0 : s x1 x2 x3 = some r) (mi : Mem) (w0 : World), okL mi [(.agg [.sl ch_0_0.1.1 ((ST37.un x1).1).length ch_0_0.1.2 (RdS Y71 ch_0_0.1.1 ((ST37.un x1).1)), .sl ch_0_0.2.1.1 ((ST37.un x1).2.1).length ch_0_0.2.1.2 (RdS Y122 ch_0_0.2.1.1 ((ST37.un x1).2.1)), .sl ch_0_0.2.2.1.1 ((ST37.un x1).2.2.1).length ch_0_0.2.2.1.2 (RdS (Ty.arr .u8 20) ch_0_0.2.2.1.1 ((ST37.un x1).2.2.1)), .sl ch_0_0.2.2.2.1.1 ((ST37.un x1).2.2.2.1).length ch_0_0.2.2.2.1.2 (RdS Y133 ch_0_0.2.2.2.1.1 ((ST37.un x1).2.2.2.1)), .one (.int .i64 ((ST37.un x1).2.2.2.2.1)), .sl ch_0_0.2.2.2.2.2.1.1 ((ST37.un x1).2.2.2.2.2.1).length ch_0_0.2.2.2.2.2.1.2 (RdS Y100 ch_0_0.2.2.2.2.2.1.1 ((ST37.un x1).2.2.2.2.2.1)), .one (.bool ((ST37.un x1).2.2.2.2.2.2.1)), .sl ch_0_0.2.2.2.2.2.2.2.1 ((ST37.un x1).2.2.2.2.2.2.2).length ch_0_0.2.2.2.2.2.2.2.2 (SR37 ch_0_0.2.2.2.2.2.2.2.1 ((ST37.un x1).2.2.2.2.2.2.2))]), (.agg [.ints .u8 x2 20]), (.v (.int .u64 x3))] → Pre mi [] w0 → Calls Tryz.prog 36 (([(.agg [.sl ch_0_0.1.1 ((ST37.un x1).1).length ch_0_0.1.2 (RdS Y71 ch_0_0.1.1 ((ST37.un x1).1)), .sl ch_0_0.2.1.1 ((ST37.un x1).2.1).length ch_0_0.2.1.2 (RdS Y122 ch_0_0.2.1.1 ((ST37.un x1).2.1)), .sl ch_0_0.2.2.1.1 ((ST37.un x1).2.2.1).length ch_0_0.2.2.1.2 (RdS (Ty.arr .u8 20) ch_0_0.2.2.1.1 ((ST37.un x1).2.2.1)), .sl ch_0_0.2.2.2.1.1 ((ST37.un x1).2.2.2.1).length ch_0_0.2.2.2.1.2 (RdS Y133 ch_0_0.2.2.2.1.1 ((ST37.un x1).2.2.2.1)), .one (.int .i64 ((ST37.un x1).2.2.2.2.1)), .sl ch_0_0.2.2.2.2.2.1.1 ((ST37.un x1).2.2.2.2.2.1).length ch_0_0.2.2.2.2.2.1.2 (RdS Y100 ch_0_0.2.2.2.2.2.1.1 ((ST37.un x1).2.2.2.2.2.1)), .one (.bool ((ST37.un x1).2.2.2.2.2.2.1)), .sl ch_0_0.2.2.2.2.2.2.2.1 ((ST37.un x1).2.2.2.2.2.2.2).length ch_0_0.2.2.2.2.2.2.2.2 (SR37 ch_0_0.2.2.2.2.2.2.2.1 ((ST37.un x1).2.2.2.2.2.2.2))]), (.agg [.ints .u8 x2 20]), (.v (.int .u64 x3))] : List D).map D.val).toArray w0 (RetX mi [] (fun (ch : W21) => ((.agg [.sl ch.1.1 ((ST37.un r).1).length ch.1.2 (RdS Y71 ch.1.1 ((ST37.un r).1)), .sl ch.2.1.1 ((ST37.un r).2.1).length ch.2.1.2 (RdS Y122 ch.2.1.1 ((ST37.un r).2.1)), .sl ch.2.2.1.1 ((ST37.un r).2.2.1).length ch.2.2.1.2 (RdS (Ty.arr .u8 20) ch.2.2.1.1 ((ST37.un r).2.2.1)), .sl ch.2.2.2.1.1 ((ST37.un r).2.2.2.1).length ch.2.2.2.1.2 (RdS Y133 ch.2.2.2.1.1 ((ST37.un r).2.2.2.1)), .one (.int .i64 ((ST37.un r).2.2.2.2.1)), .sl ch.2.2.2.2.2.1.1 ((ST37.un r).2.2.2.2.2.1).length ch.2.2.2.2.2.1.2 (RdS Y100 ch.2.2.2.2.2.1.1 ((ST37.un r).2.2.2.2.2.1)), .one (.bool ((ST37.un r).2.2.2.2.2.2.1)), .sl ch.2.2.2.2.2.2.2.1 ((ST37.un r).2.2.2.2.2.2.2).length ch.2.2.2.2.2.2.2.2 (SR37 ch.2.2.2.2.2.2.2.1 ((ST37.un r).2.2.2.2.2.2.2))]) : D)) (fun (ch : W21) => []) w0)
def smithyref14_State_SetNonce.f (k : Nat) (x1 : ST37) (x2 : List Int) (x3 : Int) : Option ST37 := (smithyref14_State_At.f k x1 x2).bind fun t1 => ((smithyref14_State_With.f k x1 ((t1.1.1, x3, t1.1.2.2.1, t1.1.2.2.2.1, t1.1.2.2.2.2), t1.2.1, t1.2.2)).bind fun t2 => (some t2))
theorem smithyref14_State_SetNonce.ok (k : Nat) : smithyref14_State_SetNonce.Ctr (smithyref14_State_SetNonce.f k) := by
 intro x1 x2 x3 ch_0_0 r h0 mi w0 ok hm
 delta smithyref14_State_SetNonce.f at h0
 refine c_enterX (n := 17) [(.agg [.sl ch_0_0.1.1 ((ST37.un x1).1).length ch_0_0.1.2 (RdS Y71 ch_0_0.1.1 ((ST37.un x1).1)), .sl ch_0_0.2.1.1 ((ST37.un x1).2.1).length ch_0_0.2.1.2 (RdS Y122 ch_0_0.2.1.1 ((ST37.un x1).2.1)), .sl ch_0_0.2.2.1.1 ((ST37.un x1).2.2.1).length ch_0_0.2.2.1.2 (RdS (Ty.arr .u8 20) ch_0_0.2.2.1.1 ((ST37.un x1).2.2.1)), .sl ch_0_0.2.2.2.1.1 ((ST37.un x1).2.2.2.1).length ch_0_0.2.2.2.1.2 (RdS Y133 ch_0_0.2.2.2.1.1 ((ST37.un x1).2.2.2.1)), .one (.int .i64 ((ST37.un x1).2.2.2.2.1)), .sl ch_0_0.2.2.2.2.2.1.1 ((ST37.un x1).2.2.2.2.2.1).length ch_0_0.2.2.2.2.2.1.2 (RdS Y100 ch_0_0.2.2.2.2.2.1.1 ((ST37.un x1).2.2.2.2.2.1)), .one (.bool ((ST37.un x1).2.2.2.2.2.2.1)), .sl ch_0_0.2.2.2.2.2.2.2.1 ((ST37.un x1).2.2.2.2.2.2.2).length ch_0_0.2.2.2.2.2.2.2.2 (SR37 ch_0_0.2.2.2.2.2.2.2.1 ((ST37.un x1).2.2.2.2.2.2.2))]), (.agg [.ints .u8 x2 20]), (.v (.int .u64 x3))] (l := [(0, (.agg [.sl ch_0_0.1.1 ((ST37.un x1).1).length ch_0_0.1.2 (RdS Y71 ch_0_0.1.1 ((ST37.un x1).1)), .sl ch_0_0.2.1.1 ((ST37.un x1).2.1).length ch_0_0.2.1.2 (RdS Y122 ch_0_0.2.1.1 ((ST37.un x1).2.1)), .sl ch_0_0.2.2.1.1 ((ST37.un x1).2.2.1).length ch_0_0.2.2.1.2 (RdS (Ty.arr .u8 20) ch_0_0.2.2.1.1 ((ST37.un x1).2.2.1)), .sl ch_0_0.2.2.2.1.1 ((ST37.un x1).2.2.2.1).length ch_0_0.2.2.2.1.2 (RdS Y133 ch_0_0.2.2.2.1.1 ((ST37.un x1).2.2.2.1)), .one (.int .i64 ((ST37.un x1).2.2.2.2.1)), .sl ch_0_0.2.2.2.2.2.1.1 ((ST37.un x1).2.2.2.2.2.1).length ch_0_0.2.2.2.2.2.1.2 (RdS Y100 ch_0_0.2.2.2.2.2.1.1 ((ST37.un x1).2.2.2.2.2.1)), .one (.bool ((ST37.un x1).2.2.2.2.2.2.1)), .sl ch_0_0.2.2.2.2.2.2.2.1 ((ST37.un x1).2.2.2.2.2.2.2).length ch_0_0.2.2.2.2.2.2.2.2 (SR37 ch_0_0.2.2.2.2.2.2.2.1 ((ST37.un x1).2.2.2.2.2.2.2))])), (1, (.agg [.ints .u8 x2 20])), (2, (.v (.int .u64 x3)))]) Tryz.func36 rfl rfl rfl rfl ok hm ?_
 clear ok hm
 intro b0 hb a S
 refine c_region ?_
 refine s_box S rfl rfl rfl ?_; clear S a; intro g1 a w S
 refine s_box S rfl rfl rfl ?_; clear S a w; intro g2 a w S
 refine s_alloc S Z37 rfl ⟨rfl, rfl, rfl, rfl, rfl, rfl, rfl, rfl, trivial⟩ rfl ?_; clear S a w; intro g3 a w S
 refine c_end ?_
 refine c_region ?_
 refine s_loada S rfl (.there (.there .here)) T37 (s' := [.sl ch_0_0.1.1 ((ST37.un x1).1).length ch_0_0.1.2 (RdS Y71 ch_0_0.1.1 ((ST37.un x1).1)), .sl ch_0_0.2.1.1 ((ST37.un x1).2.1).length ch_0_0.2.1.2 (RdS Y122 ch_0_0.2.1.1 ((ST37.un x1).2.1)), .sl ch_0_0.2.2.1.1 ((ST37.un x1).2.2.1).length ch_0_0.2.2.1.2 (RdS (Ty.arr .u8 20) ch_0_0.2.2.1.1 ((ST37.un x1).2.2.1)), .sl ch_0_0.2.2.2.1.1 ((ST37.un x1).2.2.2.1).length ch_0_0.2.2.2.1.2 (RdS Y133 ch_0_0.2.2.2.1.1 ((ST37.un x1).2.2.2.1)), .one (.int .i64 ((ST37.un x1).2.2.2.2.1)), .sl ch_0_0.2.2.2.2.2.1.1 ((ST37.un x1).2.2.2.2.2.1).length ch_0_0.2.2.2.2.2.1.2 (RdS Y100 ch_0_0.2.2.2.2.2.1.1 ((ST37.un x1).2.2.2.2.2.1)), .one (.bool ((ST37.un x1).2.2.2.2.2.2.1)), .sl ch_0_0.2.2.2.2.2.2.2.1 ((ST37.un x1).2.2.2.2.2.2.2).length ch_0_0.2.2.2.2.2.2.2.2 (SR37 ch_0_0.2.2.2.2.2.2.2.1 ((ST37.un x1).2.2.2.2.2.2.2))]) rfl rfl ?_; clear S a; intro a S
 refine s_loada S rfl (.there .here) T40 (s' := [.ints .u8 x2 20]) rfl rfl ?_; clear S a; intro a S
 obtain ⟨t1, et1, h1⟩ := bind_of h0; clear h0
 refine s_callP S (fun (ch : W4) => ((.agg (Y122.segs t1 (((), (), (), (ch.1, ch.2.1), (ch.2.2.1, ch.2.2.2)), (), ()))) : D)) N64 rfl rfl (smithyref14_State_At.ok k x1 x2 ((ch_0_0.1.1, ch_0_0.1.2), (ch_0_0.2.1.1, ch_0_0.2.1.2), (ch_0_0.2.2.1.1, ch_0_0.2.2.1.2), (ch_0_0.2.2.2.1.1, ch_0_0.2.2.2.1.2), (), (ch_0_0.2.2.2.2.2.1.1, ch_0_0.2.2.2.2.2.1.2), (), (ch_0_0.2.2.2.2.2.2.2.1, ch_0_0.2.2.2.2.2.2.2.2)) t1 et1 _ _) ?_; clear S a w; intro ch1 m le1 a w S
 refine s_alloc S Z122 rfl ⟨rfl, rfl, rfl, rfl, rfl, rfl, rfl, trivial⟩ rfl ?_; clear S a w; intro g4 a w S
 refine s_store S rfl rfl rfl (s' := [.ints .u8 t1.1.1 20, .one (.int .u64 t1.1.2.1), .ints .u64 t1.1.2.2.1 4, .sl ch1.1 (t1.1.2.2.2.1).length ch1.2.1 (RdS (Ty.int .u8) ch1.1 t1.1.2.2.2.1), .sl ch1.2.2.1 (t1.1.2.2.2.2).length ch1.2.2.2 (RdS Y83 ch1.2.2.1 t1.1.2.2.2.2), .one (.bool t1.2.1), .one (.bool t1.2.2)]) .here T122 rfl rfl ?_; clear S w; intro w S
 refine c_end ?_
 refine c_region ?_
 refine s_move S rfl rfl ?_; clear S a; intro a S
 refine s_fieldAddr S rfl I122_0 T71 (by decide) rfl rfl ?_; clear S a; intro a S
 refine s_fieldAddr S rfl I71_1 T41 (by decide) rfl rfl ?_; clear S a; intro a S
 refine s_store S rfl rfl rfl (s' := [.ints .u8 t1.1.1 20, .one (.int .u64 x3), .ints .u64 t1.1.2.2.1 4, .sl ch1.1 (t1.1.2.2.2.1).length ch1.2.1 (RdS (Ty.int .u8) ch1.1 t1.1.2.2.2.1), .sl ch1.2.2.1 (t1.1.2.2.2.2).length ch1.2.2.2 (RdS Y83 ch1.2.2.1 t1.1.2.2.2.2), .one (.bool t1.2.1), .one (.bool t1.2.2)]) .here T41 rfl rfl ?_; clear S w; intro w S
 refine c_end ?_
 refine c_region ?_
 refine s_loada S rfl (.there (.there (.there .here))) T37 (s' := [.sl ch_0_0.1.1 ((ST37.un x1).1).length ch_0_0.1.2 (RdS Y71 ch_0_0.1.1 ((ST37.un x1).1)), .sl ch_0_0.2.1.1 ((ST37.un x1).2.1).length ch_0_0.2.1.2 (RdS Y122 ch_0_0.2.1.1 ((ST37.un x1).2.1)), .sl ch_0_0.2.2.1.1 ((ST37.un x1).2.2.1).length ch_0_0.2.2.1.2 (RdS (Ty.arr .u8 20) ch_0_0.2.2.1.1 ((ST37.un x1).2.2.1)), .sl ch_0_0.2.2.2.1.1 ((ST37.un x1).2.2.2.1).length ch_0_0.2.2.2.1.2 (RdS Y133 ch_0_0.2.2.2.1.1 ((ST37.un x1).2.2.2.1)), .one (.int .i64 ((ST37.un x1).2.2.2.2.1)), .sl ch_0_0.2.2.2.2.2.1.1 ((ST37.un x1).2.2.2.2.2.1).length ch_0_0.2.2.2.2.2.1.2 (RdS Y100 ch_0_0.2.2.2.2.2.1.1 ((ST37.un x1).2.2.2.2.2.1)), .one (.bool ((ST37.un x1).2.2.2.2.2.2.1)), .sl ch_0_0.2.2.2.2.2.2.2.1 ((ST37.un x1).2.2.2.2.2.2.2).length ch_0_0.2.2.2.2.2.2.2.2 (SR37 ch_0_0.2.2.2.2.2.2.2.1 ((ST37.un x1).2.2.2.2.2.2.2))]) rfl rfl ?_; clear S a; intro a S
 refine s_loada S rfl .here T122 (s' := [.ints .u8 t1.1.1 20, .one (.int .u64 x3), .ints .u64 t1.1.2.2.1 4, .sl ch1.1 (t1.1.2.2.2.1).length ch1.2.1 (RdS (Ty.int .u8) ch1.1 t1.1.2.2.2.1), .sl ch1.2.2.1 (t1.1.2.2.2.2).length ch1.2.2.2 (RdS Y83 ch1.2.2.1 t1.1.2.2.2.2), .one (.bool t1.2.1), .one (.bool t1.2.2)]) rfl rfl ?_; clear S a; intro a S
 obtain ⟨t2, et2, h2⟩ := bind_of h1; clear h1
 refine s_callP S (fun (ch : W21) => ((.agg [.sl ch.1.1 ((ST37.un t2).1).length ch.1.2 (RdS Y71 ch.1.1 ((ST37.un t2).1)), .sl ch.2.1.1 ((ST37.un t2).2.1).length ch.2.1.2 (RdS Y122 ch.2.1.1 ((ST37.un t2).2.1)), .sl ch.2.2.1.1 ((ST37.un t2).2.2.1).length ch.2.2.1.2 (RdS (Ty.arr .u8 20) ch.2.2.1.1 ((ST37.un t2).2.2.1)), .sl ch.2.2.2.1.1 ((ST37.un t2).2.2.2.1).length ch.2.2.2.1.2 (RdS Y133 ch.2.2.2.1.1 ((ST37.un t2).2.2.2.1)), .one (.int .i64 ((ST37.un t2).2.2.2.2.1)), .sl ch.2.2.2.2.2.1.1 ((ST37.un t2).2.2.2.2.2.1).length ch.2.2.2.2.2.1.2 (RdS Y100 ch.2.2.2.2.2.1.1 ((ST37.un t2).2.2.2.2.2.1)), .one (.bool ((ST37.un t2).2.2.2.2.2.2.1)), .sl ch.2.2.2.2.2.2.2.1 ((ST37.un t2).2.2.2.2.2.2.2).length ch.2.2.2.2.2.2.2.2 (SR37 ch.2.2.2.2.2.2.2.1 ((ST37.un t2).2.2.2.2.2.2.2))]) : D)) N74 rfl rfl (smithyref14_State_With.ok k x1 ((t1.1.1, x3, t1.1.2.2.1, t1.1.2.2.2.1, t1.1.2.2.2.2), t1.2.1, t1.2.2) ((ch_0_0.1.1, ch_0_0.1.2), (ch_0_0.2.1.1, ch_0_0.2.1.2), (ch_0_0.2.2.1.1, ch_0_0.2.2.1.2), (ch_0_0.2.2.2.1.1, ch_0_0.2.2.2.1.2), (), (ch_0_0.2.2.2.2.2.1.1, ch_0_0.2.2.2.2.2.1.2), (), (ch_0_0.2.2.2.2.2.2.2.1, ch_0_0.2.2.2.2.2.2.2.2)) ch1.1 ch1.2.1 ch1.2.2.1 ch1.2.2.2 t2 et2 _ _) ?_; clear S a w; intro ch2 m le1 a w S
 refine s_store S rfl rfl rfl (s' := [.sl ch2.1.1 ((ST37.un t2).1).length ch2.1.2 (RdS Y71 ch2.1.1 ((ST37.un t2).1)), .sl ch2.2.1.1 ((ST37.un t2).2.1).length ch2.2.1.2 (RdS Y122 ch2.2.1.1 ((ST37.un t2).2.1)), .sl ch2.2.2.1.1 ((ST37.un t2).2.2.1).length ch2.2.2.1.2 (RdS (Ty.arr .u8 20) ch2.2.2.1.1 ((ST37.un t2).2.2.1)), .sl ch2.2.2.2.1.1 ((ST37.un t2).2.2.2.1).length ch2.2.2.2.1.2 (RdS Y133 ch2.2.2.2.1.1 ((ST37.un t2).2.2.2.1)), .one (.int .i64 ((ST37.un t2).2.2.2.2.1)), .sl ch2.2.2.2.2.2.1.1 ((ST37.un t2).2.2.2.2.2.1).length ch2.2.2.2.2.2.1.2 (RdS Y100 ch2.2.2.2.2.2.1.1 ((ST37.un t2).2.2.2.2.2.1)), .one (.bool ((ST37.un t2).2.2.2.2.2.2.1)), .sl ch2.2.2.2.2.2.2.2.1 ((ST37.un t2).2.2.2.2.2.2.2).length ch2.2.2.2.2.2.2.2.2 (SR37 ch2.2.2.2.2.2.2.2.1 ((ST37.un t2).2.2.2.2.2.2.2))]) (.there .here) T37 rfl rfl ?_; clear S w; intro w S
 refine c_end ?_
 refine wp_ret ?_
 obtain rfl := Option.some.inj h2
 exact b_ret1 (d := (.agg [.sl ch2.1.1 ((ST37.un t2).1).length ch2.1.2 (RdS Y71 ch2.1.1 ((ST37.un t2).1)), .sl ch2.2.1.1 ((ST37.un t2).2.1).length ch2.2.1.2 (RdS Y122 ch2.2.1.1 ((ST37.un t2).2.1)), .sl ch2.2.2.1.1 ((ST37.un t2).2.2.1).length ch2.2.2.1.2 (RdS (Ty.arr .u8 20) ch2.2.2.1.1 ((ST37.un t2).2.2.1)), .sl ch2.2.2.2.1.1 ((ST37.un t2).2.2.2.1).length ch2.2.2.2.1.2 (RdS Y133 ch2.2.2.2.1.1 ((ST37.un t2).2.2.2.1)), .one (.int .i64 ((ST37.un t2).2.2.2.2.1)), .sl ch2.2.2.2.2.2.1.1 ((ST37.un t2).2.2.2.2.2.1).length ch2.2.2.2.2.2.1.2 (RdS Y100 ch2.2.2.2.2.2.1.1 ((ST37.un t2).2.2.2.2.2.1)), .one (.bool ((ST37.un t2).2.2.2.2.2.2.1)), .sl ch2.2.2.2.2.2.2.2.1 ((ST37.un t2).2.2.2.2.2.2.2).length ch2.2.2.2.2.2.2.2.2 (SR37 ch2.2.2.2.2.2.2.2.1 ((ST37.un t2).2.2.2.2.2.2.2))])) S rfl (resD_cell rfl (.there .here) T37 rfl rfl) fun ok => S.retX (Hx := []) hb _ _ (((ch2.1.1, ch2.1.2), (ch2.2.1.1, ch2.2.1.2), (ch2.2.2.1.1, ch2.2.2.1.2), (ch2.2.2.2.1.1, ch2.2.2.2.1.2), (), (ch2.2.2.2.2.2.1.1, ch2.2.2.2.2.2.1.2), (), (ch2.2.2.2.2.2.2.2.1, ch2.2.2.2.2.2.2.2.2)) : W21) .nil ok
abbrev state_State_SetBalance_0nil.Ty : Type := (List Int) → (List Int) → Option Unit
def state_State_SetBalance_0nil.Ctr (s : state_State_SetBalance_0nil.Ty) : Prop := ∀ (x1 : List Int) (x2 : List Int) (r : Unit) (h0 : s x1 x2 = some r) (mi : Mem) (w0 : World), okL mi [(.v (.pointer none)), (.agg [.ints .u8 x1 20]), (.agg [.ints .u64 x2 4])] → Pre mi [] w0 → Calls Tryz.prog 37 (([(.v (.pointer none)), (.agg [.ints .u8 x1 20]), (.agg [.ints .u64 x2 4])] : List D).map D.val).toArray w0 (RetX mi [] (fun (ch : Unit) => ((.tup []) : D)) (fun (ch : Unit) => []) w0)
def state_State_SetBalance_0nil.f (x1 : List Int) (x2 : List Int) : Option Unit := some ()
theorem state_State_SetBalance_0nil.ok : state_State_SetBalance_0nil.Ctr (state_State_SetBalance_0nil.f) := by
 intro x1 x2 r h0 mi w0 ok hm
 delta state_State_SetBalance_0nil.f at h0
 refine c_enterX (n := 26) [(.v (.pointer none)), (.agg [.ints .u8 x1 20]), (.agg [.ints .u64 x2 4])] (l := [(0, (.v (.pointer none))), (1, (.agg [.ints .u8 x1 20])), (2, (.agg [.ints .u64 x2 4]))]) Tryz.func37 rfl rfl rfl rfl ok hm ?_
 clear ok hm
 intro b0 hb a S
 refine c_region ?_
 refine s_box S rfl rfl rfl ?_; clear S a; intro g1 a w S
 refine s_box S rfl rfl rfl ?_; clear S a w; intro g2 a w S
 refine c_end ?_
 refine wp_seq ?_
 refine c_region ?_
 refine s_move S rfl rfl ?_; clear S a; intro a S
 refine s_eqp S (b := true) rfl rfl Tryz.underlying26 rfl rfl ?_; clear S a; intro a S
 refine c_end ?_
 refine c_condT S rfl rfl ?_
 refine wp_ret ?_
 refine x_thenR ?_
 obtain rfl := Option.some.inj h0
 exact b_ret0 S rfl (S.retX (Hx := []) hb _ _ (() : Unit) .nil trivial)
abbrev smithyref14_State_SetBalance.Ty : Type := ST37 → (List Int) → (List Int) → Option ST37
def smithyref14_State_SetBalance.Ctr (s : smithyref14_State_SetBalance.Ty) : Prop := ∀ (x1 : ST37) (x2 : List Int) (x3 : List Int) (ch_0_0 : (Option Addr × Nat) × (Option Addr × Nat) × (Option Addr × Nat) × (Option Addr × Nat) × Unit × (Option Addr × Nat) × Unit × (Option Addr × Nat)) (r : ST37) (h0 : s x1 x2 x3 = some r) (mi : Mem) (w0 : World), okL mi [(.agg [.sl ch_0_0.1.1 ((ST37.un x1).1).length ch_0_0.1.2 (RdS Y71 ch_0_0.1.1 ((ST37.un x1).1)), .sl ch_0_0.2.1.1 ((ST37.un x1).2.1).length ch_0_0.2.1.2 (RdS Y122 ch_0_0.2.1.1 ((ST37.un x1).2.1)), .sl ch_0_0.2.2.1.1 ((ST37.un x1).2.2.1).length ch_0_0.2.2.1.2 (RdS (Ty.arr .u8 20) ch_0_0.2.2.1.1 ((ST37.un x1).2.2.1)), .sl ch_0_0.2.2.2.1.1 ((ST37.un x1).2.2.2.1).length ch_0_0.2.2.2.1.2 (RdS Y133 ch_0_0.2.2.2.1.1 ((ST37.un x1).2.2.2.1)), .one (.int .i64 ((ST37.un x1).2.2.2.2.1)), .sl ch_0_0.2.2.2.2.2.1.1 ((ST37.un x1).2.2.2.2.2.1).length ch_0_0.2.2.2.2.2.1.2 (RdS Y100 ch_0_0.2.2.2.2.2.1.1 ((ST37.un x1).2.2.2.2.2.1)), .one (.bool ((ST37.un x1).2.2.2.2.2.2.1)), .sl ch_0_0.2.2.2.2.2.2.2.1 ((ST37.un x1).2.2.2.2.2.2.2).length ch_0_0.2.2.2.2.2.2.2.2 (SR37 ch_0_0.2.2.2.2.2.2.2.1 ((ST37.un x1).2.2.2.2.2.2.2))]), (.agg [.ints .u8 x2 20]), (.agg [.ints .u64 x3 4])] → Pre mi [] w0 → Calls Tryz.prog 38 (([(.agg [.sl ch_0_0.1.1 ((ST37.un x1).1).length ch_0_0.1.2 (RdS Y71 ch_0_0.1.1 ((ST37.un x1).1)), .sl ch_0_0.2.1.1 ((ST37.un x1).2.1).length ch_0_0.2.1.2 (RdS Y122 ch_0_0.2.1.1 ((ST37.un x1).2.1)), .sl ch_0_0.2.2.1.1 ((ST37.un x1).2.2.1).length ch_0_0.2.2.1.2 (RdS (Ty.arr .u8 20) ch_0_0.2.2.1.1 ((ST37.un x1).2.2.1)), .sl ch_0_0.2.2.2.1.1 ((ST37.un x1).2.2.2.1).length ch_0_0.2.2.2.1.2 (RdS Y133 ch_0_0.2.2.2.1.1 ((ST37.un x1).2.2.2.1)), .one (.int .i64 ((ST37.un x1).2.2.2.2.1)), .sl ch_0_0.2.2.2.2.2.1.1 ((ST37.un x1).2.2.2.2.2.1).length ch_0_0.2.2.2.2.2.1.2 (RdS Y100 ch_0_0.2.2.2.2.2.1.1 ((ST37.un x1).2.2.2.2.2.1)), .one (.bool ((ST37.un x1).2.2.2.2.2.2.1)), .sl ch_0_0.2.2.2.2.2.2.2.1 ((ST37.un x1).2.2.2.2.2.2.2).length ch_0_0.2.2.2.2.2.2.2.2 (SR37 ch_0_0.2.2.2.2.2.2.2.1 ((ST37.un x1).2.2.2.2.2.2.2))]), (.agg [.ints .u8 x2 20]), (.agg [.ints .u64 x3 4])] : List D).map D.val).toArray w0 (RetX mi [] (fun (ch : W21) => ((.agg [.sl ch.1.1 ((ST37.un r).1).length ch.1.2 (RdS Y71 ch.1.1 ((ST37.un r).1)), .sl ch.2.1.1 ((ST37.un r).2.1).length ch.2.1.2 (RdS Y122 ch.2.1.1 ((ST37.un r).2.1)), .sl ch.2.2.1.1 ((ST37.un r).2.2.1).length ch.2.2.1.2 (RdS (Ty.arr .u8 20) ch.2.2.1.1 ((ST37.un r).2.2.1)), .sl ch.2.2.2.1.1 ((ST37.un r).2.2.2.1).length ch.2.2.2.1.2 (RdS Y133 ch.2.2.2.1.1 ((ST37.un r).2.2.2.1)), .one (.int .i64 ((ST37.un r).2.2.2.2.1)), .sl ch.2.2.2.2.2.1.1 ((ST37.un r).2.2.2.2.2.1).length ch.2.2.2.2.2.1.2 (RdS Y100 ch.2.2.2.2.2.1.1 ((ST37.un r).2.2.2.2.2.1)), .one (.bool ((ST37.un r).2.2.2.2.2.2.1)), .sl ch.2.2.2.2.2.2.2.1 ((ST37.un r).2.2.2.2.2.2.2).length ch.2.2.2.2.2.2.2.2 (SR37 ch.2.2.2.2.2.2.2.1 ((ST37.un r).2.2.2.2.2.2.2))]) : D)) (fun (ch : W21) => []) w0)
def smithyref14_State_SetBalance.f (k : Nat) (x1 : ST37) (x2 : List Int) (x3 : List Int) : Option ST37 := (smithyref14_State_At.f k x1 x2).bind fun t1 => ((smithyref14_State_With.f k x1 ((t1.1.1, t1.1.2.1, x3, t1.1.2.2.2.1, t1.1.2.2.2.2), t1.2.1, t1.2.2)).bind fun t2 => (some t2))
theorem smithyref14_State_SetBalance.ok (k : Nat) : smithyref14_State_SetBalance.Ctr (smithyref14_State_SetBalance.f k) := by
 intro x1 x2 x3 ch_0_0 r h0 mi w0 ok hm
 delta smithyref14_State_SetBalance.f at h0
 refine c_enterX (n := 17) [(.agg [.sl ch_0_0.1.1 ((ST37.un x1).1).length ch_0_0.1.2 (RdS Y71 ch_0_0.1.1 ((ST37.un x1).1)), .sl ch_0_0.2.1.1 ((ST37.un x1).2.1).length ch_0_0.2.1.2 (RdS Y122 ch_0_0.2.1.1 ((ST37.un x1).2.1)), .sl ch_0_0.2.2.1.1 ((ST37.un x1).2.2.1).length ch_0_0.2.2.1.2 (RdS (Ty.arr .u8 20) ch_0_0.2.2.1.1 ((ST37.un x1).2.2.1)), .sl ch_0_0.2.2.2.1.1 ((ST37.un x1).2.2.2.1).length ch_0_0.2.2.2.1.2 (RdS Y133 ch_0_0.2.2.2.1.1 ((ST37.un x1).2.2.2.1)), .one (.int .i64 ((ST37.un x1).2.2.2.2.1)), .sl ch_0_0.2.2.2.2.2.1.1 ((ST37.un x1).2.2.2.2.2.1).length ch_0_0.2.2.2.2.2.1.2 (RdS Y100 ch_0_0.2.2.2.2.2.1.1 ((ST37.un x1).2.2.2.2.2.1)), .one (.bool ((ST37.un x1).2.2.2.2.2.2.1)), .sl ch_0_0.2.2.2.2.2.2.2.1 ((ST37.un x1).2.2.2.2.2.2.2).length ch_0_0.2.2.2.2.2.2.2.2 (SR37 ch_0_0.2.2.2.2.2.2.2.1 ((ST37.un x1).2.2.2.2.2.2.2))]), (.agg [.ints .u8 x2 20]), (.agg [.ints .u64 x3 4])] (l := [(0, (.agg [.sl ch_0_0.1.1 ((ST37.un x1).1).length ch_0_0.1.2 (RdS Y71 ch_0_0.1.1 ((ST37.un x1).1)), .sl ch_0_0.2.1.1 ((ST37.un x1).2.1).length ch_0_0.2.1.2 (RdS Y122 ch_0_0.2.1.1 ((ST37.un x1).2.1)), .sl ch_0_0.2.2.1.1 ((ST37.un x1).2.2.1).length ch_0_0.2.2.1.2 (RdS (Ty.arr .u8 20) ch_0_0.2.2.1.1 ((ST37.un x1).2.2.1)), .sl ch_0_0.2.2.2.1.1 ((ST37.un x1).2.2.2.1).length ch_0_0.2.2.2.1.2 (RdS Y133 ch_0_0.2.2.2.1.1 ((ST37.un x1).2.2.2.1)), .one (.int .i64 ((ST37.un x1).2.2.2.2.1)), .sl ch_0_0.2.2.2.2.2.1.1 ((ST37.un x1).2.2.2.2.2.1).length ch_0_0.2.2.2.2.2.1.2 (RdS Y100 ch_0_0.2.2.2.2.2.1.1 ((ST37.un x1).2.2.2.2.2.1)), .one (.bool ((ST37.un x1).2.2.2.2.2.2.1)), .sl ch_0_0.2.2.2.2.2.2.2.1 ((ST37.un x1).2.2.2.2.2.2.2).length ch_0_0.2.2.2.2.2.2.2.2 (SR37 ch_0_0.2.2.2.2.2.2.2.1 ((ST37.un x1).2.2.2.2.2.2.2))])), (1, (.agg [.ints .u8 x2 20])), (2, (.agg [.ints .u64 x3 4]))]) Tryz.func38 rfl rfl rfl rfl ok hm ?_
 clear ok hm
 intro b0 hb a S
 refine c_region ?_
 refine s_box S rfl rfl rfl ?_; clear S a; intro g1 a w S
 refine s_box S rfl rfl rfl ?_; clear S a w; intro g2 a w S
 refine s_box S rfl rfl rfl ?_; clear S a w; intro g3 a w S
 refine s_alloc S Z37 rfl ⟨rfl, rfl, rfl, rfl, rfl, rfl, rfl, rfl, trivial⟩ rfl ?_; clear S a w; intro g4 a w S
 refine c_end ?_
 refine c_region ?_
 refine s_loada S rfl (.there (.there (.there .here))) T37 (s' := [.sl ch_0_0.1.1 ((ST37.un x1).1).length ch_0_0.1.2 (RdS Y71 ch_0_0.1.1 ((ST37.un x1).1)), .sl ch_0_0.2.1.1 ((ST37.un x1).2.1).length ch_0_0.2.1.2 (RdS Y122 ch_0_0.2.1.1 ((ST37.un x1).2.1)), .sl ch_0_0.2.2.1.1 ((ST37.un x1).2.2.1).length ch_0_0.2.2.1.2 (RdS (Ty.arr .u8 20) ch_0_0.2.2.1.1 ((ST37.un x1).2.2.1)), .sl ch_0_0.2.2.2.1.1 ((ST37.un x1).2.2.2.1).length ch_0_0.2.2.2.1.2 (RdS Y133 ch_0_0.2.2.2.1.1 ((ST37.un x1).2.2.2.1)), .one (.int .i64 ((ST37.un x1).2.2.2.2.1)), .sl ch_0_0.2.2.2.2.2.1.1 ((ST37.un x1).2.2.2.2.2.1).length ch_0_0.2.2.2.2.2.1.2 (RdS Y100 ch_0_0.2.2.2.2.2.1.1 ((ST37.un x1).2.2.2.2.2.1)), .one (.bool ((ST37.un x1).2.2.2.2.2.2.1)), .sl ch_0_0.2.2.2.2.2.2.2.1 ((ST37.un x1).2.2.2.2.2.2.2).length ch_0_0.2.2.2.2.2.2.2.2 (SR37 ch_0_0.2.2.2.2.2.2.2.1 ((ST37.un x1).2.2.2.2.2.2.2))]) rfl rfl ?_; clear S a; intro a S
 refine s_loada S rfl (.there (.there .here)) T40 (s' := [.ints .u8 x2 20]) rfl rfl ?_; clear S a; intro a S
 obtain ⟨t1, et1, h1⟩ := bind_of h0; clear h0
 refine s_callP S (fun (ch : W4) => ((.agg (Y122.segs t1 (((), (), (), (ch.1, ch.2.1), (ch.2.2.1, ch.2.2.2)), (), ()))) : D)) N64 rfl rfl (smithyref14_State_At.ok k x1 x2 ((ch_0_0.1.1, ch_0_0.1.2), (ch_0_0.2.1.1, ch_0_0.2.1.2), (ch_0_0.2.2.1.1, ch_0_0.2.2.1.2), (ch_0_0.2.2.2.1.1, ch_0_0.2.2.2.1.2), (), (ch_0_0.2.2.2.2.2.1.1, ch_0_0.2.2.2.2.2.1.2), (), (ch_0_0.2.2.2.2.2.2.2.1, ch_0_0.2.2.2.2.2.2.2.2)) t1 et1 _ _) ?_; clear S a w; intro ch1 m le1 a w S
 refine s_alloc S Z122 rfl ⟨rfl, rfl, rfl, rfl, rfl, rfl, rfl, trivial⟩ rfl ?_; clear S a w; intro g5 a w S
 refine s_store S rfl rfl rfl (s' := [.ints .u8 t1.1.1 20, .one (.int .u64 t1.1.2.1), .ints .u64 t1.1.2.2.1 4, .sl ch1.1 (t1.1.2.2.2.1).length ch1.2.1 (RdS (Ty.int .u8) ch1.1 t1.1.2.2.2.1), .sl ch1.2.2.1 (t1.1.2.2.2.2).length ch1.2.2.2 (RdS Y83 ch1.2.2.1 t1.1.2.2.2.2), .one (.bool t1.2.1), .one (.bool t1.2.2)]) .here T122 rfl rfl ?_; clear S w; intro w S
 refine c_end ?_
 refine c_region ?_
 refine s_loada S rfl (.there (.there .here)) T43 (s' := [.ints .u64 x3 4]) rfl rfl ?_; clear S a; intro a S
 refine s_fieldAddr S rfl I122_0 T71 (by decide) rfl rfl ?_; clear S a; intro a S
 refine s_fieldAddr S rfl I71_2 T43 (by decide) rfl rfl ?_; clear S a; intro a S
 refine s_store S rfl rfl rfl (s' := [.ints .u8 t1.1.1 20, .one (.int .u64 t1.1.2.1), .ints .u64 x3 4, .sl ch1.1 (t1.1.2.2.2.1).length ch1.2.1 (RdS (Ty.int .u8) ch1.1 t1.1.2.2.2.1), .sl ch1.2.2.1 (t1.1.2.2.2.2).length ch1.2.2.2 (RdS Y83 ch1.2.2.1 t1.1.2.2.2.2), .one (.bool t1.2.1), .one (.bool t1.2.2)]) .here T43 rfl rfl ?_; clear S w; intro w S
 refine c_end ?_
 refine c_region ?_
 refine s_loada S rfl (.there (.there (.there (.there .here)))) T37 (s' := [.sl ch_0_0.1.1 ((ST37.un x1).1).length ch_0_0.1.2 (RdS Y71 ch_0_0.1.1 ((ST37.un x1).1)), .sl ch_0_0.2.1.1 ((ST37.un x1).2.1).length ch_0_0.2.1.2 (RdS Y122 ch_0_0.2.1.1 ((ST37.un x1).2.1)), .sl ch_0_0.2.2.1.1 ((ST37.un x1).2.2.1).length ch_0_0.2.2.1.2 (RdS (Ty.arr .u8 20) ch_0_0.2.2.1.1 ((ST37.un x1).2.2.1)), .sl ch_0_0.2.2.2.1.1 ((ST37.un x1).2.2.2.1).length ch_0_0.2.2.2.1.2 (RdS Y133 ch_0_0.2.2.2.1.1 ((ST37.un x1).2.2.2.1)), .one (.int .i64 ((ST37.un x1).2.2.2.2.1)), .sl ch_0_0.2.2.2.2.2.1.1 ((ST37.un x1).2.2.2.2.2.1).length ch_0_0.2.2.2.2.2.1.2 (RdS Y100 ch_0_0.2.2.2.2.2.1.1 ((ST37.un x1).2.2.2.2.2.1)), .one (.bool ((ST37.un x1).2.2.2.2.2.2.1)), .sl ch_0_0.2.2.2.2.2.2.2.1 ((ST37.un x1).2.2.2.2.2.2.2).length ch_0_0.2.2.2.2.2.2.2.2 (SR37 ch_0_0.2.2.2.2.2.2.2.1 ((ST37.un x1).2.2.2.2.2.2.2))]) rfl rfl ?_; clear S a; intro a S
 refine s_loada S rfl .here T122 (s' := [.ints .u8 t1.1.1 20, .one (.int .u64 t1.1.2.1), .ints .u64 x3 4, .sl ch1.1 (t1.1.2.2.2.1).length ch1.2.1 (RdS (Ty.int .u8) ch1.1 t1.1.2.2.2.1), .sl ch1.2.2.1 (t1.1.2.2.2.2).length ch1.2.2.2 (RdS Y83 ch1.2.2.1 t1.1.2.2.2.2), .one (.bool t1.2.1), .one (.bool t1.2.2)]) rfl rfl ?_; clear S a; intro a S
 obtain ⟨t2, et2, h2⟩ := bind_of h1; clear h1
 refine s_callP S (fun (ch : W21) => ((.agg [.sl ch.1.1 ((ST37.un t2).1).length ch.1.2 (RdS Y71 ch.1.1 ((ST37.un t2).1)), .sl ch.2.1.1 ((ST37.un t2).2.1).length ch.2.1.2 (RdS Y122 ch.2.1.1 ((ST37.un t2).2.1)), .sl ch.2.2.1.1 ((ST37.un t2).2.2.1).length ch.2.2.1.2 (RdS (Ty.arr .u8 20) ch.2.2.1.1 ((ST37.un t2).2.2.1)), .sl ch.2.2.2.1.1 ((ST37.un t2).2.2.2.1).length ch.2.2.2.1.2 (RdS Y133 ch.2.2.2.1.1 ((ST37.un t2).2.2.2.1)), .one (.int .i64 ((ST37.un t2).2.2.2.2.1)), .sl ch.2.2.2.2.2.1.1 ((ST37.un t2).2.2.2.2.2.1).length ch.2.2.2.2.2.1.2 (RdS Y100 ch.2.2.2.2.2.1.1 ((ST37.un t2).2.2.2.2.2.1)), .one (.bool ((ST37.un t2).2.2.2.2.2.2.1)), .sl ch.2.2.2.2.2.2.2.1 ((ST37.un t2).2.2.2.2.2.2.2).length ch.2.2.2.2.2.2.2.2 (SR37 ch.2.2.2.2.2.2.2.1 ((ST37.un t2).2.2.2.2.2.2.2))]) : D)) N74 rfl rfl (smithyref14_State_With.ok k x1 ((t1.1.1, t1.1.2.1, x3, t1.1.2.2.2.1, t1.1.2.2.2.2), t1.2.1, t1.2.2) ((ch_0_0.1.1, ch_0_0.1.2), (ch_0_0.2.1.1, ch_0_0.2.1.2), (ch_0_0.2.2.1.1, ch_0_0.2.2.1.2), (ch_0_0.2.2.2.1.1, ch_0_0.2.2.2.1.2), (), (ch_0_0.2.2.2.2.2.1.1, ch_0_0.2.2.2.2.2.1.2), (), (ch_0_0.2.2.2.2.2.2.2.1, ch_0_0.2.2.2.2.2.2.2.2)) ch1.1 ch1.2.1 ch1.2.2.1 ch1.2.2.2 t2 et2 _ _) ?_; clear S a w; intro ch2 m le1 a w S
 refine s_store S rfl rfl rfl (s' := [.sl ch2.1.1 ((ST37.un t2).1).length ch2.1.2 (RdS Y71 ch2.1.1 ((ST37.un t2).1)), .sl ch2.2.1.1 ((ST37.un t2).2.1).length ch2.2.1.2 (RdS Y122 ch2.2.1.1 ((ST37.un t2).2.1)), .sl ch2.2.2.1.1 ((ST37.un t2).2.2.1).length ch2.2.2.1.2 (RdS (Ty.arr .u8 20) ch2.2.2.1.1 ((ST37.un t2).2.2.1)), .sl ch2.2.2.2.1.1 ((ST37.un t2).2.2.2.1).length ch2.2.2.2.1.2 (RdS Y133 ch2.2.2.2.1.1 ((ST37.un t2).2.2.2.1)), .one (.int .i64 ((ST37.un t2).2.2.2.2.1)), .sl ch2.2.2.2.2.2.1.1 ((ST37.un t2).2.2.2.2.2.1).length ch2.2.2.2.2.2.1.2 (RdS Y100 ch2.2.2.2.2.2.1.1 ((ST37.un t2).2.2.2.2.2.1)), .one (.bool ((ST37.un t2).2.2.2.2.2.2.1)), .sl ch2.2.2.2.2.2.2.2.1 ((ST37.un t2).2.2.2.2.2.2.2).length ch2.2.2.2.2.2.2.2.2 (SR37 ch2.2.2.2.2.2.2.2.1 ((ST37.un t2).2.2.2.2.2.2.2))]) (.there .here) T37 rfl rfl ?_; clear S w; intro w S
 refine c_end ?_
 refine wp_ret ?_
 obtain rfl := Option.some.inj h2
 exact b_ret1 (d := (.agg [.sl ch2.1.1 ((ST37.un t2).1).length ch2.1.2 (RdS Y71 ch2.1.1 ((ST37.un t2).1)), .sl ch2.2.1.1 ((ST37.un t2).2.1).length ch2.2.1.2 (RdS Y122 ch2.2.1.1 ((ST37.un t2).2.1)), .sl ch2.2.2.1.1 ((ST37.un t2).2.2.1).length ch2.2.2.1.2 (RdS (Ty.arr .u8 20) ch2.2.2.1.1 ((ST37.un t2).2.2.1)), .sl ch2.2.2.2.1.1 ((ST37.un t2).2.2.2.1).length ch2.2.2.2.1.2 (RdS Y133 ch2.2.2.2.1.1 ((ST37.un t2).2.2.2.1)), .one (.int .i64 ((ST37.un t2).2.2.2.2.1)), .sl ch2.2.2.2.2.2.1.1 ((ST37.un t2).2.2.2.2.2.1).length ch2.2.2.2.2.2.1.2 (RdS Y100 ch2.2.2.2.2.2.1.1 ((ST37.un t2).2.2.2.2.2.1)), .one (.bool ((ST37.un t2).2.2.2.2.2.2.1)), .sl ch2.2.2.2.2.2.2.2.1 ((ST37.un t2).2.2.2.2.2.2.2).length ch2.2.2.2.2.2.2.2.2 (SR37 ch2.2.2.2.2.2.2.2.1 ((ST37.un t2).2.2.2.2.2.2.2))])) S rfl (resD_cell rfl (.there .here) T37 rfl rfl) fun ok => S.retX (Hx := []) hb _ _ (((ch2.1.1, ch2.1.2), (ch2.2.1.1, ch2.2.1.2), (ch2.2.2.1.1, ch2.2.2.1.2), (ch2.2.2.2.1.1, ch2.2.2.2.1.2), (), (ch2.2.2.2.2.2.1.1, ch2.2.2.2.2.2.1.2), (), (ch2.2.2.2.2.2.2.2.1, ch2.2.2.2.2.2.2.2.2)) : W21) .nil ok
abbrev state_State_SetCode_0nil.Ty : Type := (List Int) → (List Int) → Option Unit
def state_State_SetCode_0nil.Ctr (s : state_State_SetCode_0nil.Ty) : Prop := ∀ (x1 : List Int) (x2 : List Int) (ch_2_0 : Option Addr) (ch_2_1 : Nat) (r : Unit) (h0 : s x1 x2 = some r) (mi : Mem) (w0 : World), okL mi [(.v (.pointer none)), (.agg [.ints .u8 x1 20]), (.sl ch_2_0 (x2).length ch_2_1 (RdS (Ty.int .u8) ch_2_0 x2))] → Pre mi [] w0 → Calls Tryz.prog 39 (([(.v (.pointer none)), (.agg [.ints .u8 x1 20]), (.sl ch_2_0 (x2).length ch_2_1 (RdS (Ty.int .u8) ch_2_0 x2))] : List D).map D.val).toArray w0 (RetX mi [] (fun (ch : Unit) => ((.tup []) : D)) (fun (ch : Unit) => []) w0)
def state_State_SetCode_0nil.f (x1 : List Int) (x2 : List Int) : Option Unit := some ()
theorem state_State_SetCode_0nil.ok : state_State_SetCode_0nil.Ctr (state_State_SetCode_0nil.f) := by
 intro x1 x2 ch_2_0 ch_2_1 r h0 mi w0 ok hm
 delta state_State_SetCode_0nil.f at h0
 refine c_enterX (n := 27) [(.v (.pointer none)), (.agg [.ints .u8 x1 20]), (.sl ch_2_0 (x2).length ch_2_1 (RdS (Ty.int .u8) ch_2_0 x2))] (l := [(0, (.v (.pointer none))), (1, (.agg [.ints .u8 x1 20])), (2, (.sl ch_2_0 (x2).length ch_2_1 (RdS (Ty.int .u8) ch_2_0 x2)))]) Tryz.func39 rfl rfl rfl rfl ok hm ?_
 clear ok hm
 intro b0 hb a S
 refine c_region ?_
 refine s_box S rfl rfl rfl ?_; clear S a; intro g1 a w S
 refine c_end ?_
 refine wp_seq ?_
 refine c_region ?_
 refine s_move S rfl rfl ?_; clear S a; intro a S
 refine s_eqp S (b := true) rfl rfl Tryz.underlying26 rfl rfl ?_; clear S a; intro a S
 refine c_end ?_
 refine c_condT S rfl rfl ?_
 refine wp_ret ?_
 refine x_thenR ?_
 obtain rfl := Option.some.inj h0
 exact b_ret0 S rfl (S.retX (Hx := []) hb _ _ (() : Unit) .nil trivial)
abbrev smithyref14_State_SetCode.Ty : Type := ST37 → (List Int) → (List Int) → Option ST37
def smithyref14_State_SetCode.Ctr (s : smithyref14_State_SetCode.Ty) : Prop := ∀ (x1 : ST37) (x2 : List Int) (x3 : List Int) (ch_0_0 : (Option Addr × Nat) × (Option Addr × Nat) × (Option Addr × Nat) × (Option Addr × Nat) × Unit × (Option Addr × Nat) × Unit × (Option Addr × Nat)) (ch_2_0 : Option Addr) (ch_2_1 : Nat) (r : ST37) (h0 : s x1 x2 x3 = some r) (mi : Mem) (w0 : World), okL mi [(.agg [.sl ch_0_0.1.1 ((ST37.un x1).1).length ch_0_0.1.2 (RdS Y71 ch_0_0.1.1 ((ST37.un x1).1)), .sl ch_0_0.2.1.1 ((ST37.un x1).2.1).length ch_0_0.2.1.2 (RdS Y122 ch_0_0.2.1.1 ((ST37.un x1).2.1)), .sl ch_0_0.2.2.1.1 ((ST37.un x1).2.2.1).length ch_0_0.2.2.1.2 (RdS (Ty.arr .u8 20) ch_0_0.2.2.1.1 ((ST37.un x1).2.2.1)), .sl ch_0_0.2.2.2.1.1 ((ST37.un x1).2.2.2.1).length ch_0_0.2.2.2.1.2 (RdS Y133 ch_0_0.2.2.2.1.1 ((ST37.un x1).2.2.2.1)), .one (.int .i64 ((ST37.un x1).2.2.2.2.1)), .sl ch_0_0.2.2.2.2.2.1.1 ((ST37.un x1).2.2.2.2.2.1).length ch_0_0.2.2.2.2.2.1.2 (RdS Y100 ch_0_0.2.2.2.2.2.1.1 ((ST37.un x1).2.2.2.2.2.1)), .one (.bool ((ST37.un x1).2.2.2.2.2.2.1)), .sl ch_0_0.2.2.2.2.2.2.2.1 ((ST37.un x1).2.2.2.2.2.2.2).length ch_0_0.2.2.2.2.2.2.2.2 (SR37 ch_0_0.2.2.2.2.2.2.2.1 ((ST37.un x1).2.2.2.2.2.2.2))]), (.agg [.ints .u8 x2 20]), (.sl ch_2_0 (x3).length ch_2_1 (RdS (Ty.int .u8) ch_2_0 x3))] → Pre mi [] w0 → Calls Tryz.prog 40 (([(.agg [.sl ch_0_0.1.1 ((ST37.un x1).1).length ch_0_0.1.2 (RdS Y71 ch_0_0.1.1 ((ST37.un x1).1)), .sl ch_0_0.2.1.1 ((ST37.un x1).2.1).length ch_0_0.2.1.2 (RdS Y122 ch_0_0.2.1.1 ((ST37.un x1).2.1)), .sl ch_0_0.2.2.1.1 ((ST37.un x1).2.2.1).length ch_0_0.2.2.1.2 (RdS (Ty.arr .u8 20) ch_0_0.2.2.1.1 ((ST37.un x1).2.2.1)), .sl ch_0_0.2.2.2.1.1 ((ST37.un x1).2.2.2.1).length ch_0_0.2.2.2.1.2 (RdS Y133 ch_0_0.2.2.2.1.1 ((ST37.un x1).2.2.2.1)), .one (.int .i64 ((ST37.un x1).2.2.2.2.1)), .sl ch_0_0.2.2.2.2.2.1.1 ((ST37.un x1).2.2.2.2.2.1).length ch_0_0.2.2.2.2.2.1.2 (RdS Y100 ch_0_0.2.2.2.2.2.1.1 ((ST37.un x1).2.2.2.2.2.1)), .one (.bool ((ST37.un x1).2.2.2.2.2.2.1)), .sl ch_0_0.2.2.2.2.2.2.2.1 ((ST37.un x1).2.2.2.2.2.2.2).length ch_0_0.2.2.2.2.2.2.2.2 (SR37 ch_0_0.2.2.2.2.2.2.2.1 ((ST37.un x1).2.2.2.2.2.2.2))]), (.agg [.ints .u8 x2 20]), (.sl ch_2_0 (x3).length ch_2_1 (RdS (Ty.int .u8) ch_2_0 x3))] : List D).map D.val).toArray w0 (RetX mi [] (fun (ch : W21) => ((.agg [.sl ch.1.1 ((ST37.un r).1).length ch.1.2 (RdS Y71 ch.1.1 ((ST37.un r).1)), .sl ch.2.1.1 ((ST37.un r).2.1).length ch.2.1.2 (RdS Y122 ch.2.1.1 ((ST37.un r).2.1)), .sl ch.2.2.1.1 ((ST37.un r).2.2.1).length ch.2.2.1.2 (RdS (Ty.arr .u8 20) ch.2.2.1.1 ((ST37.un r).2.2.1)), .sl ch.2.2.2.1.1 ((ST37.un r).2.2.2.1).length ch.2.2.2.1.2 (RdS Y133 ch.2.2.2.1.1 ((ST37.un r).2.2.2.1)), .one (.int .i64 ((ST37.un r).2.2.2.2.1)), .sl ch.2.2.2.2.2.1.1 ((ST37.un r).2.2.2.2.2.1).length ch.2.2.2.2.2.1.2 (RdS Y100 ch.2.2.2.2.2.1.1 ((ST37.un r).2.2.2.2.2.1)), .one (.bool ((ST37.un r).2.2.2.2.2.2.1)), .sl ch.2.2.2.2.2.2.2.1 ((ST37.un r).2.2.2.2.2.2.2).length ch.2.2.2.2.2.2.2.2 (SR37 ch.2.2.2.2.2.2.2.1 ((ST37.un r).2.2.2.2.2.2.2))]) : D)) (fun (ch : W21) => []) w0)
def smithyref14_State_SetCode.f (k : Nat) (x1 : ST37) (x2 : List Int) (x3 : List Int) : Option ST37 := (smithyref14_State_At.f k x1 x2).bind fun t1 => (if ((([] : List Int)).length + (x3).length) * 1 ≤ 140737488355328 then ((smithyref14_State_With.f k x1 ((t1.1.1, t1.1.2.1, t1.1.2.2.1, ([] : List Int) ++ x3, t1.1.2.2.2.2), t1.2.1, t1.2.2)).bind fun t2 => (some t2)) else none)
theorem smithyref14_State_SetCode.ok (k : Nat) : smithyref14_State_SetCode.Ctr (smithyref14_State_SetCode.f k) := by
 intro x1 x2 x3 ch_0_0 ch_2_0 ch_2_1 r h0 mi w0 ok hm
 delta smithyref14_State_SetCode.f at h0
 refine c_enterX (n := 22) [(.agg [.sl ch_0_0.1.1 ((ST37.un x1).1).length ch_0_0.1.2 (RdS Y71 ch_0_0.1.1 ((ST37.un x1).1)), .sl ch_0_0.2.1.1 ((ST37.un x1).2.1).length ch_0_0.2.1.2 (RdS Y122 ch_0_0.2.1.1 ((ST37.un x1).2.1)), .sl ch_0_0.2.2.1.1 ((ST37.un x1).2.2.1).length ch_0_0.2.2.1.2 (RdS (Ty.arr .u8 20) ch_0_0.2.2.1.1 ((ST37.un x1).2.2.1)), .sl ch_0_0.2.2.2.1.1 ((ST37.un x1).2.2.2.1).length ch_0_0.2.2.2.1.2 (RdS Y133 ch_0_0.2.2.2.1.1 ((ST37.un x1).2.2.2.1)), .one (.int .i64 ((ST37.un x1).2.2.2.2.1)), .sl ch_0_0.2.2.2.2.2.1.1 ((ST37.un x1).2.2.2.2.2.1).length ch_0_0.2.2.2.2.2.1.2 (RdS Y100 ch_0_0.2.2.2.2.2.1.1 ((ST37.un x1).2.2.2.2.2.1)), .one (.bool ((ST37.un x1).2.2.2.2.2.2.1)), .sl ch_0_0.2.2.2.2.2.2.2.1 ((ST37.un x1).2.2.2.2.2.2.2).length ch_0_0.2.2.2.2.2.2.2.2 (SR37 ch_0_0.2.2.2.2.2.2.2.1 ((ST37.un x1).2.2.2.2.2.2.2))]), (.agg [.ints .u8 x2 20]), (.sl ch_2_0 (x3).length ch_2_1 (RdS (Ty.int .u8) ch_2_0 x3))] (l := [(0, (.agg [.sl ch_0_0.1.1 ((ST37.un x1).1).length ch_0_0.1.2 (RdS Y71 ch_0_0.1.1 ((ST37.un x1).1)), .sl ch_0_0.2.1.1 ((ST37.un x1).2.1).length ch_0_0.2.1.2 (RdS Y122 ch_0_0.2.1.1 ((ST37.un x1).2.1)), .sl ch_0_0.2.2.1.1 ((ST37.un x1).2.2.1).length ch_0_0.2.2.1.2 (RdS (Ty.arr .u8 20) ch_0_0.2.2.1.1 ((ST37.un x1).2.2.1)), .sl ch_0_0.2.2.2.1.1 ((ST37.un x1).2.2.2.1).length ch_0_0.2.2.2.1.2 (RdS Y133 ch_0_0.2.2.2.1.1 ((ST37.un x1).2.2.2.1)), .one (.int .i64 ((ST37.un x1).2.2.2.2.1)), .sl ch_0_0.2.2.2.2.2.1.1 ((ST37.un x1).2.2.2.2.2.1).length ch_0_0.2.2.2.2.2.1.2 (RdS Y100 ch_0_0.2.2.2.2.2.1.1 ((ST37.un x1).2.2.2.2.2.1)), .one (.bool ((ST37.un x1).2.2.2.2.2.2.1)), .sl ch_0_0.2.2.2.2.2.2.2.1 ((ST37.un x1).2.2.2.2.2.2.2).length ch_0_0.2.2.2.2.2.2.2.2 (SR37 ch_0_0.2.2.2.2.2.2.2.1 ((ST37.un x1).2.2.2.2.2.2.2))])), (1, (.agg [.ints .u8 x2 20])), (2, (.sl ch_2_0 (x3).length ch_2_1 (RdS (Ty.int .u8) ch_2_0 x3)))]) Tryz.func40 rfl rfl rfl rfl ok hm ?_
 clear ok hm
 intro b0 hb a S
 refine c_region ?_
 refine s_box S rfl rfl rfl ?_; clear S a; intro g1 a w S
 refine s_box S rfl rfl rfl ?_; clear S a w; intro g2 a w S
 refine s_alloc S Z37 rfl ⟨rfl, rfl, rfl, rfl, rfl, rfl, rfl, rfl, trivial⟩ rfl ?_; clear S a w; intro g3 a w S
 refine c_end ?_
 refine c_region ?_
 refine s_loada S rfl (.there (.there .here)) T37 (s' := [.sl ch_0_0.1.1 ((ST37.un x1).1).length ch_0_0.1.2 (RdS Y71 ch_0_0.1.1 ((ST37.un x1).1)), .sl ch_0_0.2.1.1 ((ST37.un x1).2.1).length ch_0_0.2.1.2 (RdS Y122 ch_0_0.2.1.1 ((ST37.un x1).2.1)), .sl ch_0_0.2.2.1.1 ((ST37.un x1).2.2.1).length ch_0_0.2.2.1.2 (RdS (Ty.arr .u8 20) ch_0_0.2.2.1.1 ((ST37.un x1).2.2.1)), .sl ch_0_0.2.2.2.1.1 ((ST37.un x1).2.2.2.1).length ch_0_0.2.2.2.1.2 (RdS Y133 ch_0_0.2.2.2.1.1 ((ST37.un x1).2.2.2.1)), .one (.int .i64 ((ST37.un x1).2.2.2.2.1)), .sl ch_0_0.2.2.2.2.2.1.1 ((ST37.un x1).2.2.2.2.2.1).length ch_0_0.2.2.2.2.2.1.2 (RdS Y100 ch_0_0.2.2.2.2.2.1.1 ((ST37.un x1).2.2.2.2.2.1)), .one (.bool ((ST37.un x1).2.2.2.2.2.2.1)), .sl ch_0_0.2.2.2.2.2.2.2.1 ((ST37.un x1).2.2.2.2.2.2.2).length ch_0_0.2.2.2.2.2.2.2.2 (SR37 ch_0_0.2.2.2.2.2.2.2.1 ((ST37.un x1).2.2.2.2.2.2.2))]) rfl rfl ?_; clear S a; intro a S
 refine s_loada S rfl (.there .here) T40 (s' := [.ints .u8 x2 20]) rfl rfl ?_; clear S a; intro a S
 obtain ⟨t1, et1, h1⟩ := bind_of h0; clear h0
 refine s_callP S (fun (ch : W4) => ((.agg (Y122.segs t1 (((), (), (), (ch.1, ch.2.1), (ch.2.2.1, ch.2.2.2)), (), ()))) : D)) N64 rfl rfl (smithyref14_State_At.ok k x1 x2 ((ch_0_0.1.1, ch_0_0.1.2), (ch_0_0.2.1.1, ch_0_0.2.1.2), (ch_0_0.2.2.1.1, ch_0_0.2.2.1.2), (ch_0_0.2.2.2.1.1, ch_0_0.2.2.2.1.2), (), (ch_0_0.2.2.2.2.2.1.1, ch_0_0.2.2.2.2.2.1.2), (), (ch_0_0.2.2.2.2.2.2.2.1, ch_0_0.2.2.2.2.2.2.2.2)) t1 et1 _ _) ?_; clear S a w; intro ch1 m le1 a w S
 refine s_alloc S Z122 rfl ⟨rfl, rfl, rfl, rfl, rfl, rfl, rfl, trivial⟩ rfl ?_; clear S a w; intro g4 a w S
 refine s_store S rfl rfl rfl (s' := [.ints .u8 t1.1.1 20, .one (.int .u64 t1.1.2.1), .ints .u64 t1.1.2.2.1 4, .sl ch1.1 (t1.1.2.2.2.1).length ch1.2.1 (RdS (Ty.int .u8) ch1.1 t1.1.2.2.2.1), .sl ch1.2.2.1 (t1.1.2.2.2.2).length ch1.2.2.2 (RdS Y83 ch1.2.2.1 t1.1.2.2.2.2), .one (.bool t1.2.1), .one (.bool t1.2.2)]) .here T122 rfl rfl ?_; clear S w; intro w S
 refine c_end ?_
 refine c_region ?_
 refine s_bldSl S (ty' := (Ty.int .u8)) (ds := []) (z := 0) (c0 := ()) (ys := ([] : List Int)) (cs := []) rfl Tryz.underlying44 J5 Z5 rfl ⟨rfl, trivial⟩ rfl rfl rfl rfl rfl rfl ?_; clear S a w; intro g5 a w S
 refine s_assign S rfl rfl ?_; clear S a; intro a S
 refine c_end ?_
 refine c_region ?_
 refine s_move S rfl rfl ?_; clear S a; intro a S
 refine s_move S rfl rfl ?_; clear S a; intro a S
 obtain ⟨c1, h2⟩ := chk_of h1; clear h1
 refine s_app S (k2 := ((x3).length)) (ys := x3) rfl (fun _ _ => .here) rfl rfl rfl (RdS.src (S.get 14 (.sl ch_2_0 (x3).length ch_2_1 (RdS (Ty.int .u8) ch_2_0 x3)) rfl).2.2.2.1 (by decide) S.frz) Tryz.underlying44 J5 c1 rfl ?_; clear S a w; intro A1 cp1 a w S
 refine s_assign S rfl rfl ?_; clear S a; intro a S
 refine c_end ?_
 refine c_region ?_
 refine s_move S rfl rfl ?_; clear S a; intro a S
 refine s_fieldAddr S rfl I122_0 T71 (by decide) rfl rfl ?_; clear S a; intro a S
 refine s_fieldAddr S rfl I71_3 T44 (by decide) rfl rfl ?_; clear S a; intro a S
 refine s_store S rfl rfl rfl (s' := [.ints .u8 t1.1.1 20, .one (.int .u64 t1.1.2.1), .ints .u64 t1.1.2.2.1 4, .one (.slice A1 (0 + ((x3).length)) cp1), .sl ch1.2.2.1 (t1.1.2.2.2.2).length ch1.2.2.2 (RdS Y83 ch1.2.2.1 t1.1.2.2.2.2), .one (.bool t1.2.1), .one (.bool t1.2.2)]) (.there .here) T44 rfl rfl ?_; clear S w; intro w S
 refine c_end ?_
 refine c_region ?_
 refine s_loada S rfl (.there (.there (.there (.there .here)))) T37 (s' := [.sl ch_0_0.1.1 ((ST37.un x1).1).length ch_0_0.1.2 (RdS Y71 ch_0_0.1.1 ((ST37.un x1).1)), .sl ch_0_0.2.1.1 ((ST37.un x1).2.1).length ch_0_0.2.1.2 (RdS Y122 ch_0_0.2.1.1 ((ST37.un x1).2.1)), .sl ch_0_0.2.2.1.1 ((ST37.un x1).2.2.1).length ch_0_0.2.2.1.2 (RdS (Ty.arr .u8 20) ch_0_0.2.2.1.1 ((ST37.un x1).2.2.1)), .sl ch_0_0.2.2.2.1.1 ((ST37.un x1).2.2.2.1).length ch_0_0.2.2.2.1.2 (RdS Y133 ch_0_0.2.2.2.1.1 ((ST37.un x1).2.2.2.1)), .one (.int .i64 ((ST37.un x1).2.2.2.2.1)), .sl ch_0_0.2.2.2.2.2.1.1 ((ST37.un x1).2.2.2.2.2.1).length ch_0_0.2.2.2.2.2.1.2 (RdS Y100 ch_0_0.2.2.2.2.2.1.1 ((ST37.un x1).2.2.2.2.2.1)), .one (.bool ((ST37.un x1).2.2.2.2.2.2.1)), .sl ch_0_0.2.2.2.2.2.2.2.1 ((ST37.un x1).2.2.2.2.2.2.2).length ch_0_0.2.2.2.2.2.2.2.2 (SR37 ch_0_0.2.2.2.2.2.2.2.1 ((ST37.un x1).2.2.2.2.2.2.2))]) rfl rfl ?_; clear S a; intro a S
 refine s_loada S rfl (.there .here) T122 (s' := [.ints .u8 t1.1.1 20, .one (.int .u64 t1.1.2.1), .ints .u64 t1.1.2.2.1 4, .one (.slice A1 (0 + ((x3).length)) cp1), .sl ch1.2.2.1 (t1.1.2.2.2.2).length ch1.2.2.2 (RdS Y83 ch1.2.2.1 t1.1.2.2.2.2), .one (.bool t1.2.1), .one (.bool t1.2.2)]) rfl rfl ?_; clear S a; intro a S
 replace S := S.rowfro .here
 obtain ⟨m, le1, S, hro⟩ := S
 replace S := S.slot (u := 20) (d' := (.agg [.ints .u8 t1.1.1 20, .one (.int .u64 t1.1.2.1), .ints .u64 t1.1.2.2.1 4, .sl A1 (([] : List Int) ++ x3).length cp1 (RdS (Ty.int .u8) A1 (([] : List Int) ++ x3)), .sl ch1.2.2.1 (t1.1.2.2.2.2).length ch1.2.2.2 (RdS Y83 ch1.2.2.1 t1.1.2.2.2.2), .one (.bool t1.2.1), .one (.bool t1.2.2)])) rfl (by simp [D.val, pd, cellsOf, Seg.cells, hro.2.1]) (by have h := (S.get 20 (.agg [.ints .u8 t1.1.1 20, .one (.int .u64 t1.1.2.1), .ints .u64 t1.1.2.2.1 4, .one (.slice A1 (0 + ((x3).length)) cp1), .sl ch1.2.2.1 (t1.1.2.2.2.2).length ch1.2.2.2 (RdS Y83 ch1.2.2.1 t1.1.2.2.2.2), .one (.bool t1.2.1), .one (.bool t1.2.2)]) rfl).2; exact ⟨h.1, h.2.1, h.2.2.1, ⟨by have := hro.2.2.1; omega, hro.2.2.2, hro.1, RdS.mono _ _ _⟩, h.2.2.2.2.1, h.2.2.2.2.2.1, h.2.2.2.2.2.2.1, trivial⟩)
 replace S := S.slotro (u := 16) rfl hro
 replace S := S.slotro (u := 8) rfl hro
 replace S := S.slotro (u := 15) rfl hro
 replace S := S.cellro (s' := [.ints .u8 t1.1.1 20, .one (.int .u64 t1.1.2.1), .ints .u64 t1.1.2.2.1 4, .sl A1 (([] : List Int) ++ x3).length cp1 (RdS (Ty.int .u8) A1 (([] : List Int) ++ x3)), .sl ch1.2.2.1 (t1.1.2.2.2.2).length ch1.2.2.2 (RdS Y83 ch1.2.2.1 t1.1.2.2.2.2), .one (.bool t1.2.1), .one (.bool t1.2.2)]) .here (by simp [cellsOf, Seg.cells, hro.2.1]) (fun h => ⟨h.1, h.2.1, h.2.2.1, ⟨by have := hro.2.2.1; omega, hro.2.2.2, hro.1, RdS.mono _ _ _⟩, h.2.2.2.2.1, h.2.2.2.2.2.1, h.2.2.2.2.2.2.1, trivial⟩)
 obtain ⟨t2, et2, h3⟩ := bind_of h2; clear h2
 refine s_callP S (fun (ch : W21) => ((.agg [.sl ch.1.1 ((ST37.un t2).1).length ch.1.2 (RdS Y71 ch.1.1 ((ST37.un t2).1)), .sl ch.2.1.1 ((ST37.un t2).2.1).length ch.2.1.2 (RdS Y122 ch.2.1.1 ((ST37.un t2).2.1)), .sl ch.2.2.1.1 ((ST37.un t2).2.2.1).length ch.2.2.1.2 (RdS (Ty.arr .u8 20) ch.2.2.1.1 ((ST37.un t2).2.2.1)), .sl ch.2.2.2.1.1 ((ST37.un t2).2.2.2.1).length ch.2.2.2.1.2 (RdS Y133 ch.2.2.2.1.1 ((ST37.un t2).2.2.2.1)), .one (.int .i64 ((ST37.un t2).2.2.2.2.1)), .sl ch.2.2.2.2.2.1.1 ((ST37.un t2).2.2.2.2.2.1).length ch.2.2.2.2.2.1.2 (RdS Y100 ch.2.2.2.2.2.1.1 ((ST37.un t2).2.2.2.2.2.1)), .one (.bool ((ST37.un t2).2.2.2.2.2.2.1)), .sl ch.2.2.2.2.2.2.2.1 ((ST37.un t2).2.2.2.2.2.2.2).length ch.2.2.2.2.2.2.2.2 (SR37 ch.2.2.2.2.2.2.2.1 ((ST37.un t2).2.2.2.2.2.2.2))]) : D)) N74 rfl rfl (smithyref14_State_With.ok k x1 ((t1.1.1, t1.1.2.1, t1.1.2.2.1, ([] : List Int) ++ x3, t1.1.2.2.2.2), t1.2.1, t1.2.2) ((ch_0_0.1.1, ch_0_0.1.2), (ch_0_0.2.1.1, ch_0_0.2.1.2), (ch_0_0.2.2.1.1, ch_0_0.2.2.1.2), (ch_0_0.2.2.2.1.1, ch_0_0.2.2.2.1.2), (), (ch_0_0.2.2.2.2.2.1.1, ch_0_0.2.2.2.2.2.1.2), (), (ch_0_0.2.2.2.2.2.2.2.1, ch_0_0.2.2.2.2.2.2.2.2)) A1 cp1 ch1.2.2.1 ch1.2.2.2 t2 et2 _ _) ?_; clear S a w; intro ch2 m le1 a w S
 refine s_store S rfl rfl rfl (s' := [.sl ch2.1.1 ((ST37.un t2).1).length ch2.1.2 (RdS Y71 ch2.1.1 ((ST37.un t2).1)), .sl ch2.2.1.1 ((ST37.un t2).2.1).length ch2.2.1.2 (RdS Y122 ch2.2.1.1 ((ST37.un t2).2.1)), .sl ch2.2.2.1.1 ((ST37.un t2).2.2.1).length ch2.2.2.1.2 (RdS (Ty.arr .u8 20) ch2.2.2.1.1 ((ST37.un t2).2.2.1)), .sl ch2.2.2.2.1.1 ((ST37.un t2).2.2.2.1).length ch2.2.2.2.1.2 (RdS Y133 ch2.2.2.2.1.1 ((ST37.un t2).2.2.2.1)), .one (.int .i64 ((ST37.un t2).2.2.2.2.1)), .sl ch2.2.2.2.2.2.1.1 ((ST37.un t2).2.2.2.2.2.1).length ch2.2.2.2.2.2.1.2 (RdS Y100 ch2.2.2.2.2.2.1.1 ((ST37.un t2).2.2.2.2.2.1)), .one (.bool ((ST37.un t2).2.2.2.2.2.2.1)), .sl ch2.2.2.2.2.2.2.2.1 ((ST37.un t2).2.2.2.2.2.2.2).length ch2.2.2.2.2.2.2.2.2 (SR37 ch2.2.2.2.2.2.2.2.1 ((ST37.un t2).2.2.2.2.2.2.2))]) (.there .here) T37 rfl rfl ?_; clear S w; intro w S
 refine c_end ?_
 refine wp_ret ?_
 obtain rfl := Option.some.inj h3
 exact b_ret1 (d := (.agg [.sl ch2.1.1 ((ST37.un t2).1).length ch2.1.2 (RdS Y71 ch2.1.1 ((ST37.un t2).1)), .sl ch2.2.1.1 ((ST37.un t2).2.1).length ch2.2.1.2 (RdS Y122 ch2.2.1.1 ((ST37.un t2).2.1)), .sl ch2.2.2.1.1 ((ST37.un t2).2.2.1).length ch2.2.2.1.2 (RdS (Ty.arr .u8 20) ch2.2.2.1.1 ((ST37.un t2).2.2.1)), .sl ch2.2.2.2.1.1 ((ST37.un t2).2.2.2.1).length ch2.2.2.2.1.2 (RdS Y133 ch2.2.2.2.1.1 ((ST37.un t2).2.2.2.1)), .one (.int .i64 ((ST37.un t2).2.2.2.2.1)), .sl ch2.2.2.2.2.2.1.1 ((ST37.un t2).2.2.2.2.2.1).length ch2.2.2.2.2.2.1.2 (RdS Y100 ch2.2.2.2.2.2.1.1 ((ST37.un t2).2.2.2.2.2.1)), .one (.bool ((ST37.un t2).2.2.2.2.2.2.1)), .sl ch2.2.2.2.2.2.2.2.1 ((ST37.un t2).2.2.2.2.2.2.2).length ch2.2.2.2.2.2.2.2.2 (SR37 ch2.2.2.2.2.2.2.2.1 ((ST37.un t2).2.2.2.2.2.2.2))])) S rfl (resD_cell rfl (.there .here) T37 rfl rfl) fun ok => S.retX (Hx := []) hb _ _ (((ch2.1.1, ch2.1.2), (ch2.2.1.1, ch2.2.1.2), (ch2.2.2.1.1, ch2.2.2.1.2), (ch2.2.2.2.1.1, ch2.2.2.2.1.2), (), (ch2.2.2.2.2.2.1.1, ch2.2.2.2.2.2.1.2), (), (ch2.2.2.2.2.2.2.2.1, ch2.2.2.2.2.2.2.2.2)) : W21) .nil ok
abbrev state_State_Make_0nil.Ty : Type := (List Int) → Option Unit
def state_State_Make_0nil.Ctr (s : state_State_Make_0nil.Ty) : Prop := ∀ (x1 : List Int) (r : Unit) (h0 : s x1 = some r) (mi : Mem) (w0 : World), okL mi [(.v (.pointer none)), (.agg [.ints .u8 x1 20])] → Pre mi [] w0 → Calls Tryz.prog 41 (([(.v (.pointer none)), (.agg [.ints .u8 x1 20])] : List D).map D.val).toArray w0 (RetX mi [] (fun (ch : Unit) => ((.tup []) : D)) (fun (ch : Unit) => []) w0)
def state_State_Make_0nil.f (x1 : List Int) : Option Unit := some ()
theorem state_State_Make_0nil.ok : state_State_Make_0nil.Ctr (state_State_Make_0nil.f) := by
 intro x1 r h0 mi w0 ok hm
 delta state_State_Make_0nil.f at h0
 refine c_enterX (n := 30) [(.v (.pointer none)), (.agg [.ints .u8 x1 20])] (l := [(0, (.v (.pointer none))), (1, (.agg [.ints .u8 x1 20]))]) Tryz.func41 rfl rfl rfl rfl ok hm ?_
 clear ok hm
 intro b0 hb a S
 refine c_region ?_
 refine s_box S rfl rfl rfl ?_; clear S a; intro g1 a w S
 refine c_end ?_
 refine wp_seq ?_
 refine c_region ?_
 refine s_move S rfl rfl ?_; clear S a; intro a S
 refine s_eqp S (b := true) rfl rfl Tryz.underlying26 rfl rfl ?_; clear S a; intro a S
 refine c_end ?_
 refine c_condT S rfl rfl ?_
 refine wp_ret ?_
 refine x_thenR ?_
 obtain rfl := Option.some.inj h0
 exact b_ret0 S rfl (S.retX (Hx := []) hb _ _ (() : Unit) .nil trivial)
abbrev smithyref14_State_Make.Ty : Type := ST37 → (List Int) → Option ST37
def smithyref14_State_Make.Ctr (s : smithyref14_State_Make.Ty) : Prop := ∀ (x1 : ST37) (x2 : List Int) (ch_0_0 : (Option Addr × Nat) × (Option Addr × Nat) × (Option Addr × Nat) × (Option Addr × Nat) × Unit × (Option Addr × Nat) × Unit × (Option Addr × Nat)) (r : ST37) (h0 : s x1 x2 = some r) (mi : Mem) (w0 : World), okL mi [(.agg [.sl ch_0_0.1.1 ((ST37.un x1).1).length ch_0_0.1.2 (RdS Y71 ch_0_0.1.1 ((ST37.un x1).1)), .sl ch_0_0.2.1.1 ((ST37.un x1).2.1).length ch_0_0.2.1.2 (RdS Y122 ch_0_0.2.1.1 ((ST37.un x1).2.1)), .sl ch_0_0.2.2.1.1 ((ST37.un x1).2.2.1).length ch_0_0.2.2.1.2 (RdS (Ty.arr .u8 20) ch_0_0.2.2.1.1 ((ST37.un x1).2.2.1)), .sl ch_0_0.2.2.2.1.1 ((ST37.un x1).2.2.2.1).length ch_0_0.2.2.2.1.2 (RdS Y133 ch_0_0.2.2.2.1.1 ((ST37.un x1).2.2.2.1)), .one (.int .i64 ((ST37.un x1).2.2.2.2.1)), .sl ch_0_0.2.2.2.2.2.1.1 ((ST37.un x1).2.2.2.2.2.1).length ch_0_0.2.2.2.2.2.1.2 (RdS Y100 ch_0_0.2.2.2.2.2.1.1 ((ST37.un x1).2.2.2.2.2.1)), .one (.bool ((ST37.un x1).2.2.2.2.2.2.1)), .sl ch_0_0.2.2.2.2.2.2.2.1 ((ST37.un x1).2.2.2.2.2.2.2).length ch_0_0.2.2.2.2.2.2.2.2 (SR37 ch_0_0.2.2.2.2.2.2.2.1 ((ST37.un x1).2.2.2.2.2.2.2))]), (.agg [.ints .u8 x2 20])] → Pre mi [] w0 → Calls Tryz.prog 42 (([(.agg [.sl ch_0_0.1.1 ((ST37.un x1).1).length ch_0_0.1.2 (RdS Y71 ch_0_0.1.1 ((ST37.un x1).1)), .sl ch_0_0.2.1.1 ((ST37.un x1).2.1).length ch_0_0.2.1.2 (RdS Y122 ch_0_0.2.1.1 ((ST37.un x1).2.1)), .sl ch_0_0.2.2.1.1 ((ST37.un x1).2.2.1).length ch_0_0.2.2.1.2 (RdS (Ty.arr .u8 20) ch_0_0.2.2.1.1 ((ST37.un x1).2.2.1)), .sl ch_0_0.2.2.2.1.1 ((ST37.un x1).2.2.2.1).length ch_0_0.2.2.2.1.2 (RdS Y133 ch_0_0.2.2.2.1.1 ((ST37.un x1).2.2.2.1)), .one (.int .i64 ((ST37.un x1).2.2.2.2.1)), .sl ch_0_0.2.2.2.2.2.1.1 ((ST37.un x1).2.2.2.2.2.1).length ch_0_0.2.2.2.2.2.1.2 (RdS Y100 ch_0_0.2.2.2.2.2.1.1 ((ST37.un x1).2.2.2.2.2.1)), .one (.bool ((ST37.un x1).2.2.2.2.2.2.1)), .sl ch_0_0.2.2.2.2.2.2.2.1 ((ST37.un x1).2.2.2.2.2.2.2).length ch_0_0.2.2.2.2.2.2.2.2 (SR37 ch_0_0.2.2.2.2.2.2.2.1 ((ST37.un x1).2.2.2.2.2.2.2))]), (.agg [.ints .u8 x2 20])] : List D).map D.val).toArray w0 (RetX mi [] (fun (ch : W21) => ((.agg [.sl ch.1.1 ((ST37.un r).1).length ch.1.2 (RdS Y71 ch.1.1 ((ST37.un r).1)), .sl ch.2.1.1 ((ST37.un r).2.1).length ch.2.1.2 (RdS Y122 ch.2.1.1 ((ST37.un r).2.1)), .sl ch.2.2.1.1 ((ST37.un r).2.2.1).length ch.2.2.1.2 (RdS (Ty.arr .u8 20) ch.2.2.1.1 ((ST37.un r).2.2.1)), .sl ch.2.2.2.1.1 ((ST37.un r).2.2.2.1).length ch.2.2.2.1.2 (RdS Y133 ch.2.2.2.1.1 ((ST37.un r).2.2.2.1)), .one (.int .i64 ((ST37.un r).2.2.2.2.1)), .sl ch.2.2.2.2.2.1.1 ((ST37.un r).2.2.2.2.2.1).length ch.2.2.2.2.2.1.2 (RdS Y100 ch.2.2.2.2.2.1.1 ((ST37.un r).2.2.2.2.2.1)), .one (.bool ((ST37.un r).2.2.2.2.2.2.1)), .sl ch.2.2.2.2.2.2.2.1 ((ST37.un r).2.2.2.2.2.2.2).length ch.2.2.2.2.2.2.2.2 (SR37 ch.2.2.2.2.2.2.2.1 ((ST37.un r).2.2.2.2.2.2.2))]) : D)) (fun (ch : W21) => []) w0)
def smithyref14_State_Make.f (k : Nat) (x1 : ST37) (x2 : List Int) : Option ST37 := (smithyref14_State_At.f k x1 x2).bind fun t1 => ((smithyref14_State_With.f k x1 ((t1.1.1, t1.1.2.1, t1.1.2.2.1, t1.1.2.2.2.1, ([] : List ((List Int) × (List Int)))), true, t1.2.2)).bind fun t2 => (some t2))
theorem smithyref14_State_Make.ok (k : Nat) : smithyref14_State_Make.Ctr (smithyref14_State_Make.f k) := by
 intro x1 x2 ch_0_0 r h0 mi w0 ok hm
 delta smithyref14_State_Make.f at h0
 refine c_enterX (n := 16) [(.agg [.sl ch_0_0.1.1 ((ST37.un x1).1).length ch_0_0.1.2 (RdS Y71 ch_0_0.1.1 ((ST37.un x1).1)), .sl ch_0_0.2.1.1 ((ST37.un x1).2.1).length ch_0_0.2.1.2 (RdS Y122 ch_0_0.2.1.1 ((ST37.un x1).2.1)), .sl ch_0_0.2.2.1.1 ((ST37.un x1).2.2.1).length ch_0_0.2.2.1.2 (RdS (Ty.arr .u8 20) ch_0_0.2.2.1.1 ((ST37.un x1).2.2.1)), .sl ch_0_0.2.2.2.1.1 ((ST37.un x1).2.2.2.1).length ch_0_0.2.2.2.1.2 (RdS Y133 ch_0_0.2.2.2.1.1 ((ST37.un x1).2.2.2.1)), .one (.int .i64 ((ST37.un x1).2.2.2.2.1)), .sl ch_0_0.2.2.2.2.2.1.1 ((ST37.un x1).2.2.2.2.2.1).length ch_0_0.2.2.2.2.2.1.2 (RdS Y100 ch_0_0.2.2.2.2.2.1.1 ((ST37.un x1).2.2.2.2.2.1)), .one (.bool ((ST37.un x1).2.2.2.2.2.2.1)), .sl ch_0_0.2.2.2.2.2.2.2.1 ((ST37.un x1).2.2.2.2.2.2.2).length ch_0_0.2.2.2.2.2.2.2.2 (SR37 ch_0_0.2.2.2.2.2.2.2.1 ((ST37.un x1).2.2.2.2.2.2.2))]), (.agg [.ints .u8 x2 20])] (l := [(0, (.agg [.sl ch_0_0.1.1 ((ST37.un x1).1).length ch_0_0.1.2 (RdS Y71 ch_0_0.1.1 ((ST37.un x1).1)), .sl ch_0_0.2.1.1 ((ST37.un x1).2.1).length ch_0_0.2.1.2 (RdS Y122 ch_0_0.2.1.1 ((ST37.un x1).2.1)), .sl ch_0_0.2.2.1.1 ((ST37.un x1).2.2.1).length ch_0_0.2.2.1.2 (RdS (Ty.arr .u8 20) ch_0_0.2.2.1.1 ((ST37.un x1).2.2.1)), .sl ch_0_0.2.2.2.1.1 ((ST37.un x1).2.2.2.1).length ch_0_0.2.2.2.1.2 (RdS Y133 ch_0_0.2.2.2.1.1 ((ST37.un x1).2.2.2.1)), .one (.int .i64 ((ST37.un x1).2.2.2.2.1)), .sl ch_0_0.2.2.2.2.2.1.1 ((ST37.un x1).2.2.2.2.2.1).length ch_0_0.2.2.2.2.2.1.2 (RdS Y100 ch_0_0.2.2.2.2.2.1.1 ((ST37.un x1).2.2.2.2.2.1)), .one (.bool ((ST37.un x1).2.2.2.2.2.2.1)), .sl ch_0_0.2.2.2.2.2.2.2.1 ((ST37.un x1).2.2.2.2.2.2.2).length ch_0_0.2.2.2.2.2.2.2.2 (SR37 ch_0_0.2.2.2.2.2.2.2.1 ((ST37.un x1).2.2.2.2.2.2.2))])), (1, (.agg [.ints .u8 x2 20]))]) Tryz.func42 rfl rfl rfl rfl ok hm ?_
 clear ok hm
 intro b0 hb a S
 refine c_region ?_
 refine s_box S rfl rfl rfl ?_; clear S a; intro g1 a w S
 refine s_box S rfl rfl rfl ?_; clear S a w; intro g2 a w S
 refine s_alloc S Z37 rfl ⟨rfl, rfl, rfl, rfl, rfl, rfl, rfl, rfl, trivial⟩ rfl ?_; clear S a w; intro g3 a w S
 refine c_end ?_
 refine c_region ?_
 refine s_loada S rfl (.there (.there .here)) T37 (s' := [.sl ch_0_0.1.1 ((ST37.un x1).1).length ch_0_0.1.2 (RdS Y71 ch_0_0.1.1 ((ST37.un x1).1)), .sl ch_0_0.2.1.1 ((ST37.un x1).2.1).length ch_0_0.2.1.2 (RdS Y122 ch_0_0.2.1.1 ((ST37.un x1).2.1)), .sl ch_0_0.2.2.1.1 ((ST37.un x1).2.2.1).length ch_0_0.2.2.1.2 (RdS (Ty.arr .u8 20) ch_0_0.2.2.1.1 ((ST37.un x1).2.2.1)), .sl ch_0_0.2.2.2.1.1 ((ST37.un x1).2.2.2.1).length ch_0_0.2.2.2.1.2 (RdS Y133 ch_0_0.2.2.2.1.1 ((ST37.un x1).2.2.2.1)), .one (.int .i64 ((ST37.un x1).2.2.2.2.1)), .sl ch_0_0.2.2.2.2.2.1.1 ((ST37.un x1).2.2.2.2.2.1).length ch_0_0.2.2.2.2.2.1.2 (RdS Y100 ch_0_0.2.2.2.2.2.1.1 ((ST37.un x1).2.2.2.2.2.1)), .one (.bool ((ST37.un x1).2.2.2.2.2.2.1)), .sl ch_0_0.2.2.2.2.2.2.2.1 ((ST37.un x1).2.2.2.2.2.2.2).length ch_0_0.2.2.2.2.2.2.2.2 (SR37 ch_0_0.2.2.2.2.2.2.2.1 ((ST37.un x1).2.2.2.2.2.2.2))]) rfl rfl ?_; clear S a; intro a S
 refine s_loada S rfl (.there .here) T40 (s' := [.ints .u8 x2 20]) rfl rfl ?_; clear S a; intro a S
 obtain ⟨t1, et1, h1⟩ := bind_of h0; clear h0
 refine s_callP S (fun (ch : W4) => ((.agg (Y122.segs t1 (((), (), (), (ch.1, ch.2.1), (ch.2.2.1, ch.2.2.2)), (), ()))) : D)) N64 rfl rfl (smithyref14_State_At.ok k x1 x2 ((ch_0_0.1.1, ch_0_0.1.2), (ch_0_0.2.1.1, ch_0_0.2.1.2), (ch_0_0.2.2.1.1, ch_0_0.2.2.1.2), (ch_0_0.2.2.2.1.1, ch_0_0.2.2.2.1.2), (), (ch_0_0.2.2.2.2.2.1.1, ch_0_0.2.2.2.2.2.1.2), (), (ch_0_0.2.2.2.2.2.2.2.1, ch_0_0.2.2.2.2.2.2.2.2)) t1 et1 _ _) ?_; clear S a w; intro ch1 m le1 a w S
 refine s_alloc S Z122 rfl ⟨rfl, rfl, rfl, rfl, rfl, rfl, rfl, trivial⟩ rfl ?_; clear S a w; intro g4 a w S
 refine s_store S rfl rfl rfl (s' := [.ints .u8 t1.1.1 20, .one (.int .u64 t1.1.2.1), .ints .u64 t1.1.2.2.1 4, .sl ch1.1 (t1.1.2.2.2.1).length ch1.2.1 (RdS (Ty.int .u8) ch1.1 t1.1.2.2.2.1), .sl ch1.2.2.1 (t1.1.2.2.2.2).length ch1.2.2.2 (RdS Y83 ch1.2.2.1 t1.1.2.2.2.2), .one (.bool t1.2.1), .one (.bool t1.2.2)]) .here T122 rfl rfl ?_; clear S w; intro w S
 refine c_end ?_
 refine c_region ?_
 refine s_fieldAddr S rfl I122_1 T4 (by decide) rfl rfl ?_; clear S a; intro a S
 refine s_store S rfl rfl rfl (s' := [.ints .u8 t1.1.1 20, .one (.int .u64 t1.1.2.1), .ints .u64 t1.1.2.2.1 4, .sl ch1.1 (t1.1.2.2.2.1).length ch1.2.1 (RdS (Ty.int .u8) ch1.1 t1.1.2.2.2.1), .sl ch1.2.2.1 (t1.1.2.2.2.2).length ch1.2.2.2 (RdS Y83 ch1.2.2.1 t1.1.2.2.2.2), .one (.bool true), .one (.bool t1.2.2)]) .here T4 rfl rfl ?_; clear S w; intro w S
 refine c_end ?_
 refine c_region ?_
 refine s_bldSl S (ty' := Y83) (ds := []) (z := ([0, 0, 0, 0], [0, 0, 0, 0])) (c0 := ((), ())) (ys := ([] : List ((List Int) × (List Int)))) (cs := []) rfl Tryz.underlying69 J83 Z83 rfl ⟨rfl, rfl, trivial⟩ rfl rfl rfl rfl rfl rfl ?_; clear S a w; intro g5 a w S
 refine s_fieldAddr S rfl I122_0 T71 (by decide) rfl rfl ?_; clear S a; intro a S
 refine s_fieldAddr S rfl I71_4 T69 (by decide) rfl rfl ?_; clear S a; intro a S
 refine s_store S rfl rfl rfl (s' := [.ints .u8 t1.1.1 20, .one (.int .u64 t1.1.2.1), .ints .u64 t1.1.2.2.1 4, .sl ch1.1 (t1.1.2.2.2.1).length ch1.2.1 (RdS (Ty.int .u8) ch1.1 t1.1.2.2.2.1), .one (.slice (some ⟨g5, 0, none⟩) 0 0), .one (.bool true), .one (.bool t1.2.2)]) (.there .here) T69 rfl rfl ?_; clear S w; intro w S
 refine c_end ?_
 refine c_region ?_
 refine s_loada S rfl (.there (.there (.there (.there .here)))) T37 (s' := [.sl ch_0_0.1.1 ((ST37.un x1).1).length ch_0_0.1.2 (RdS Y71 ch_0_0.1.1 ((ST37.un x1).1)), .sl ch_0_0.2.1.1 ((ST37.un x1).2.1).length ch_0_0.2.1.2 (RdS Y122 ch_0_0.2.1.1 ((ST37.un x1).2.1)), .sl ch_0_0.2.2.1.1 ((ST37.un x1).2.2.1).length ch_0_0.2.2.1.2 (RdS (Ty.arr .u8 20) ch_0_0.2.2.1.1 ((ST37.un x1).2.2.1)), .sl ch_0_0.2.2.2.1.1 ((ST37.un x1).2.2.2.1).length ch_0_0.2.2.2.1.2 (RdS Y133 ch_0_0.2.2.2.1.1 ((ST37.un x1).2.2.2.1)), .one (.int .i64 ((ST37.un x1).2.2.2.2.1)), .sl ch_0_0.2.2.2.2.2.1.1 ((ST37.un x1).2.2.2.2.2.1).length ch_0_0.2.2.2.2.2.1.2 (RdS Y100 ch_0_0.2.2.2.2.2.1.1 ((ST37.un x1).2.2.2.2.2.1)), .one (.bool ((ST37.un x1).2.2.2.2.2.2.1)), .sl ch_0_0.2.2.2.2.2.2.2.1 ((ST37.un x1).2.2.2.2.2.2.2).length ch_0_0.2.2.2.2.2.2.2.2 (SR37 ch_0_0.2.2.2.2.2.2.2.1 ((ST37.un x1).2.2.2.2.2.2.2))]) rfl rfl ?_; clear S a; intro a S
 refine s_loada S rfl (.there .here) T122 (s' := [.ints .u8 t1.1.1 20, .one (.int .u64 t1.1.2.1), .ints .u64 t1.1.2.2.1 4, .sl ch1.1 (t1.1.2.2.2.1).length ch1.2.1 (RdS (Ty.int .u8) ch1.1 t1.1.2.2.2.1), .one (.slice (some ⟨g5, 0, none⟩) 0 0), .one (.bool true), .one (.bool t1.2.2)]) rfl rfl ?_; clear S a; intro a S
 replace S := S.rowfro .here
 obtain ⟨m, le1, S, hro⟩ := S
 replace S := S.slot (u := 14) (d' := (.agg [.ints .u8 t1.1.1 20, .one (.int .u64 t1.1.2.1), .ints .u64 t1.1.2.2.1 4, .sl ch1.1 (t1.1.2.2.2.1).length ch1.2.1 (RdS (Ty.int .u8) ch1.1 t1.1.2.2.2.1), .sl (some ⟨g5, 0, none⟩) (([] : List ((List Int) × (List Int)))).length 0 (RdS Y83 (some ⟨g5, 0, none⟩) ([] : List ((List Int) × (List Int)))), .one (.bool true), .one (.bool t1.2.2)])) rfl (by simp [D.val, pd, cellsOf, Seg.cells, hro.2.1]) (by have h := (S.get 14 (.agg [.ints .u8 t1.1.1 20, .one (.int .u64 t1.1.2.1), .ints .u64 t1.1.2.2.1 4, .sl ch1.1 (t1.1.2.2.2.1).length ch1.2.1 (RdS (Ty.int .u8) ch1.1 t1.1.2.2.2.1), .one (.slice (some ⟨g5, 0, none⟩) 0 0), .one (.bool true), .one (.bool t1.2.2)]) rfl).2; exact ⟨h.1, h.2.1, h.2.2.1, h.2.2.2.1, ⟨by have := hro.2.2.1; omega, hro.2.2.2, hro.1, RdS.mono _ _ _⟩, h.2.2.2.2.2.1, h.2.2.2.2.2.2.1, trivial⟩)
 replace S := S.slotro (u := 10) rfl hro
 replace S := S.cellro (s' := [.ints .u8 t1.1.1 20, .one (.int .u64 t1.1.2.1), .ints .u64 t1.1.2.2.1 4, .sl ch1.1 (t1.1.2.2.2.1).length ch1.2.1 (RdS (Ty.int .u8) ch1.1 t1.1.2.2.2.1), .sl (some ⟨g5, 0, none⟩) (([] : List ((List Int) × (List Int)))).length 0 (RdS Y83 (some ⟨g5, 0, none⟩) ([] : List ((List Int) × (List Int)))), .one (.bool true), .one (.bool t1.2.2)]) .here (by simp [cellsOf, Seg.cells, hro.2.1]) (fun h => ⟨h.1, h.2.1, h.2.2.1, h.2.2.2.1, ⟨by have := hro.2.2.1; omega, hro.2.2.2, hro.1, RdS.mono _ _ _⟩, h.2.2.2.2.2.1, h.2.2.2.2.2.2.1, trivial⟩)
 obtain ⟨t2, et2, h2⟩ := bind_of h1; clear h1
 refine s_callP S (fun (ch : W21) => ((.agg [.sl ch.1.1 ((ST37.un t2).1).length ch.1.2 (RdS Y71 ch.1.1 ((ST37.un t2).1)), .sl ch.2.1.1 ((ST37.un t2).2.1).length ch.2.1.2 (RdS Y122 ch.2.1.1 ((ST37.un t2).2.1)), .sl ch.2.2.1.1 ((ST37.un t2).2.2.1).length ch.2.2.1.2 (RdS (Ty.arr .u8 20) ch.2.2.1.1 ((ST37.un t2).2.2.1)), .sl ch.2.2.2.1.1 ((ST37.un t2).2.2.2.1).length ch.2.2.2.1.2 (RdS Y133 ch.2.2.2.1.1 ((ST37.un t2).2.2.2.1)), .one (.int .i64 ((ST37.un t2).2.2.2.2.1)), .sl ch.2.2.2.2.2.1.1 ((ST37.un t2).2.2.2.2.2.1).length ch.2.2.2.2.2.1.2 (RdS Y100 ch.2.2.2.2.2.1.1 ((ST37.un t2).2.2.2.2.2.1)), .one (.bool ((ST37.un t2).2.2.2.2.2.2.1)), .sl ch.2.2.2.2.2.2.2.1 ((ST37.un t2).2.2.2.2.2.2.2).length ch.2.2.2.2.2.2.2.2 (SR37 ch.2.2.2.2.2.2.2.1 ((ST37.un t2).2.2.2.2.2.2.2))]) : D)) N74 rfl rfl (smithyref14_State_With.ok k x1 ((t1.1.1, t1.1.2.1, t1.1.2.2.1, t1.1.2.2.2.1, ([] : List ((List Int) × (List Int)))), true, t1.2.2) ((ch_0_0.1.1, ch_0_0.1.2), (ch_0_0.2.1.1, ch_0_0.2.1.2), (ch_0_0.2.2.1.1, ch_0_0.2.2.1.2), (ch_0_0.2.2.2.1.1, ch_0_0.2.2.2.1.2), (), (ch_0_0.2.2.2.2.2.1.1, ch_0_0.2.2.2.2.2.1.2), (), (ch_0_0.2.2.2.2.2.2.2.1, ch_0_0.2.2.2.2.2.2.2.2)) ch1.1 ch1.2.1 (some ⟨g5, 0, none⟩) 0 t2 et2 _ _) ?_; clear S a w; intro ch2 m le1 a w S
 refine s_store S rfl rfl rfl (s' := [.sl ch2.1.1 ((ST37.un t2).1).length ch2.1.2 (RdS Y71 ch2.1.1 ((ST37.un t2).1)), .sl ch2.2.1.1 ((ST37.un t2).2.1).length ch2.2.1.2 (RdS Y122 ch2.2.1.1 ((ST37.un t2).2.1)), .sl ch2.2.2.1.1 ((ST37.un t2).2.2.1).length ch2.2.2.1.2 (RdS (Ty.arr .u8 20) ch2.2.2.1.1 ((ST37.un t2).2.2.1)), .sl ch2.2.2.2.1.1 ((ST37.un t2).2.2.2.1).length ch2.2.2.2.1.2 (RdS Y133 ch2.2.2.2.1.1 ((ST37.un t2).2.2.2.1)), .one (.int .i64 ((ST37.un t2).2.2.2.2.1)), .sl ch2.2.2.2.2.2.1.1 ((ST37.un t2).2.2.2.2.2.1).length ch2.2.2.2.2.2.1.2 (RdS Y100 ch2.2.2.2.2.2.1.1 ((ST37.un t2).2.2.2.2.2.1)), .one (.bool ((ST37.un t2).2.2.2.2.2.2.1)), .sl ch2.2.2.2.2.2.2.2.1 ((ST37.un t2).2.2.2.2.2.2.2).length ch2.2.2.2.2.2.2.2.2 (SR37 ch2.2.2.2.2.2.2.2.1 ((ST37.un t2).2.2.2.2.2.2.2))]) (.there .here) T37 rfl rfl ?_; clear S w; intro w S
 refine c_end ?_
 refine wp_ret ?_
 obtain rfl := Option.some.inj h2
 exact b_ret1 (d := (.agg [.sl ch2.1.1 ((ST37.un t2).1).length ch2.1.2 (RdS Y71 ch2.1.1 ((ST37.un t2).1)), .sl ch2.2.1.1 ((ST37.un t2).2.1).length ch2.2.1.2 (RdS Y122 ch2.2.1.1 ((ST37.un t2).2.1)), .sl ch2.2.2.1.1 ((ST37.un t2).2.2.1).length ch2.2.2.1.2 (RdS (Ty.arr .u8 20) ch2.2.2.1.1 ((ST37.un t2).2.2.1)), .sl ch2.2.2.2.1.1 ((ST37.un t2).2.2.2.1).length ch2.2.2.2.1.2 (RdS Y133 ch2.2.2.2.1.1 ((ST37.un t2).2.2.2.1)), .one (.int .i64 ((ST37.un t2).2.2.2.2.1)), .sl ch2.2.2.2.2.2.1.1 ((ST37.un t2).2.2.2.2.2.1).length ch2.2.2.2.2.2.1.2 (RdS Y100 ch2.2.2.2.2.2.1.1 ((ST37.un t2).2.2.2.2.2.1)), .one (.bool ((ST37.un t2).2.2.2.2.2.2.1)), .sl ch2.2.2.2.2.2.2.2.1 ((ST37.un t2).2.2.2.2.2.2.2).length ch2.2.2.2.2.2.2.2.2 (SR37 ch2.2.2.2.2.2.2.2.1 ((ST37.un t2).2.2.2.2.2.2.2))])) S rfl (resD_cell rfl (.there .here) T37 rfl rfl) fun ok => S.retX (Hx := []) hb _ _ (((ch2.1.1, ch2.1.2), (ch2.2.1.1, ch2.2.1.2), (ch2.2.2.1.1, ch2.2.2.1.2), (ch2.2.2.2.1.1, ch2.2.2.2.1.2), (), (ch2.2.2.2.2.2.1.1, ch2.2.2.2.2.2.1.2), (), (ch2.2.2.2.2.2.2.2.1, ch2.2.2.2.2.2.2.2.2)) : W21) .nil ok
abbrev state_State_Set_0nil.Ty : Type := (List Int) → (List Int) → (List Int) → Option Unit
def state_State_Set_0nil.Ctr (s : state_State_Set_0nil.Ty) : Prop := ∀ (x1 : List Int) (x2 : List Int) (x3 : List Int) (r : Unit) (h0 : s x1 x2 x3 = some r) (mi : Mem) (w0 : World), okL mi [(.v (.pointer none)), (.agg [.ints .u8 x1 20]), (.agg [.ints .u64 x2 4]), (.agg [.ints .u64 x3 4])] → Pre mi [] w0 → Calls Tryz.prog 32 (([(.v (.pointer none)), (.agg [.ints .u8 x1 20]), (.agg [.ints .u64 x2 4]), (.agg [.ints .u64 x3 4])] : List D).map D.val).toArray w0 (RetX mi [] (fun (ch : Unit) => ((.tup []) : D)) (fun (ch : Unit) => []) w0)
def state_State_Set_0nil.f (x1 : List Int) (x2 : List Int) (x3 : List Int) : Option Unit := some ()
theorem state_State_Set_0nil.ok : state_State_Set_0nil.Ctr (state_State_Set_0nil.f) := by
 intro x1 x2 x3 r h0 mi w0 ok hm
 delta state_State_Set_0nil.f at h0
 refine c_enterX (n := 31) [(.v (.pointer none)), (.agg [.ints .u8 x1 20]), (.agg [.ints .u64 x2 4]), (.agg [.ints .u64 x3 4])] (l := [(0, (.v (.pointer none))), (1, (.agg [.ints .u8 x1 20])), (2, (.agg [.ints .u64 x2 4])), (3, (.agg [.ints .u64 x3 4]))]) Tryz.func32 rfl rfl rfl rfl ok hm ?_
 clear ok hm
 intro b0 hb a S
 refine c_region ?_
 refine s_box S rfl rfl rfl ?_; clear S a; intro g1 a w S
 refine s_box S rfl rfl rfl ?_; clear S a w; intro g2 a w S
 refine s_box S rfl rfl rfl ?_; clear S a w; intro g3 a w S
 refine c_end ?_
 refine wp_seq ?_
 refine c_region ?_
 refine s_move S rfl rfl ?_; clear S a; intro a S
 refine s_eqp S (b := true) rfl rfl Tryz.underlying26 rfl rfl ?_; clear S a; intro a S
 refine c_end ?_
 refine c_condT S rfl rfl ?_
 refine wp_ret ?_
 refine x_thenR ?_
 obtain rfl := Option.some.inj h0
 exact b_ret0 S rfl (S.retX (Hx := []) hb _ _ (() : Unit) .nil trivial)
abbrev smithyref01_Of.Ty : Type := (List Int) → Option (List Int)
def smithyref01_Of.Ctr (s : smithyref01_Of.Ty) : Prop := ∀ (x1 : List Int) (r : List Int) (h0 : s x1 = some r) (mi : Mem) (w0 : World), okL mi [(.agg [.ints .u64 x1 4])] → Pre mi [] w0 → Calls Tryz.prog 79 (([(.agg [.ints .u64 x1 4])] : List D).map D.val).toArray w0 (RetX mi [] (fun (ch : Unit) => ((.agg [.ints .i64 r 32]) : D)) (fun (ch : Unit) => []) w0)
def smithyref01_Of.j1 (y1 : List Int) : Option (List Int) := some y1
def smithyref01_Of.b1 (x1 : List Int) (rec1 : Int → (List Int) → Option (List Int)) (y4 : Int) (y5 : List Int) : Option (List Int) := if (decide (y4 < 32)) = true then (if (0 : Int) ≤ (wr .i64 (Int.tdiv y4 8)) ∧ (wr .i64 (Int.tdiv y4 8)) < 4 then (if (0 : Int) ≤ (wr .i64 (8 * (Int.tmod y4 8))) then (if (0 : Int) ≤ y4 ∧ y4 < 32 then (rec1 (wr .i64 (y4 + 1)) (y5.set (Int.toNat y4) (wr .i64 (Int.tmod (shr (rd x1 (wr .i64 (Int.tdiv y4 8))) (min (Int.toNat (wr .i64 (8 * (Int.tmod y4 8)))) 64)) 256)))) else none) else none) else none) else (smithyref01_Of.j1 y5)
def smithyref01_Of.l1 (x1 : List Int) : Nat → Int → (List Int) → Option (List Int)
  | 0, _, _ => none
  | q + 1, y4, y5 => smithyref01_Of.b1 x1 (smithyref01_Of.l1 x1 q) y4 y5
def smithyref01_Of.f (k : Nat) (x1 : List Int) : Option (List Int) := smithyref01_Of.l1 x1 k 0 [0, 0, 0, 0, 0, 0, 0, 0, 0, 0, 0, 0, 0, 0, 0, 0, 0, 0, 0, 0, 0, 0, 0, 0, 0, 0, 0, 0, 0, 0, 0, 0]
theorem smithyref01_Of.ok (k : Nat) : smithyref01_Of.Ctr (smithyref01_Of.f k) := by
 intro x1 r h0 mi w0 ok hm
 delta smithyref01_Of.f at h0
 refine c_enterX (n := 23) [(.agg [.ints .u64 x1 4])] (l := [(0, (.agg [.ints .u64 x1 4]))]) Tryz.func79 rfl rfl rfl rfl ok hm ?_
 clear ok hm
 intro b0 hb a S
 refine c_region ?_
 refine s_box S rfl rfl rfl ?_; clear S a; intro g1 a w S
 refine s_alloc S Z129 rfl ⟨rfl, trivial⟩ rfl ?_; clear S a w; intro g2 a w S
 refine c_end ?_
 refine c_region ?_
 refine s_build S (ds := []) (dv := (.agg [.ints .i64 [0, 0, 0, 0, 0, 0, 0, 0, 0, 0, 0, 0, 0, 0, 0, 0, 0, 0, 0, 0, 0, 0, 0, 0, 0, 0, 0, 0, 0, 0, 0, 0] 32])) rfl (fun _ => by kernel_rfl) ⟨rfl, trivial⟩ rfl ?_; clear S a; intro a S
 refine s_alloc S Z129 rfl ⟨rfl, trivial⟩ rfl ?_; clear S a w; intro g3 a w S
 refine s_store S rfl rfl rfl (s' := [.ints .i64 [0, 0, 0, 0, 0, 0, 0, 0, 0, 0, 0, 0, 0, 0, 0, 0, 0, 0, 0, 0, 0, 0, 0, 0, 0, 0, 0, 0, 0, 0, 0, 0] 32]) .here T129 rfl rfl ?_; clear S w; intro w S
 refine c_end ?_
 refine wp_seq_k ?_
 intro K1 hK1
 have j1 : ∀ (m : Mem) (g13 : Nat) (g14 : Nat) (y1 : List Int) (a : Act) (w : World), St 23 m b0 [(3, (.v (.pointer (some ⟨g13, 0, none⟩)))), (2, (.v (.pointer (some ⟨g14, 0, none⟩))))] [Res.cells g13 129 [.ints .i64 y1 32], Res.cells g14 129 [.ints .i64 [0, 0, 0, 0, 0, 0, 0, 0, 0, 0, 0, 0, 0, 0, 0, 0, 0, 0, 0, 0, 0, 0, 0, 0, 0, 0, 0, 0, 0, 0, 0, 0] 32]] a w → smithyref01_Of.j1 y1 = some r → K1 a w := by
  intro m g13 g14 y1 a w S h0
  delta smithyref01_Of.j1 at h0
  refine hK1 a w ?_
  refine c_region ?_
  refine s_loada S rfl .here T129 (s' := [.ints .i64 y1 32]) rfl rfl ?_; clear S a; intro a S
  refine s_store S rfl rfl rfl (s' := [.ints .i64 y1 32]) (.there .here) T129 rfl rfl ?_; clear S w; intro w S
  refine c_end ?_
  refine wp_ret ?_
  obtain rfl := Option.some.inj h0
  exact b_ret1 (d := (.agg [.ints .i64 y1 32])) S rfl (resD_cell rfl (.there .here) T129 rfl rfl) fun ok => S.retX (Hx := []) hb _ _ (() : Unit) .nil ok
 refine c_region ?_
 refine s_assign S rfl rfl ?_; clear S a; intro a S
 refine c_end ?_
 refine wp_block ?_
 refine c_loop (fun q1 a w => ∃ (m : Mem) (y4 : Int) (g21 : Nat) (g22 : Nat) (g23 : Nat) (y5 : List Int), St 23 m b0 [(4, (.v (.int .i64 y4))), (3, (.v (.pointer (some ⟨g21, 0, none⟩)))), (2, (.v (.pointer (some ⟨g22, 0, none⟩)))), (1, (.v (.pointer (some ⟨g23, 0, none⟩))))] [Res.cells g21 129 [.ints .i64 y5 32], Res.cells g22 129 [.ints .i64 [0, 0, 0, 0, 0, 0, 0, 0, 0, 0, 0, 0, 0, 0, 0, 0, 0, 0, 0, 0, 0, 0, 0, 0, 0, 0, 0, 0, 0, 0, 0, 0] 32], Res.cells g23 43 [.ints .u64 x1 4]] a w ∧ smithyref01_Of.l1 x1 q1 y4 y5 = some r) ?_ ?_ (k := k) ⟨_, 0, g3, g2, g1, [0, 0, 0, 0, 0, 0, 0, 0, 0, 0, 0, 0, 0, 0, 0, 0, 0, 0, 0, 0, 0, 0, 0, 0, 0, 0, 0, 0, 0, 0, 0, 0], (S.sub (subR rfl) (.cons .here (.cons .here (.cons .here .nil)))), h0⟩
 ·rintro a w ⟨m, y4, g21, g22, g23, y5, S, h0⟩
  exact (nomatch (show (none : Option (List Int)) = some r from h0))
 ·clear S h0
  rintro q1 a w ⟨m, y4, g21, g22, g23, y5, S, h0⟩
  replace h0 : smithyref01_Of.b1 x1 (smithyref01_Of.l1 x1 q1) y4 y5 = some r := h0
  delta smithyref01_Of.b1 at h0
  refine wp_seq ?_
  refine c_region ?_
  refine s_move S rfl rfl ?_; clear S a; intro a S
  refine s_bin S rfl rfl rfl rfl ?_; clear S a; intro a S
  refine c_end ?_
  rcases ite_of h0 with ⟨c1, h1⟩ | ⟨c1, h1⟩ <;> clear h0
  ·refine c_condT S rfl c1 ?_
   refine wp_skip ?_
   refine x_thenN ?_
   refine wp_seq ?_
   refine wp_block ?_
   refine c_region' ?_
   refine s_move S rfl rfl ?_; clear S a; intro a S
   refine s_move S rfl rfl ?_; clear S a; intro a S
   refine s_quo S rfl rfl (by decide) rfl ?_; clear S a; intro a S
   obtain ⟨c2, h2⟩ := chk_of h1; clear h1
   refine s_iaddr S rfl rfl Tryz.underlying43 T41 c2.1 c2.2 (mul1 _ _) rfl ?_; clear S a; intro a S
   refine s_loadi S (i := (wr .i64 (Int.tdiv y4 8))) rfl (.there (.there .here)) T41 .here rfl c2.1 c2.2 rfl ?_; clear S a; intro a S
   refine s_move S rfl rfl ?_; clear S a; intro a S
   refine s_rem S rfl rfl (by decide) rfl ?_; clear S a; intro a S
   refine s_bin S rfl rfl rfl rfl ?_; clear S a; intro a S
   obtain ⟨c3, h3⟩ := chk_of h2; clear h2
   refine s_shr S (e := (min (Int.toNat (wr .i64 (8 * (Int.tmod y4 8)))) 64)) rfl rfl c3 rfl rfl ?_; clear S a; intro a S
   refine s_rem S rfl rfl (by decide) rfl ?_; clear S a; intro a S
   refine s_conv S rfl rfl Tryz.underlying3 rfl ?_; clear S a; intro a S
   obtain ⟨c4, h4⟩ := chk_of h3; clear h3
   refine s_iaddr S rfl rfl Tryz.underlying129 T3 c4.1 c4.2 (mul1 _ _) rfl ?_; clear S a; intro a S
   refine s_storei S (i := y4) rfl rfl .here T3 .here rfl c4.1 c4.2 ?_; clear S w; intro w S
   refine c_end' ?_
   refine x_blockN ?_
   refine x_thenN ?_
   refine c_region' ?_
   refine s_move S rfl rfl ?_; clear S a; intro a S
   refine s_bin S rfl rfl rfl rfl ?_; clear S a; intro a S
   refine s_assign S rfl rfl ?_; clear S a; intro a S
   refine c_end' ?_
   refine x_thenN ?_
   exact ⟨_, (wr .i64 (y4 + 1)), g21, g22, g23, (y5.set (Int.toNat y4) (wr .i64 (Int.tmod (shr (rd x1 (wr .i64 (Int.tdiv y4 8))) (min (Int.toNat (wr .i64 (8 * (Int.tmod y4 8)))) 64)) 256))), (S.sub (subR rfl) (.cons .here (.cons .here (.cons .here .nil)))), h4⟩
  ·refine c_condF S rfl c1 ?_
   refine wp_exit ?_
   refine x_thenX ?_
   refine x_thenX ?_
   refine x_blockX ?_
   refine x_thenN ?_
   exact j1 _ g21 g22 y5 a w (S.sub (subR rfl) (.cons .here (.cons .here .nil))) h1
abbrev smithyref01_Compare.Ty : Type := (List Int) → (List Int) → Option Int
def smithyref01_Compare.Ctr (s : smithyref01_Compare.Ty) : Prop := ∀ (x1 : List Int) (x2 : List Int) (r : Int) (h0 : s x1 x2 = some r) (mi : Mem) (w0 : World), okL mi [(.agg [.ints .i64 x1 32]), (.agg [.ints .i64 x2 32])] → Pre mi [] w0 → Calls Tryz.prog 78 (([(.agg [.ints .i64 x1 32]), (.agg [.ints .i64 x2 32])] : List D).map D.val).toArray w0 (RetX mi [] (fun (ch : Unit) => ((.v (.int .i64 r)) : D)) (fun (ch : Unit) => []) w0)
def smithyref01_Compare.j1 : Option Int := some 0
def smithyref01_Compare.b1 (x1 : List Int) (x2 : List Int) (rec1 : Int → Option Int) (y1 : Int) : Option Int := if (decide (0 ≤ y1)) = true then (if (0 : Int) ≤ y1 ∧ y1 < 32 then (if (decide ((rd x1 y1) < (rd x2 y1))) = true then (some (-1)) else (if (decide ((rd x2 y1) < (rd x1 y1))) = true then (some 1) else (rec1 (wr .i64 (y1 - 1))))) else none) else smithyref01_Compare.j1
def smithyref01_Compare.l1 (x1 : List Int) (x2 : List Int) : Nat → Int → Option Int
  | 0, _ => none
  | q + 1, y1 => smithyref01_Compare.b1 x1 x2 (smithyref01_Compare.l1 x1 x2 q) y1
def smithyref01_Compare.f (k : Nat) (x1 : List Int) (x2 : List Int) : Option Int := smithyref01_Compare.l1 x1 x2 k 31
theorem smithyref01_Compare.ok (k : Nat) : smithyref01_Compare.Ctr (smithyref01_Compare.f k) := by
 intro x1 x2 r h0 mi w0 ok hm
 delta smithyref01_Compare.f at h0
 refine c_enterX (n := 24) [(.agg [.ints .i64 x1 32]), (.agg [.ints .i64 x2 32])] (l := [(0, (.agg [.ints .i64 x1 32])), (1, (.agg [.ints .i64 x2 32]))]) Tryz.func78 rfl rfl rfl rfl ok hm ?_
 clear ok hm
 intro b0 hb a S
 refine c_region ?_
 refine s_box S rfl rfl rfl ?_; clear S a; intro g1 a w S
 refine s_box S rfl rfl rfl ?_; clear S a w; intro g2 a w S
 refine s_assign S rfl rfl ?_; clear S a; intro a S
 refine c_end ?_
 refine wp_seq_k ?_
 intro K1 hK1
 have j1 : ∀ (m : Mem) (a : Act) (w : World), St 24 m b0 [] [] a w → smithyref01_Compare.j1 = some r → K1 a w := by
  intro m a w S h0
  delta smithyref01_Compare.j1 at h0
  refine hK1 a w ?_
  refine c_region ?_
  refine s_assign S rfl rfl ?_; clear S a; intro a S
  refine c_end ?_
  refine wp_ret ?_
  obtain rfl := Option.some.inj h0
  exact b_ret1 (d := (.v (.int .i64 0))) S rfl rfl fun ok => S.retX (Hx := []) hb _ _ (() : Unit) .nil ok
 refine c_region ?_
 refine s_assign S rfl rfl ?_; clear S a; intro a S
 refine c_end ?_
 refine wp_block ?_
 refine c_loop (fun q1 a w => ∃ (m : Mem) (y1 : Int) (g13 : Nat) (g14 : Nat), St 24 m b0 [(5, (.v (.int .i64 y1))), (3, (.v (.pointer (some ⟨g13, 0, none⟩)))), (2, (.v (.pointer (some ⟨g14, 0, none⟩))))] [Res.cells g13 129 [.ints .i64 x2 32], Res.cells g14 129 [.ints .i64 x1 32]] a w ∧ smithyref01_Compare.l1 x1 x2 q1 y1 = some r) ?_ ?_ (k := k) ⟨_, 31, g2, g1, (S.sub (subR rfl) (.cons .here (.cons .here .nil))), h0⟩
 ·rintro a w ⟨m, y1, g13, g14, S, h0⟩
  exact (nomatch (show (none : Option Int) = some r from h0))
 ·clear S h0
  rintro q1 a w ⟨m, y1, g13, g14, S, h0⟩
  replace h0 : smithyref01_Compare.b1 x1 x2 (smithyref01_Compare.l1 x1 x2 q1) y1 = some r := h0
  delta smithyref01_Compare.b1 at h0
  refine wp_seq ?_
  refine c_region ?_
  refine s_move S rfl rfl ?_; clear S a; intro a S
  refine s_bin S rfl rfl rfl rfl ?_; clear S a; intro a S
  refine c_end ?_
  rcases ite_of h0 with ⟨c1, h1⟩ | ⟨c1, h1⟩ <;> clear h0
  ·refine c_condT S rfl c1 ?_
   refine wp_skip ?_
   refine x_thenN ?_
   refine wp_seq ?_
   refine wp_block ?_
   refine wp_seq ?_
   refine wp_seq (c_heldS S (.take 0 (.take 1 (.take 2 (.take 3 (.take 4 (.take 5 (.take 6 .done))))))) 7 [Res.cells g13 129 [.ints .i64 x2 32], Res.cells g14 129 [.ints .i64 x1 32]] (.cons .here (.cons .here .nil)) ⟨Res.stay_cells, Res.stay_cells, trivial⟩ [(5, (.v (.int .i64 y1))), (3, (.v (.pointer (some ⟨g13, 0, none⟩)))), (2, (.v (.pointer (some ⟨g14, 0, none⟩))))] (subR rfl) (by kernel_rfl) (by kernel_rfl) ?_); clear S; intro w S CL hw le
   refine h_move S CL hw le (subR rfl) rfl rfl rfl trivial ?_; clear S CL a; intro a S CL
   obtain ⟨c2, h2⟩ := chk_of h1; clear h1
   refine h_iaddr S CL hw le (subR rfl) rfl rfl Tryz.underlying129 T3 c2.1 c2.2 (mul1 _ _) rfl rfl trivial ?_; clear S CL a; intro a S CL
   refine h_loadi S CL hw le (subR rfl) (i := y1) rfl (.there .here) T3 .here rfl c2.1 c2.2 rfl rfl trivial ?_; clear S CL a; intro a S CL
   refine h_move S CL hw le (subR rfl) rfl rfl rfl trivial ?_; clear S CL a; intro a S CL
   refine h_iaddr S CL hw le (subR rfl) rfl rfl Tryz.underlying129 T3 c2.1 c2.2 (mul1 _ _) rfl rfl trivial ?_; clear S CL a; intro a S CL
   refine h_loadi S CL hw le (subR rfl) (i := y1) rfl .here T3 .here rfl c2.1 c2.2 rfl rfl trivial ?_; clear S CL a; intro a S CL
   refine h_bin S CL hw le (subR rfl) rfl rfl rfl rfl rfl trivial ?_; clear S CL a; intro a S CL
   refine h_done ?_; clear CL hw le
   refine x_thenN ?_
   rcases ite_of h2 with ⟨c3, h3⟩ | ⟨c3, h3⟩ <;> clear h2
   ·refine c_condT S rfl c3 ?_
    refine c_region ?_
    refine s_assign S rfl rfl ?_; clear S a; intro a S
    refine c_end ?_
    refine wp_ret ?_
    refine x_thenR ?_
    refine x_blockR ?_
    refine x_thenR ?_
    refine x_thenR ?_
    refine x_blockR ?_
    refine x_thenR ?_
    obtain rfl := Option.some.inj h3
    exact b_ret1 (d := (.v (.int .i64 (-1)))) S rfl rfl fun ok => S.retX (Hx := []) hb _ _ (() : Unit) .nil ok
   ·refine c_condF S rfl c3 ?_
    refine wp_skip ?_
    refine x_thenN ?_
    refine wp_seq (c_heldS S (.take 0 (.take 1 (.take 2 (.take 3 (.take 4 (.take 5 (.take 6 .done))))))) 7 [Res.cells g13 129 [.ints .i64 x2 32], Res.cells g14 129 [.ints .i64 x1 32]] (.cons .here (.cons .here .nil)) ⟨Res.stay_cells, Res.stay_cells, trivial⟩ [(5, (.v (.int .i64 y1))), (3, (.v (.pointer (some ⟨g13, 0, none⟩)))), (2, (.v (.pointer (some ⟨g14, 0, none⟩))))] (subR rfl) (by kernel_rfl) (by kernel_rfl) ?_); clear S; intro w S CL hw le
    refine h_move S CL hw le (subR rfl) rfl rfl rfl trivial ?_; clear S CL a; intro a S CL
    refine h_iaddr S CL hw le (subR rfl) rfl rfl Tryz.underlying129 T3 c2.1 c2.2 (mul1 _ _) rfl rfl trivial ?_; clear S CL a; intro a S CL
    refine h_loadi S CL hw le (subR rfl) (i := y1) rfl (.there .here) T3 .here rfl c2.1 c2.2 rfl rfl trivial ?_; clear S CL a; intro a S CL
    refine h_move S CL hw le (subR rfl) rfl rfl rfl trivial ?_; clear S CL a; intro a S CL
    refine h_iaddr S CL hw le (subR rfl) rfl rfl Tryz.underlying129 T3 c2.1 c2.2 (mul1 _ _) rfl rfl trivial ?_; clear S CL a; intro a S CL
    refine h_loadi S CL hw le (subR rfl) (i := y1) rfl .here T3 .here rfl c2.1 c2.2 rfl rfl trivial ?_; clear S CL a; intro a S CL
    refine h_bin S CL hw le (subR rfl) rfl rfl rfl rfl rfl trivial ?_; clear S CL a; intro a S CL
    refine h_done ?_; clear CL hw le
    refine x_thenN ?_
    rcases ite_of h3 with ⟨c4, h4⟩ | ⟨c4, h4⟩ <;> clear h3
    ·refine c_condT S rfl c4 ?_
     refine c_region ?_
     refine s_assign S rfl rfl ?_; clear S a; intro a S
     refine c_end ?_
     refine wp_ret ?_
     refine x_blockR ?_
     refine x_thenR ?_
     refine x_thenR ?_
     refine x_blockR ?_
     refine x_thenR ?_
     obtain rfl := Option.some.inj h4
     exact b_ret1 (d := (.v (.int .i64 1))) S rfl rfl fun ok => S.retX (Hx := []) hb _ _ (() : Unit) .nil ok
    ·refine c_condF S rfl c4 ?_
     refine wp_skip ?_
     refine x_blockN ?_
     refine x_thenN ?_
     refine c_region' ?_
     refine s_move S rfl rfl ?_; clear S a; intro a S
     refine s_bin S rfl rfl rfl rfl ?_; clear S a; intro a S
     refine s_assign S rfl rfl ?_; clear S a; intro a S
     refine c_end' ?_
     refine x_thenN ?_
     exact ⟨_, (wr .i64 (y1 - 1)), g13, g14, (S.sub (subR rfl) (.cons .here (.cons .here .nil))), h4⟩
  ·refine c_condF S rfl c1 ?_
   refine wp_exit ?_
   refine x_thenX ?_
   refine x_thenX ?_
   refine x_blockX ?_
   refine x_thenN ?_
   exact j1 _ a w (S.sub trivial .nil) h1
abbrev smithyref14_State_Set.Ty : Type := ST37 → (List Int) → (List Int) → (List Int) → Option ST37
def smithyref14_State_Set.Ctr (s : smithyref14_State_Set.Ty) : Prop := ∀ (x1 : ST37) (x2 : List Int) (x3 : List Int) (x4 : List Int) (ch_0_0 : (Option Addr × Nat) × (Option Addr × Nat) × (Option Addr × Nat) × (Option Addr × Nat) × Unit × (Option Addr × Nat) × Unit × (Option Addr × Nat)) (r : ST37) (h0 : s x1 x2 x3 x4 = some r) (mi : Mem) (w0 : World), okL mi [(.agg [.sl ch_0_0.1.1 ((ST37.un x1).1).length ch_0_0.1.2 (RdS Y71 ch_0_0.1.1 ((ST37.un x1).1)), .sl ch_0_0.2.1.1 ((ST37.un x1).2.1).length ch_0_0.2.1.2 (RdS Y122 ch_0_0.2.1.1 ((ST37.un x1).2.1)), .sl ch_0_0.2.2.1.1 ((ST37.un x1).2.2.1).length ch_0_0.2.2.1.2 (RdS (Ty.arr .u8 20) ch_0_0.2.2.1.1 ((ST37.un x1).2.2.1)), .sl ch_0_0.2.2.2.1.1 ((ST37.un x1).2.2.2.1).length ch_0_0.2.2.2.1.2 (RdS Y133 ch_0_0.2.2.2.1.1 ((ST37.un x1).2.2.2.1)), .one (.int .i64 ((ST37.un x1).2.2.2.2.1)), .sl ch_0_0.2.2.2.2.2.1.1 ((ST37.un x1).2.2.2.2.2.1).length ch_0_0.2.2.2.2.2.1.2 (RdS Y100 ch_0_0.2.2.2.2.2.1.1 ((ST37.un x1).2.2.2.2.2.1)), .one (.bool ((ST37.un x1).2.2.2.2.2.2.1)), .sl ch_0_0.2.2.2.2.2.2.2.1 ((ST37.un x1).2.2.2.2.2.2.2).length ch_0_0.2.2.2.2.2.2.2.2 (SR37 ch_0_0.2.2.2.2.2.2.2.1 ((ST37.un x1).2.2.2.2.2.2.2))]), (.agg [.ints .u8 x2 20]), (.agg [.ints .u64 x3 4]), (.agg [.ints .u64 x4 4])] → Pre mi [] w0 → Calls Tryz.prog 43 (([(.agg [.sl ch_0_0.1.1 ((ST37.un x1).1).length ch_0_0.1.2 (RdS Y71 ch_0_0.1.1 ((ST37.un x1).1)), .sl ch_0_0.2.1.1 ((ST37.un x1).2.1).length ch_0_0.2.1.2 (RdS Y122 ch_0_0.2.1.1 ((ST37.un x1).2.1)), .sl ch_0_0.2.2.1.1 ((ST37.un x1).2.2.1).length ch_0_0.2.2.1.2 (RdS (Ty.arr .u8 20) ch_0_0.2.2.1.1 ((ST37.un x1).2.2.1)), .sl ch_0_0.2.2.2.1.1 ((ST37.un x1).2.2.2.1).length ch_0_0.2.2.2.1.2 (RdS Y133 ch_0_0.2.2.2.1.1 ((ST37.un x1).2.2.2.1)), .one (.int .i64 ((ST37.un x1).2.2.2.2.1)), .sl ch_0_0.2.2.2.2.2.1.1 ((ST37.un x1).2.2.2.2.2.1).length ch_0_0.2.2.2.2.2.1.2 (RdS Y100 ch_0_0.2.2.2.2.2.1.1 ((ST37.un x1).2.2.2.2.2.1)), .one (.bool ((ST37.un x1).2.2.2.2.2.2.1)), .sl ch_0_0.2.2.2.2.2.2.2.1 ((ST37.un x1).2.2.2.2.2.2.2).length ch_0_0.2.2.2.2.2.2.2.2 (SR37 ch_0_0.2.2.2.2.2.2.2.1 ((ST37.un x1).2.2.2.2.2.2.2))]), (.agg [.ints .u8 x2 20]), (.agg [.ints .u64 x3 4]), (.agg [.ints .u64 x4 4])] : List D).map D.val).toArray w0 (RetX mi [] (fun (ch : W21) => ((.agg [.sl ch.1.1 ((ST37.un r).1).length ch.1.2 (RdS Y71 ch.1.1 ((ST37.un r).1)), .sl ch.2.1.1 ((ST37.un r).2.1).length ch.2.1.2 (RdS Y122 ch.2.1.1 ((ST37.un r).2.1)), .sl ch.2.2.1.1 ((ST37.un r).2.2.1).length ch.2.2.1.2 (RdS (Ty.arr .u8 20) ch.2.2.1.1 ((ST37.un r).2.2.1)), .sl ch.2.2.2.1.1 ((ST37.un r).2.2.2.1).length ch.2.2.2.1.2 (RdS Y133 ch.2.2.2.1.1 ((ST37.un r).2.2.2.1)), .one (.int .i64 ((ST37.un r).2.2.2.2.1)), .sl ch.2.2.2.2.2.1.1 ((ST37.un r).2.2.2.2.2.1).length ch.2.2.2.2.2.1.2 (RdS Y100 ch.2.2.2.2.2.1.1 ((ST37.un r).2.2.2.2.2.1)), .one (.bool ((ST37.un r).2.2.2.2.2.2.1)), .sl ch.2.2.2.2.2.2.2.1 ((ST37.un r).2.2.2.2.2.2.2).length ch.2.2.2.2.2.2.2.2 (SR37 ch.2.2.2.2.2.2.2.1 ((ST37.un r).2.2.2.2.2.2.2))]) : D)) (fun (ch : W21) => []) w0)
def smithyref14_State_Set.j2 (k : Nat) (x1 : ST37) (t1 : W20) (y4 : W7) : Option ST37 := (smithyref14_State_With.f k x1 ((t1.1.1, t1.1.2.1, t1.1.2.2.1, t1.1.2.2.2.1, y4), t1.2.1, t1.2.2)).bind fun t2 => (some t2)
def smithyref14_State_Set.j3 (k : Nat) (x1 : ST37) (x3 : List Int) (x4 : List Int) (t1 : W20) (y2 : W7) (y5 : Bool) : Option ST37 := if y5 = true then (if ((y2).length + ([(x3, x4)]).length) * 64 ≤ 140737488355328 then (smithyref14_State_Set.j2 k x1 t1 (y2 ++ [(x3, x4)])) else none) else (smithyref14_State_Set.j2 k x1 t1 y2)
def smithyref14_State_Set.j1 (k : Nat) (x1 : ST37) (x3 : List Int) (x4 : List Int) (t1 : W20) (y1 : Bool) (y2 : W7) : Option ST37 := if (!y1) = true then (smithyref14_State_Set.j3 k x1 x3 x4 t1 y2 (!(decide (x4 = [0, 0, 0, 0])))) else (smithyref14_State_Set.j3 k x1 x3 x4 t1 y2 false)
def smithyref14_State_Set.j4 (y26 : Int) (rec1 : Int → Bool → W7 → Option ST37) (y32 : W7) (y33 : Bool) : Option ST37 := rec1 (wr .i64 (y26 + 1)) y33 y32
def smithyref14_State_Set.j5 (x3 : List Int) (t1 : W20) (y26 : Int) (rec1 : Int → Bool → W7 → Option ST37) (y35 : W7) (y36 : Bool) : Option ST37 := if (!(decide ((gt t1.1.2.2.2.2 y26).1 = x3))) = true then (if ((y35).length + ([gt t1.1.2.2.2.2 y26]).length) * 64 ≤ 140737488355328 then (smithyref14_State_Set.j4 y26 rec1 (y35 ++ [gt t1.1.2.2.2.2 y26]) y36) else none) else (smithyref14_State_Set.j4 y26 rec1 y35 y36)
def smithyref14_State_Set.j6 (x3 : List Int) (x4 : List Int) (t1 : W20) (y26 : Int) (y27 : Bool) (y28 : W7) (rec1 : Int → Bool → W7 → Option ST37) (y37 : Bool) : Option ST37 := if y37 = true then (if (!(decide (x4 = [0, 0, 0, 0]))) = true then (if ((y28).length + ([(x3, x4)]).length) * 64 ≤ 140737488355328 then (smithyref14_State_Set.j5 x3 t1 y26 rec1 (y28 ++ [(x3, x4)]) true) else none) else (smithyref14_State_Set.j5 x3 t1 y26 rec1 y28 true)) else (smithyref14_State_Set.j5 x3 t1 y26 rec1 y28 y27)
def smithyref14_State_Set.b1 (k : Nat) (x1 : ST37) (x3 : List Int) (x4 : List Int) (t1 : W20) (rec1 : Int → Bool → W7 → Option ST37) (y26 : Int) (y27 : Bool) (y28 : W7) : Option ST37 := if (decide (y26 < ((t1.1.2.2.2.2).length : Int))) = true then (if (0 : Int) ≤ y26 ∧ y26 < ((t1.1.2.2.2.2).length : Int) then (if (!y27) = true then ((smithyref01_Of.f k x3).bind fun t6 => ((smithyref01_Of.f k ((gt t1.1.2.2.2.2 y26).1)).bind fun t7 => ((smithyref01_Compare.f k t6 t7).bind fun t8 => (smithyref14_State_Set.j6 x3 x4 t1 y26 y27 y28 rec1 (decide (t8 ≤ 0)))))) else (smithyref14_State_Set.j6 x3 x4 t1 y26 y27 y28 rec1 false)) else none) else (smithyref14_State_Set.j1 k x1 x3 x4 t1 y27 y28)
def smithyref14_State_Set.l1 (k : Nat) (x1 : ST37) (x3 : List Int) (x4 : List Int) (t1 : W20) : Nat → Int → Bool → W7 → Option ST37
  | 0, _, _, _ => none
  | q + 1, y26, y27, y28 => smithyref14_State_Set.b1 k x1 x3 x4 t1 (smithyref14_State_Set.l1 k x1 x3 x4 t1 q) y26 y27 y28
def smithyref14_State_Set.f (k : Nat) (x1 : ST37) (x2 : List Int) (x3 : List Int) (x4 : List Int) : Option ST37 := (smithyref14_State_At.f k x1 x2).bind fun t1 => (smithyref14_State_Set.l1 k x1 x3 x4 t1 k 0 false ([] : List ((List Int) × (List Int))))
theorem smithyref14_State_Set.ok (k : Nat) : smithyref14_State_Set.Ctr (smithyref14_State_Set.f k) := by
 intro x1 x2 x3 x4 ch_0_0 r h0 mi w0 ok hm
 delta smithyref14_State_Set.f at h0
 refine c_enterX (n := 79) [(.agg [.sl ch_0_0.1.1 ((ST37.un x1).1).length ch_0_0.1.2 (RdS Y71 ch_0_0.1.1 ((ST37.un x1).1)), .sl ch_0_0.2.1.1 ((ST37.un x1).2.1).length ch_0_0.2.1.2 (RdS Y122 ch_0_0.2.1.1 ((ST37.un x1).2.1)), .sl ch_0_0.2.2.1.1 ((ST37.un x1).2.2.1).length ch_0_0.2.2.1.2 (RdS (Ty.arr .u8 20) ch_0_0.2.2.1.1 ((ST37.un x1).2.2.1)), .sl ch_0_0.2.2.2.1.1 ((ST37.un x1).2.2.2.1).length ch_0_0.2.2.2.1.2 (RdS Y133 ch_0_0.2.2.2.1.1 ((ST37.un x1).2.2.2.1)), .one (.int .i64 ((ST37.un x1).2.2.2.2.1)), .sl ch_0_0.2.2.2.2.2.1.1 ((ST37.un x1).2.2.2.2.2.1).length ch_0_0.2.2.2.2.2.1.2 (RdS Y100 ch_0_0.2.2.2.2.2.1.1 ((ST37.un x1).2.2.2.2.2.1)), .one (.bool ((ST37.un x1).2.2.2.2.2.2.1)), .sl ch_0_0.2.2.2.2.2.2.2.1 ((ST37.un x1).2.2.2.2.2.2.2).length ch_0_0.2.2.2.2.2.2.2.2 (SR37 ch_0_0.2.2.2.2.2.2.2.1 ((ST37.un x1).2.2.2.2.2.2.2))]), (.agg [.ints .u8 x2 20]), (.agg [.ints .u64 x3 4]), (.agg [.ints .u64 x4 4])] (l := [(0, (.agg [.sl ch_0_0.1.1 ((ST37.un x1).1).length ch_0_0.1.2 (RdS Y71 ch_0_0.1.1 ((ST37.un x1).1)), .sl ch_0_0.2.1.1 ((ST37.un x1).2.1).length ch_0_0.2.1.2 (RdS Y122 ch_0_0.2.1.1 ((ST37.un x1).2.1)), .sl ch_0_0.2.2.1.1 ((ST37.un x1).2.2.1).length ch_0_0.2.2.1.2 (RdS (Ty.arr .u8 20) ch_0_0.2.2.1.1 ((ST37.un x1).2.2.1)), .sl ch_0_0.2.2.2.1.1 ((ST37.un x1).2.2.2.1).length ch_0_0.2.2.2.1.2 (RdS Y133 ch_0_0.2.2.2.1.1 ((ST37.un x1).2.2.2.1)), .one (.int .i64 ((ST37.un x1).2.2.2.2.1)), .sl ch_0_0.2.2.2.2.2.1.1 ((ST37.un x1).2.2.2.2.2.1).length ch_0_0.2.2.2.2.2.1.2 (RdS Y100 ch_0_0.2.2.2.2.2.1.1 ((ST37.un x1).2.2.2.2.2.1)), .one (.bool ((ST37.un x1).2.2.2.2.2.2.1)), .sl ch_0_0.2.2.2.2.2.2.2.1 ((ST37.un x1).2.2.2.2.2.2.2).length ch_0_0.2.2.2.2.2.2.2.2 (SR37 ch_0_0.2.2.2.2.2.2.2.1 ((ST37.un x1).2.2.2.2.2.2.2))])), (1, (.agg [.ints .u8 x2 20])), (2, (.agg [.ints .u64 x3 4])), (3, (.agg [.ints .u64 x4 4]))]) Tryz.func43 rfl rfl rfl rfl ok hm ?_
 clear ok hm
 intro b0 hb a S
 refine c_region ?_
 refine s_box S rfl rfl rfl ?_; clear S a; intro g1 a w S
 refine s_box S rfl rfl rfl ?_; clear S a w; intro g2 a w S
 refine s_box S rfl rfl rfl ?_; clear S a w; intro g3 a w S
 refine s_box S rfl rfl rfl ?_; clear S a w; intro g4 a w S
 refine s_alloc S Z37 rfl ⟨rfl, rfl, rfl, rfl, rfl, rfl, rfl, rfl, trivial⟩ rfl ?_; clear S a w; intro g5 a w S
 refine c_end ?_
 refine c_region ?_
 refine s_loada S rfl (.there (.there (.there (.there .here)))) T37 (s' := [.sl ch_0_0.1.1 ((ST37.un x1).1).length ch_0_0.1.2 (RdS Y71 ch_0_0.1.1 ((ST37.un x1).1)), .sl ch_0_0.2.1.1 ((ST37.un x1).2.1).length ch_0_0.2.1.2 (RdS Y122 ch_0_0.2.1.1 ((ST37.un x1).2.1)), .sl ch_0_0.2.2.1.1 ((ST37.un x1).2.2.1).length ch_0_0.2.2.1.2 (RdS (Ty.arr .u8 20) ch_0_0.2.2.1.1 ((ST37.un x1).2.2.1)), .sl ch_0_0.2.2.2.1.1 ((ST37.un x1).2.2.2.1).length ch_0_0.2.2.2.1.2 (RdS Y133 ch_0_0.2.2.2.1.1 ((ST37.un x1).2.2.2.1)), .one (.int .i64 ((ST37.un x1).2.2.2.2.1)), .sl ch_0_0.2.2.2.2.2.1.1 ((ST37.un x1).2.2.2.2.2.1).length ch_0_0.2.2.2.2.2.1.2 (RdS Y100 ch_0_0.2.2.2.2.2.1.1 ((ST37.un x1).2.2.2.2.2.1)), .one (.bool ((ST37.un x1).2.2.2.2.2.2.1)), .sl ch_0_0.2.2.2.2.2.2.2.1 ((ST37.un x1).2.2.2.2.2.2.2).length ch_0_0.2.2.2.2.2.2.2.2 (SR37 ch_0_0.2.2.2.2.2.2.2.1 ((ST37.un x1).2.2.2.2.2.2.2))]) rfl rfl ?_; clear S a; intro a S
 refine s_loada S rfl (.there (.there (.there .here))) T40 (s' := [.ints .u8 x2 20]) rfl rfl ?_; clear S a; intro a S
 obtain ⟨t1, et1, h1⟩ := bind_of h0; clear h0
 refine s_callP S (fun (ch : W4) => ((.agg (Y122.segs t1 (((), (), (), (ch.1, ch.2.1), (ch.2.2.1, ch.2.2.2)), (), ()))) : D)) N64 rfl rfl (smithyref14_State_At.ok k x1 x2 ((ch_0_0.1.1, ch_0_0.1.2), (ch_0_0.2.1.1, ch_0_0.2.1.2), (ch_0_0.2.2.1.1, ch_0_0.2.2.1.2), (ch_0_0.2.2.2.1.1, ch_0_0.2.2.2.1.2), (), (ch_0_0.2.2.2.2.2.1.1, ch_0_0.2.2.2.2.2.1.2), (), (ch_0_0.2.2.2.2.2.2.2.1, ch_0_0.2.2.2.2.2.2.2.2)) t1 et1 _ _) ?_; clear S a w; intro ch1 m le1 a w S
 refine s_alloc S Z122 rfl ⟨rfl, rfl, rfl, rfl, rfl, rfl, rfl, trivial⟩ rfl ?_; clear S a w; intro g6 a w S
 refine s_store S rfl rfl rfl (s' := [.ints .u8 t1.1.1 20, .one (.int .u64 t1.1.2.1), .ints .u64 t1.1.2.2.1 4, .sl ch1.1 (t1.1.2.2.2.1).length ch1.2.1 (RdS (Ty.int .u8) ch1.1 t1.1.2.2.2.1), .sl ch1.2.2.1 (t1.1.2.2.2.2).length ch1.2.2.2 (RdS Y83 ch1.2.2.1 t1.1.2.2.2.2), .one (.bool t1.2.1), .one (.bool t1.2.2)]) .here T122 rfl rfl ?_; clear S w; intro w S
 refine c_end ?_
 refine c_region ?_
 refine s_bldSl S (ty' := Y83) (ds := []) (z := ([0, 0, 0, 0], [0, 0, 0, 0])) (c0 := ((), ())) (ys := ([] : List ((List Int) × (List Int)))) (cs := []) rfl Tryz.underlying69 J83 Z83 rfl ⟨rfl, rfl, trivial⟩ rfl rfl rfl rfl rfl rfl ?_; clear S a w; intro g7 a w S
 refine s_assign S rfl rfl ?_; clear S a; intro a S
 refine c_end ?_
 refine c_region ?_
 refine s_assign S rfl rfl ?_; clear S a; intro a S
 refine c_end ?_
 refine wp_seq_k ?_
 intro K1 hK1
 have j1 : ∀ (m : Mem) (y1 : Bool) (A1 : Option Addr) (nn1 : Nat) (cp1 : Nat) (y2 : List ((List Int) × (List Int))) (g58 : Nat) (g59 : Nat) (g60 : Nat) (g61 : Nat) (g62 : Nat) (A2 : Option Addr) (cp2 : Nat) (A3 : Option Addr) (cp3 : Nat) (a : Act) (w : World), St 79 m b0 [(11, (.v (.bool y1))), (10, (.v (.slice A1 nn1 cp1))), (9, (.v (.pointer (some ⟨g58, 0, none⟩)))), (8, (.v (.pointer (some ⟨g59, 0, none⟩)))), (7, (.v (.pointer (some ⟨g60, 0, none⟩)))), (6, (.v (.pointer (some ⟨g61, 0, none⟩)))), (4, (.v (.pointer (some ⟨g62, 0, none⟩))))] [Res.row Y83 83 A1 nn1 cp1 y2, Res.cells g58 122 (Y122.segs t1 (((), (), (), (A2, cp2), (A3, cp3)), (), ())), Res.cells g59 37 [.one (.slice none 0 0), .one (.slice none 0 0), .one (.slice none 0 0), .one (.slice none 0 0), .one (.int .i64 0), .one (.slice none 0 0), .one (.bool false), .one (.slice none 0 0)], Res.cells g60 43 [.ints .u64 x4 4], Res.cells g61 43 [.ints .u64 x3 4], Res.cells g62 37 [.sl ch_0_0.1.1 ((ST37.un x1).1).length ch_0_0.1.2 (RdS Y71 ch_0_0.1.1 ((ST37.un x1).1)), .sl ch_0_0.2.1.1 ((ST37.un x1).2.1).length ch_0_0.2.1.2 (RdS Y122 ch_0_0.2.1.1 ((ST37.un x1).2.1)), .sl ch_0_0.2.2.1.1 ((ST37.un x1).2.2.1).length ch_0_0.2.2.1.2 (RdS (Ty.arr .u8 20) ch_0_0.2.2.1.1 ((ST37.un x1).2.2.1)), .sl ch_0_0.2.2.2.1.1 ((ST37.un x1).2.2.2.1).length ch_0_0.2.2.2.1.2 (RdS Y133 ch_0_0.2.2.2.1.1 ((ST37.un x1).2.2.2.1)), .one (.int .i64 ((ST37.un x1).2.2.2.2.1)), .sl ch_0_0.2.2.2.2.2.1.1 ((ST37.un x1).2.2.2.2.2.1).length ch_0_0.2.2.2.2.2.1.2 (RdS Y100 ch_0_0.2.2.2.2.2.1.1 ((ST37.un x1).2.2.2.2.2.1)), .one (.bool ((ST37.un x1).2.2.2.2.2.2.1)), .sl ch_0_0.2.2.2.2.2.2.2.1 ((ST37.un x1).2.2.2.2.2.2.2).length ch_0_0.2.2.2.2.2.2.2.2 (SR37 ch_0_0.2.2.2.2.2.2.2.1 ((ST37.un x1).2.2.2.2.2.2.2))]] a w → smithyref14_State_Set.j1 k x1 x3 x4 t1 y1 y2 = some r → K1 a w := by
  intro m y1 A1 nn1 cp1 y2 g58 g59 g60 g61 g62 A2 cp2 A3 cp3 a w S h0
  delta smithyref14_State_Set.j1 at h0
  refine hK1 a w ?_
  refine wp_seq_k ?_
  intro K2 hK2
  have j2 : ∀ (m : Mem) (A4 : Option Addr) (nn2 : Nat) (cp5 : Nat) (y4 : List ((List Int) × (List Int))) (g69 : Nat) (g70 : Nat) (g71 : Nat) (a : Act) (w : World), St 79 m b0 [(10, (.v (.slice A4 nn2 cp5))), (9, (.v (.pointer (some ⟨g69, 0, none⟩)))), (8, (.v (.pointer (some ⟨g70, 0, none⟩)))), (4, (.v (.pointer (some ⟨g71, 0, none⟩))))] [Res.row Y83 83 A4 nn2 cp5 y4, Res.cells g69 122 (Y122.segs t1 (((), (), (), (A2, cp2), (A3, cp3)), (), ())), Res.cells g70 37 [.one (.slice none 0 0), .one (.slice none 0 0), .one (.slice none 0 0), .one (.slice none 0 0), .one (.int .i64 0), .one (.slice none 0 0), .one (.bool false), .one (.slice none 0 0)], Res.cells g71 37 [.sl ch_0_0.1.1 ((ST37.un x1).1).length ch_0_0.1.2 (RdS Y71 ch_0_0.1.1 ((ST37.un x1).1)), .sl ch_0_0.2.1.1 ((ST37.un x1).2.1).length ch_0_0.2.1.2 (RdS Y122 ch_0_0.2.1.1 ((ST37.un x1).2.1)), .sl ch_0_0.2.2.1.1 ((ST37.un x1).2.2.1).length ch_0_0.2.2.1.2 (RdS (Ty.arr .u8 20) ch_0_0.2.2.1.1 ((ST37.un x1).2.2.1)), .sl ch_0_0.2.2.2.1.1 ((ST37.un x1).2.2.2.1).length ch_0_0.2.2.2.1.2 (RdS Y133 ch_0_0.2.2.2.1.1 ((ST37.un x1).2.2.2.1)), .one (.int .i64 ((ST37.un x1).2.2.2.2.1)), .sl ch_0_0.2.2.2.2.2.1.1 ((ST37.un x1).2.2.2.2.2.1).length ch_0_0.2.2.2.2.2.1.2 (RdS Y100 ch_0_0.2.2.2.2.2.1.1 ((ST37.un x1).2.2.2.2.2.1)), .one (.bool ((ST37.un x1).2.2.2.2.2.2.1)), .sl ch_0_0.2.2.2.2.2.2.2.1 ((ST37.un x1).2.2.2.2.2.2.2).length ch_0_0.2.2.2.2.2.2.2.2 (SR37 ch_0_0.2.2.2.2.2.2.2.1 ((ST37.un x1).2.2.2.2.2.2.2))]] a w → smithyref14_State_Set.j2 k x1 t1 y4 = some r → K2 a w := by
   intro m A4 nn2 cp5 y4 g69 g70 g71 a w S h0
   delta smithyref14_State_Set.j2 at h0
   refine hK2 a w ?_
   refine c_region ?_
   refine s_move S rfl rfl ?_; clear S a; intro a S
   refine s_fieldAddr S rfl I122_0 T71 (by decide) rfl rfl ?_; clear S a; intro a S
   refine s_fieldAddr S rfl I71_4 T69 (by decide) rfl rfl ?_; clear S a; intro a S
   refine s_store S rfl rfl rfl (s' := [.ints .u8 t1.1.1 20, .one (.int .u64 t1.1.2.1), .ints .u64 t1.1.2.2.1 4, .sl A2 (t1.1.2.2.2.1).length cp2 (RdS (Ty.int .u8) A2 t1.1.2.2.2.1), .one (.slice A4 nn2 cp5), .one (.bool t1.2.1), .one (.bool t1.2.2)]) (.there .here) T69 rfl rfl ?_; clear S w; intro w S
   refine c_end ?_
   refine c_region ?_
   refine s_loada S rfl (.there (.there (.there .here))) T37 (s' := [.sl ch_0_0.1.1 ((ST37.un x1).1).length ch_0_0.1.2 (RdS Y71 ch_0_0.1.1 ((ST37.un x1).1)), .sl ch_0_0.2.1.1 ((ST37.un x1).2.1).length ch_0_0.2.1.2 (RdS Y122 ch_0_0.2.1.1 ((ST37.un x1).2.1)), .sl ch_0_0.2.2.1.1 ((ST37.un x1).2.2.1).length ch_0_0.2.2.1.2 (RdS (Ty.arr .u8 20) ch_0_0.2.2.1.1 ((ST37.un x1).2.2.1)), .sl ch_0_0.2.2.2.1.1 ((ST37.un x1).2.2.2.1).length ch_0_0.2.2.2.1.2 (RdS Y133 ch_0_0.2.2.2.1.1 ((ST37.un x1).2.2.2.1)), .one (.int .i64 ((ST37.un x1).2.2.2.2.1)), .sl ch_0_0.2.2.2.2.2.1.1 ((ST37.un x1).2.2.2.2.2.1).length ch_0_0.2.2.2.2.2.1.2 (RdS Y100 ch_0_0.2.2.2.2.2.1.1 ((ST37.un x1).2.2.2.2.2.1)), .one (.bool ((ST37.un x1).2.2.2.2.2.2.1)), .sl ch_0_0.2.2.2.2.2.2.2.1 ((ST37.un x1).2.2.2.2.2.2.2).length ch_0_0.2.2.2.2.2.2.2.2 (SR37 ch_0_0.2.2.2.2.2.2.2.1 ((ST37.un x1).2.2.2.2.2.2.2))]) rfl rfl ?_; clear S a; intro a S
   refine s_loada S rfl (.there .here) T122 (s' := [.ints .u8 t1.1.1 20, .one (.int .u64 t1.1.2.1), .ints .u64 t1.1.2.2.1 4, .sl A2 (t1.1.2.2.2.1).length cp2 (RdS (Ty.int .u8) A2 t1.1.2.2.2.1), .one (.slice A4 nn2 cp5), .one (.bool t1.2.1), .one (.bool t1.2.2)]) rfl rfl ?_; clear S a; intro a S
   replace S := S.rowfro .here
   obtain ⟨m, le1, S, hro⟩ := S
   replace S := S.slot (u := 77) (d' := (.agg [.ints .u8 t1.1.1 20, .one (.int .u64 t1.1.2.1), .ints .u64 t1.1.2.2.1 4, .sl A2 (t1.1.2.2.2.1).length cp2 (RdS (Ty.int .u8) A2 t1.1.2.2.2.1), .sl A4 (y4).length cp5 (RdS Y83 A4 y4), .one (.bool t1.2.1), .one (.bool t1.2.2)])) rfl (by simp [D.val, pd, cellsOf, Seg.cells, hro.2.1]) (by have h := (S.get 77 (.agg [.ints .u8 t1.1.1 20, .one (.int .u64 t1.1.2.1), .ints .u64 t1.1.2.2.1 4, .sl A2 (t1.1.2.2.2.1).length cp2 (RdS (Ty.int .u8) A2 t1.1.2.2.2.1), .one (.slice A4 nn2 cp5), .one (.bool t1.2.1), .one (.bool t1.2.2)]) rfl).2; exact ⟨h.1, h.2.1, h.2.2.1, h.2.2.2.1, ⟨by have := hro.2.2.1; omega, hro.2.2.2, hro.1, RdS.mono _ _ _⟩, h.2.2.2.2.2.1, h.2.2.2.2.2.2.1, trivial⟩)
   replace S := S.slotro (u := 73) rfl hro
   replace S := S.slotro (u := 10) rfl hro
   replace S := S.cellro (s' := [.ints .u8 t1.1.1 20, .one (.int .u64 t1.1.2.1), .ints .u64 t1.1.2.2.1 4, .sl A2 (t1.1.2.2.2.1).length cp2 (RdS (Ty.int .u8) A2 t1.1.2.2.2.1), .sl A4 (y4).length cp5 (RdS Y83 A4 y4), .one (.bool t1.2.1), .one (.bool t1.2.2)]) .here (by simp [cellsOf, Seg.cells, hro.2.1]) (fun h => ⟨h.1, h.2.1, h.2.2.1, h.2.2.2.1, ⟨by have := hro.2.2.1; omega, hro.2.2.2, hro.1, RdS.mono _ _ _⟩, h.2.2.2.2.2.1, h.2.2.2.2.2.2.1, trivial⟩)
   obtain ⟨t2, et2, h1⟩ := bind_of h0; clear h0
   refine s_callP S (fun (ch : W21) => ((.agg [.sl ch.1.1 ((ST37.un t2).1).length ch.1.2 (RdS Y71 ch.1.1 ((ST37.un t2).1)), .sl ch.2.1.1 ((ST37.un t2).2.1).length ch.2.1.2 (RdS Y122 ch.2.1.1 ((ST37.un t2).2.1)), .sl ch.2.2.1.1 ((ST37.un t2).2.2.1).length ch.2.2.1.2 (RdS (Ty.arr .u8 20) ch.2.2.1.1 ((ST37.un t2).2.2.1)), .sl ch.2.2.2.1.1 ((ST37.un t2).2.2.2.1).length ch.2.2.2.1.2 (RdS Y133 ch.2.2.2.1.1 ((ST37.un t2).2.2.2.1)), .one (.int .i64 ((ST37.un t2).2.2.2.2.1)), .sl ch.2.2.2.2.2.1.1 ((ST37.un t2).2.2.2.2.2.1).length ch.2.2.2.2.2.1.2 (RdS Y100 ch.2.2.2.2.2.1.1 ((ST37.un t2).2.2.2.2.2.1)), .one (.bool ((ST37.un t2).2.2.2.2.2.2.1)), .sl ch.2.2.2.2.2.2.2.1 ((ST37.un t2).2.2.2.2.2.2.2).length ch.2.2.2.2.2.2.2.2 (SR37 ch.2.2.2.2.2.2.2.1 ((ST37.un t2).2.2.2.2.2.2.2))]) : D)) N74 rfl rfl (smithyref14_State_With.ok k x1 ((t1.1.1, t1.1.2.1, t1.1.2.2.1, t1.1.2.2.2.1, y4), t1.2.1, t1.2.2) ((ch_0_0.1.1, ch_0_0.1.2), (ch_0_0.2.1.1, ch_0_0.2.1.2), (ch_0_0.2.2.1.1, ch_0_0.2.2.1.2), (ch_0_0.2.2.2.1.1, ch_0_0.2.2.2.1.2), (), (ch_0_0.2.2.2.2.2.1.1, ch_0_0.2.2.2.2.2.1.2), (), (ch_0_0.2.2.2.2.2.2.2.1, ch_0_0.2.2.2.2.2.2.2.2)) A2 cp2 A4 cp5 t2 et2 _ _) ?_; clear S a w; intro ch2 m le1 a w S
   refine s_store S rfl rfl rfl (s' := [.sl ch2.1.1 ((ST37.un t2).1).length ch2.1.2 (RdS Y71 ch2.1.1 ((ST37.un t2).1)), .sl ch2.2.1.1 ((ST37.un t2).2.1).length ch2.2.1.2 (RdS Y122 ch2.2.1.1 ((ST37.un t2).2.1)), .sl ch2.2.2.1.1 ((ST37.un t2).2.2.1).length ch2.2.2.1.2 (RdS (Ty.arr .u8 20) ch2.2.2.1.1 ((ST37.un t2).2.2.1)), .sl ch2.2.2.2.1.1 ((ST37.un t2).2.2.2.1).length ch2.2.2.2.1.2 (RdS Y133 ch2.2.2.2.1.1 ((ST37.un t2).2.2.2.1)), .one (.int .i64 ((ST37.un t2).2.2.2.2.1)), .sl ch2.2.2.2.2.2.1.1 ((ST37.un t2).2.2.2.2.2.1).length ch2.2.2.2.2.2.1.2 (RdS Y100 ch2.2.2.2.2.2.1.1 ((ST37.un t2).2.2.2.2.2.1)), .one (.bool ((ST37.un t2).2.2.2.2.2.2.1)), .sl ch2.2.2.2.2.2.2.2.1 ((ST37.un t2).2.2.2.2.2.2.2).length ch2.2.2.2.2.2.2.2.2 (SR37 ch2.2.2.2.2.2.2.2.1 ((ST37.un t2).2.2.2.2.2.2.2))]) (.there .here) T37 rfl rfl ?_; clear S w; intro w S
   refine c_end ?_
   refine wp_ret ?_
   obtain rfl := Option.some.inj h1
   exact b_ret1 (d := (.agg [.sl ch2.1.1 ((ST37.un t2).1).length ch2.1.2 (RdS Y71 ch2.1.1 ((ST37.un t2).1)), .sl ch2.2.1.1 ((ST37.un t2).2.1).length ch2.2.1.2 (RdS Y122 ch2.2.1.1 ((ST37.un t2).2.1)), .sl ch2.2.2.1.1 ((ST37.un t2).2.2.1).length ch2.2.2.1.2 (RdS (Ty.arr .u8 20) ch2.2.2.1.1 ((ST37.un t2).2.2.1)), .sl ch2.2.2.2.1.1 ((ST37.un t2).2.2.2.1).length ch2.2.2.2.1.2 (RdS Y133 ch2.2.2.2.1.1 ((ST37.un t2).2.2.2.1)), .one (.int .i64 ((ST37.un t2).2.2.2.2.1)), .sl ch2.2.2.2.2.2.1.1 ((ST37.un t2).2.2.2.2.2.1).length ch2.2.2.2.2.2.1.2 (RdS Y100 ch2.2.2.2.2.2.1.1 ((ST37.un t2).2.2.2.2.2.1)), .one (.bool ((ST37.un t2).2.2.2.2.2.2.1)), .sl ch2.2.2.2.2.2.2.2.1 ((ST37.un t2).2.2.2.2.2.2.2).length ch2.2.2.2.2.2.2.2.2 (SR37 ch2.2.2.2.2.2.2.2.1 ((ST37.un t2).2.2.2.2.2.2.2))])) S rfl (resD_cell rfl (.there .here) T37 rfl rfl) fun ok => S.retX (Hx := []) hb _ _ (((ch2.1.1, ch2.1.2), (ch2.2.1.1, ch2.2.1.2), (ch2.2.2.1.1, ch2.2.2.1.2), (ch2.2.2.2.1.1, ch2.2.2.2.1.2), (), (ch2.2.2.2.2.2.1.1, ch2.2.2.2.2.2.1.2), (), (ch2.2.2.2.2.2.2.2.1, ch2.2.2.2.2.2.2.2.2)) : W21) .nil ok
  refine wp_seq_k ?_
  intro K3 hK3
  have j3 : ∀ (m : Mem) (y5 : Bool) (g72 : Nat) (g73 : Nat) (g74 : Nat) (g75 : Nat) (g76 : Nat) (a : Act) (w : World), St 79 m b0 [(66, (.v (.bool y5))), (10, (.v (.slice A1 nn1 cp1))), (9, (.v (.pointer (some ⟨g72, 0, none⟩)))), (8, (.v (.pointer (some ⟨g73, 0, none⟩)))), (7, (.v (.pointer (some ⟨g74, 0, none⟩)))), (6, (.v (.pointer (some ⟨g75, 0, none⟩)))), (4, (.v (.pointer (some ⟨g76, 0, none⟩))))] [Res.row Y83 83 A1 nn1 cp1 y2, Res.cells g72 122 (Y122.segs t1 (((), (), (), (A2, cp2), (A3, cp3)), (), ())), Res.cells g73 37 [.one (.slice none 0 0), .one (.slice none 0 0), .one (.slice none 0 0), .one (.slice none 0 0), .one (.int .i64 0), .one (.slice none 0 0), .one (.bool false), .one (.slice none 0 0)], Res.cells g74 43 [.ints .u64 x4 4], Res.cells g75 43 [.ints .u64 x3 4], Res.cells g76 37 [.sl ch_0_0.1.1 ((ST37.un x1).1).length ch_0_0.1.2 (RdS Y71 ch_0_0.1.1 ((ST37.un x1).1)), .sl ch_0_0.2.1.1 ((ST37.un x1).2.1).length ch_0_0.2.1.2 (RdS Y122 ch_0_0.2.1.1 ((ST37.un x1).2.1)), .sl ch_0_0.2.2.1.1 ((ST37.un x1).2.2.1).length ch_0_0.2.2.1.2 (RdS (Ty.arr .u8 20) ch_0_0.2.2.1.1 ((ST37.un x1).2.2.1)), .sl ch_0_0.2.2.2.1.1 ((ST37.un x1).2.2.2.1).length ch_0_0.2.2.2.1.2 (RdS Y133 ch_0_0.2.2.2.1.1 ((ST37.un x1).2.2.2.1)), .one (.int .i64 ((ST37.un x1).2.2.2.2.1)), .sl ch_0_0.2.2.2.2.2.1.1 ((ST37.un x1).2.2.2.2.2.1).length ch_0_0.2.2.2.2.2.1.2 (RdS Y100 ch_0_0.2.2.2.2.2.1.1 ((ST37.un x1).2.2.2.2.2.1)), .one (.bool ((ST37.un x1).2.2.2.2.2.2.1)), .sl ch_0_0.2.2.2.2.2.2.2.1 ((ST37.un x1).2.2.2.2.2.2.2).length ch_0_0.2.2.2.2.2.2.2.2 (SR37 ch_0_0.2.2.2.2.2.2.2.1 ((ST37.un x1).2.2.2.2.2.2.2))]] a w → smithyref14_State_Set.j3 k x1 x3 x4 t1 y2 y5 = some r → K3 a w := by
   intro m y5 g72 g73 g74 g75 g76 a w S h0
   delta smithyref14_State_Set.j3 at h0
   refine hK3 a w ?_
   rcases ite_of h0 with ⟨c1, h1⟩ | ⟨c1, h1⟩ <;> clear h0
   ·refine c_condT S rfl c1 ?_
    refine c_region' ?_
    refine s_move S rfl rfl ?_; clear S a; intro a S
    refine s_loada S rfl (.there (.there (.there (.there .here)))) T43 (s' := [.ints .u64 x3 4]) rfl rfl ?_; clear S a; intro a S
    refine s_loada S rfl (.there (.there (.there .here))) T43 (s' := [.ints .u64 x4 4]) rfl rfl ?_; clear S a; intro a S
    refine s_bldS S (ds := [(0, (.agg [.ints .u64 x3 4])), (1, (.agg [.ints .u64 x4 4]))]) (zs := [.ints .u64 [0, 0, 0, 0] 4, .ints .u64 [0, 0, 0, 0] 4]) (s' := [.ints .u64 x3 4, .ints .u64 x4 4]) rfl Tryz.underlying83 P83 Z83 ⟨rfl, rfl, trivial⟩ rfl rfl ?_; clear S a; intro a S
    refine s_bldSl S (ty' := Y83) (ds := [(0, (.agg [.ints .u64 x3 4, .ints .u64 x4 4]))]) (z := ([0, 0, 0, 0], [0, 0, 0, 0])) (c0 := ((), ())) (ys := [(x3, x4)]) (cs := [((), ())]) rfl Tryz.underlying69 J83 Z83 rfl ⟨rfl, rfl, trivial⟩ rfl rfl rfl rfl rfl rfl ?_; clear S a w; intro g77 a w S
    obtain ⟨c2, h2⟩ := chk_of h1; clear h1
    refine s_app S (k2 := 1) (ys := [(x3, x4)]) rfl (fun _ _ => (.there .here)) rfl rfl (S.holds _ (Pull.mem .here).1).1 (Res.row.src (S.holds _ (Pull.mem .here).1)) Tryz.underlying69 J83 c2 rfl ?_; clear S a w; intro A5 cp6 a w S
    refine s_assign S rfl rfl ?_; clear S a; intro a S
    refine c_end' ?_
    refine x_thenN ?_
    exact j2 _ A5 (nn1 + 1) cp6 (y2 ++ [(x3, x4)]) g72 g73 g76 a w (S.sub (subR rfl) (.cons (.there .here) (.cons (.there .here) (.cons (.there .here) (.cons (.there (.there (.there .here))) .nil))))) h2
   ·refine c_condF S rfl c1 ?_
    refine wp_skip ?_
    refine x_thenN ?_
    exact j2 _ A1 nn1 cp1 y2 g72 g73 g76 a w (S.sub (subR rfl) (.cons .here (.cons .here (.cons .here (.cons (.there (.there .here)) .nil))))) h1
  refine c_region' ?_
  refine s_move S rfl rfl ?_; clear S a; intro a S
  refine s_not S rfl rfl ?_; clear S a; intro a S
  refine s_move S rfl rfl ?_; clear S a; intro a S
  rcases ite_of h0 with ⟨c3, h1⟩ | ⟨c3, h1⟩ <;> clear h0
  ·refine s_gT S (b := (!y1)) rfl rfl c3 ?_
   refine s_loada S rfl (.there (.there (.there .here))) T43 (s' := [.ints .u64 x4 4]) rfl rfl ?_; clear S a; intro a S
   refine s_gT S (b := (!y1)) rfl rfl c3 ?_
   refine s_build S (ds := []) (dv := (.agg [.ints .u64 [0, 0, 0, 0] 4])) rfl (fun _ => by kernel_rfl) ⟨rfl, trivial⟩ rfl ?_; clear S a; intro a S
   refine s_gT S (b := (!y1)) rfl rfl c3 ?_
   refine s_nea S rfl rfl Tryz.underlying43 Tryz.underlying41 T41 Q43 rfl ?_; clear S a; intro a S
   refine s_pick S (b := true) (hc_of rfl c3) rfl rfl ?_; clear S a; intro a S
   refine c_end' ?_
   refine x_thenN ?_
   exact j3 _ (!(decide (x4 = [0, 0, 0, 0]))) g58 g59 g60 g61 g62 a w (S.sub (subR rfl) (.cons .here (.cons .here (.cons .here (.cons .here (.cons .here (.cons .here .nil))))))) h1
  ·refine s_gF S (b := (!y1)) rfl rfl c3 rfl ?_; clear S a; intro a S
   refine s_gF S (b := (!y1)) rfl rfl c3 rfl ?_; clear S a; intro a S
   refine s_gF S (b := (!y1)) rfl rfl c3 rfl ?_; clear S a; intro a S
   refine s_pick S (b := false) (hc_of rfl c3) rfl rfl ?_; clear S a; intro a S
   refine c_end' ?_
   refine x_thenN ?_
   exact j3 _ false g58 g59 g60 g61 g62 a w (S.sub (subR rfl) (.cons .here (.cons .here (.cons .here (.cons .here (.cons .here (.cons .here .nil))))))) h1
 refine c_region ?_
 refine s_fieldAddr S rfl I122_0 T71 (by decide) rfl rfl ?_; clear S a; intro a S
 refine s_fieldAddr S rfl I71_4 T69 (by decide) rfl rfl ?_; clear S a; intro a S
 refine s_loadSl S rfl (.there .here) T69 (A := ch1.2.2.1) (len := (t1.1.2.2.2.2).length) (cap := ch1.2.2.2) rfl rfl ?_; clear S a; intro a S
 refine s_lenS S rfl Tryz.underlying69 rfl ?_; clear S a; intro a S
 refine s_move S rfl rfl ?_; clear S a; intro a S
 refine c_end ?_
 refine wp_block ?_
 refine c_loop (fun q1 a w => ∃ (m : Mem) (y26 : Int) (y27 : Bool) (A6 : Option Addr) (nn8 : Nat) (cp20 : Nat) (y28 : List ((List Int) × (List Int))) (g123 : Nat) (g124 : Nat) (g125 : Nat) (g126 : Nat) (g127 : Nat) (A7 : Option Addr) (cp21 : Nat) (A8 : Option Addr) (cp22 : Nat), St 79 m b0 [(22, (.v (.int .i64 y26))), (21, (.v (.int .i64 ((t1.1.2.2.2.2).length : Int)))), (11, (.v (.bool y27))), (10, (.v (.slice A6 nn8 cp20))), (9, (.v (.pointer (some ⟨g123, 0, none⟩)))), (8, (.v (.pointer (some ⟨g124, 0, none⟩)))), (7, (.v (.pointer (some ⟨g125, 0, none⟩)))), (6, (.v (.pointer (some ⟨g126, 0, none⟩)))), (4, (.v (.pointer (some ⟨g127, 0, none⟩))))] [Res.row Y83 83 A6 nn8 cp20 y28, Res.cells g123 122 (Y122.segs t1 (((), (), (), (A7, cp21), (A8, cp22)), (), ())), Res.cells g124 37 [.one (.slice none 0 0), .one (.slice none 0 0), .one (.slice none 0 0), .one (.slice none 0 0), .one (.int .i64 0), .one (.slice none 0 0), .one (.bool false), .one (.slice none 0 0)], Res.cells g125 43 [.ints .u64 x4 4], Res.cells g126 43 [.ints .u64 x3 4], Res.cells g127 37 [.sl ch_0_0.1.1 ((ST37.un x1).1).length ch_0_0.1.2 (RdS Y71 ch_0_0.1.1 ((ST37.un x1).1)), .sl ch_0_0.2.1.1 ((ST37.un x1).2.1).length ch_0_0.2.1.2 (RdS Y122 ch_0_0.2.1.1 ((ST37.un x1).2.1)), .sl ch_0_0.2.2.1.1 ((ST37.un x1).2.2.1).length ch_0_0.2.2.1.2 (RdS (Ty.arr .u8 20) ch_0_0.2.2.1.1 ((ST37.un x1).2.2.1)), .sl ch_0_0.2.2.2.1.1 ((ST37.un x1).2.2.2.1).length ch_0_0.2.2.2.1.2 (RdS Y133 ch_0_0.2.2.2.1.1 ((ST37.un x1).2.2.2.1)), .one (.int .i64 ((ST37.un x1).2.2.2.2.1)), .sl ch_0_0.2.2.2.2.2.1.1 ((ST37.un x1).2.2.2.2.2.1).length ch_0_0.2.2.2.2.2.1.2 (RdS Y100 ch_0_0.2.2.2.2.2.1.1 ((ST37.un x1).2.2.2.2.2.1)), .one (.bool ((ST37.un x1).2.2.2.2.2.2.1)), .sl ch_0_0.2.2.2.2.2.2.2.1 ((ST37.un x1).2.2.2.2.2.2.2).length ch_0_0.2.2.2.2.2.2.2.2 (SR37 ch_0_0.2.2.2.2.2.2.2.1 ((ST37.un x1).2.2.2.2.2.2.2))]] a w ∧ smithyref14_State_Set.l1 k x1 x3 x4 t1 q1 y26 y27 y28 = some r) ?_ ?_ (k := k) ⟨_, 0, false, (some ⟨g7, 0, none⟩), 0, 0, ([] : List ((List Int) × (List Int))), g6, g5, g4, g3, g1, ch1.1, ch1.2.1, ch1.2.2.1, ch1.2.2.2, (S.sub (subR rfl) (.cons .here (.cons .here (.cons .here (.cons .here (.cons .here (.cons (.there .here) .nil))))))), h1⟩
 ·rintro a w ⟨m, y26, y27, A6, nn8, cp20, y28, g123, g124, g125, g126, g127, A7, cp21, A8, cp22, S, h0⟩
  exact (nomatch (show (none : Option ST37) = some r from h0))
 ·clear S h1
  rintro q1 a w ⟨m, y26, y27, A6, nn8, cp20, y28, g123, g124, g125, g126, g127, A7, cp21, A8, cp22, S, h0⟩
  replace h0 : smithyref14_State_Set.b1 k x1 x3 x4 t1 (smithyref14_State_Set.l1 k x1 x3 x4 t1 q1) y26 y27 y28 = some r := h0
  delta smithyref14_State_Set.b1 at h0
  refine c_region ?_
  refine s_bin S rfl rfl rfl rfl ?_; clear S a; intro a S
  refine c_end ?_
  refine wp_seq ?_
  rcases ite_of h0 with ⟨c4, h1⟩ | ⟨c4, h1⟩ <;> clear h0
  ·refine c_condT S rfl c4 ?_
   refine wp_skip ?_
   refine x_thenN ?_
   refine wp_seq_k ?_
   intro K4 hK4
   have j4 : ∀ (m : Mem) (A9 : Option Addr) (nn10 : Nat) (cp26 : Nat) (y32 : List ((List Int) × (List Int))) (y33 : Bool) (g143 : Nat) (g144 : Nat) (g145 : Nat) (g146 : Nat) (g147 : Nat) (a : Act) (w : World), St 79 m b0 [(10, (.v (.slice A9 nn10 cp26))), (11, (.v (.bool y33))), (22, (.v (.int .i64 y26))), (21, (.v (.int .i64 ((t1.1.2.2.2.2).length : Int)))), (9, (.v (.pointer (some ⟨g143, 0, none⟩)))), (8, (.v (.pointer (some ⟨g144, 0, none⟩)))), (7, (.v (.pointer (some ⟨g145, 0, none⟩)))), (6, (.v (.pointer (some ⟨g146, 0, none⟩)))), (4, (.v (.pointer (some ⟨g147, 0, none⟩))))] [Res.row Y83 83 A9 nn10 cp26 y32, Res.cells g143 122 (Y122.segs t1 (((), (), (), (A7, cp21), (A8, cp22)), (), ())), Res.cells g144 37 [.one (.slice none 0 0), .one (.slice none 0 0), .one (.slice none 0 0), .one (.slice none 0 0), .one (.int .i64 0), .one (.slice none 0 0), .one (.bool false), .one (.slice none 0 0)], Res.cells g145 43 [.ints .u64 x4 4], Res.cells g146 43 [.ints .u64 x3 4], Res.cells g147 37 [.sl ch_0_0.1.1 ((ST37.un x1).1).length ch_0_0.1.2 (RdS Y71 ch_0_0.1.1 ((ST37.un x1).1)), .sl ch_0_0.2.1.1 ((ST37.un x1).2.1).length ch_0_0.2.1.2 (RdS Y122 ch_0_0.2.1.1 ((ST37.un x1).2.1)), .sl ch_0_0.2.2.1.1 ((ST37.un x1).2.2.1).length ch_0_0.2.2.1.2 (RdS (Ty.arr .u8 20) ch_0_0.2.2.1.1 ((ST37.un x1).2.2.1)), .sl ch_0_0.2.2.2.1.1 ((ST37.un x1).2.2.2.1).length ch_0_0.2.2.2.1.2 (RdS Y133 ch_0_0.2.2.2.1.1 ((ST37.un x1).2.2.2.1)), .one (.int .i64 ((ST37.un x1).2.2.2.2.1)), .sl ch_0_0.2.2.2.2.2.1.1 ((ST37.un x1).2.2.2.2.2.1).length ch_0_0.2.2.2.2.2.1.2 (RdS Y100 ch_0_0.2.2.2.2.2.1.1 ((ST37.un x1).2.2.2.2.2.1)), .one (.bool ((ST37.un x1).2.2.2.2.2.2.1)), .sl ch_0_0.2.2.2.2.2.2.2.1 ((ST37.un x1).2.2.2.2.2.2.2).length ch_0_0.2.2.2.2.2.2.2.2 (SR37 ch_0_0.2.2.2.2.2.2.2.1 ((ST37.un x1).2.2.2.2.2.2.2))]] a w → smithyref14_State_Set.j4 y26 (smithyref14_State_Set.l1 k x1 x3 x4 t1 q1) y32 y33 = some r → K4 a w := by
    intro m A9 nn10 cp26 y32 y33 g143 g144 g145 g146 g147 a w S h0
    delta smithyref14_State_Set.j4 at h0
    refine hK4 a w ?_
    refine c_region' ?_
    refine s_bin S rfl rfl rfl rfl ?_; clear S a; intro a S
    refine s_move S rfl rfl ?_; clear S a; intro a S
    refine c_end' ?_
    refine x_thenN ?_
    exact ⟨_, (wr .i64 (y26 + 1)), y33, A9, nn10, cp26, y32, g143, g144, g145, g146, g147, A7, cp21, A8, cp22, (S.sub (subR rfl) (.cons .here (.cons .here (.cons .here (.cons .here (.cons .here (.cons .here .nil))))))), h0⟩
   refine wp_block ?_
   refine c_region ?_
   refine s_move S rfl rfl ?_; clear S a; intro a S
   refine s_assign S rfl rfl ?_; clear S a; intro a S
   refine c_end ?_
   refine c_region ?_
   refine s_fieldAddr S rfl I122_0 T71 (by decide) rfl rfl ?_; clear S a; intro a S
   refine s_fieldAddr S rfl I71_4 T69 (by decide) rfl rfl ?_; clear S a; intro a S
   refine s_loadSl S rfl (.there .here) T69 (A := A8) (len := (t1.1.2.2.2.2).length) (cap := cp22) rfl rfl ?_; clear S a; intro a S
   refine s_move S rfl rfl ?_; clear S a; intro a S
   obtain ⟨c5, h2⟩ := chk_of h1; clear h1
   refine s_iaddrS S rfl rfl rfl Tryz.underlying69 T83 c5.1 c5.2 rfl ?_; clear S a; intro p1 a S
   refine s_ldA S (fun (c : Unit × Unit) => [.ints .u64 ((gt t1.1.2.2.2.2 y26).1) 4, .ints .u64 ((gt t1.1.2.2.2.2 y26).2) 4]) rfl T83 (fun _ => rfl) rfl ?_; clear S a; intro ch3 a S
   refine s_alloc S Z83 rfl ⟨rfl, rfl, trivial⟩ rfl ?_; clear S a w; intro g148 a w S
   refine s_store S rfl rfl rfl (s' := [.ints .u64 ((gt t1.1.2.2.2.2 y26).1) 4, .ints .u64 ((gt t1.1.2.2.2.2 y26).2) 4]) .here T83 rfl rfl ?_; clear S w; intro w S
   refine c_end ?_
   refine wp_seq_k ?_
   intro K5 hK5
   have j5 : ∀ (m : Mem) (A10 : Option Addr) (nn11 : Nat) (cp28 : Nat) (y35 : List ((List Int) × (List Int))) (y36 : Bool) (g156 : Nat) (g157 : Nat) (g158 : Nat) (g159 : Nat) (g160 : Nat) (g161 : Nat) (a : Act) (w : World), St 79 m b0 [(10, (.v (.slice A10 nn11 cp28))), (11, (.v (.bool y36))), (13, (.v (.pointer (some ⟨g156, 0, none⟩)))), (22, (.v (.int .i64 y26))), (21, (.v (.int .i64 ((t1.1.2.2.2.2).length : Int)))), (9, (.v (.pointer (some ⟨g157, 0, none⟩)))), (8, (.v (.pointer (some ⟨g158, 0, none⟩)))), (7, (.v (.pointer (some ⟨g159, 0, none⟩)))), (6, (.v (.pointer (some ⟨g160, 0, none⟩)))), (4, (.v (.pointer (some ⟨g161, 0, none⟩))))] [Res.cells g156 83 [.ints .u64 ((gt t1.1.2.2.2.2 y26).1) 4, .ints .u64 ((gt t1.1.2.2.2.2 y26).2) 4], Res.row Y83 83 A10 nn11 cp28 y35, Res.cells g157 122 (Y122.segs t1 (((), (), (), (A7, cp21), (A8, cp22)), (), ())), Res.cells g158 37 [.one (.slice none 0 0), .one (.slice none 0 0), .one (.slice none 0 0), .one (.slice none 0 0), .one (.int .i64 0), .one (.slice none 0 0), .one (.bool false), .one (.slice none 0 0)], Res.cells g159 43 [.ints .u64 x4 4], Res.cells g160 43 [.ints .u64 x3 4], Res.cells g161 37 [.sl ch_0_0.1.1 ((ST37.un x1).1).length ch_0_0.1.2 (RdS Y71 ch_0_0.1.1 ((ST37.un x1).1)), .sl ch_0_0.2.1.1 ((ST37.un x1).2.1).length ch_0_0.2.1.2 (RdS Y122 ch_0_0.2.1.1 ((ST37.un x1).2.1)), .sl ch_0_0.2.2.1.1 ((ST37.un x1).2.2.1).length ch_0_0.2.2.1.2 (RdS (Ty.arr .u8 20) ch_0_0.2.2.1.1 ((ST37.un x1).2.2.1)), .sl ch_0_0.2.2.2.1.1 ((ST37.un x1).2.2.2.1).length ch_0_0.2.2.2.1.2 (RdS Y133 ch_0_0.2.2.2.1.1 ((ST37.un x1).2.2.2.1)), .one (.int .i64 ((ST37.un x1).2.2.2.2.1)), .sl ch_0_0.2.2.2.2.2.1.1 ((ST37.un x1).2.2.2.2.2.1).length ch_0_0.2.2.2.2.2.1.2 (RdS Y100 ch_0_0.2.2.2.2.2.1.1 ((ST37.un x1).2.2.2.2.2.1)), .one (.bool ((ST37.un x1).2.2.2.2.2.2.1)), .sl ch_0_0.2.2.2.2.2.2.2.1 ((ST37.un x1).2.2.2.2.2.2.2).length ch_0_0.2.2.2.2.2.2.2.2 (SR37 ch_0_0.2.2.2.2.2.2.2.1 ((ST37.un x1).2.2.2.2.2.2.2))]] a w → smithyref14_State_Set.j5 x3 t1 y26 (smithyref14_State_Set.l1 k x1 x3 x4 t1 q1) y35 y36 = some r → K5 a w := by
    intro m A10 nn11 cp28 y35 y36 g156 g157 g158 g159 g160 g161 a w S h0
    delta smithyref14_State_Set.j5 at h0
    refine hK5 a w ?_
    refine c_region ?_
    refine s_fieldAddr S rfl I83_0 T43 (by decide) rfl rfl ?_; clear S a; intro a S
    refine s_loada S rfl .here T43 (s' := [.ints .u64 ((gt t1.1.2.2.2.2 y26).1) 4]) rfl rfl ?_; clear S a; intro a S
    refine s_loada S rfl (.there (.there (.there (.there (.there .here))))) T43 (s' := [.ints .u64 x3 4]) rfl rfl ?_; clear S a; intro a S
    refine s_nea S rfl rfl Tryz.underlying43 Tryz.underlying41 T41 Q43 rfl ?_; clear S a; intro a S
    refine c_end ?_
    rcases ite_of h0 with ⟨c6, h1⟩ | ⟨c6, h1⟩ <;> clear h0
    ·refine c_condT S rfl c6 ?_
     refine c_region' ?_
     refine s_move S rfl rfl ?_; clear S a; intro a S
     refine s_loada S rfl .here T83 (s' := [.ints .u64 ((gt t1.1.2.2.2.2 y26).1) 4, .ints .u64 ((gt t1.1.2.2.2.2 y26).2) 4]) rfl rfl ?_; clear S a; intro a S
     refine s_bldSl S (ty' := Y83) (ds := [(0, (.agg [.ints .u64 ((gt t1.1.2.2.2.2 y26).1) 4, .ints .u64 ((gt t1.1.2.2.2.2 y26).2) 4]))]) (z := ([0, 0, 0, 0], [0, 0, 0, 0])) (c0 := ((), ())) (ys := [gt t1.1.2.2.2.2 y26]) (cs := [((), ())]) rfl Tryz.underlying69 J83 Z83 rfl ⟨rfl, rfl, trivial⟩ rfl rfl rfl rfl rfl rfl ?_; clear S a w; intro g162 a w S
     obtain ⟨c7, h2⟩ := chk_of h1; clear h1
     refine s_app S (k2 := 1) (ys := [gt t1.1.2.2.2.2 y26]) rfl (fun _ _ => (.there (.there .here))) rfl rfl (S.holds _ (Pull.mem .here).1).1 (Res.row.src (S.holds _ (Pull.mem .here).1)) Tryz.underlying69 J83 c7 rfl ?_; clear S a w; intro A11 cp29 a w S
     refine s_assign S rfl rfl ?_; clear S a; intro a S
     refine c_end' ?_
     refine x_blockN ?_
     refine x_thenN ?_
     exact j4 _ A11 (nn11 + 1) cp29 (y35 ++ [gt t1.1.2.2.2.2 y26]) y36 g157 g158 g159 g160 g161 a w (S.sub (subR rfl) (.cons (.there (.there .here)) (.cons (.there (.there .here)) (.cons (.there (.there .here)) (.cons (.there (.there .here)) (.cons (.there (.there .here)) (.cons (.there (.there .here)) .nil))))))) h2
    ·refine c_condF S rfl c6 ?_
     refine wp_skip ?_
     refine x_blockN ?_
     refine x_thenN ?_
     exact j4 _ A10 nn11 cp28 y35 y36 g157 g158 g159 g160 g161 a w (S.sub (subR rfl) (.cons (.there .here) (.cons (.there .here) (.cons (.there .here) (.cons (.there .here) (.cons (.there .here) (.cons (.there .here) .nil))))))) h1
   refine wp_seq_k ?_
   intro K6 hK6
   have j6 : ∀ (m : Mem) (y37 : Bool) (g163 : Nat) (g164 : Nat) (g165 : Nat) (g166 : Nat) (g167 : Nat) (g168 : Nat) (a : Act) (w : World), St 79 m b0 [(41, (.v (.bool y37))), (13, (.v (.pointer (some ⟨g163, 0, none⟩)))), (22, (.v (.int .i64 y26))), (21, (.v (.int .i64 ((t1.1.2.2.2.2).length : Int)))), (11, (.v (.bool y27))), (10, (.v (.slice A6 nn8 cp20))), (9, (.v (.pointer (some ⟨g164, 0, none⟩)))), (8, (.v (.pointer (some ⟨g165, 0, none⟩)))), (7, (.v (.pointer (some ⟨g166, 0, none⟩)))), (6, (.v (.pointer (some ⟨g167, 0, none⟩)))), (4, (.v (.pointer (some ⟨g168, 0, none⟩))))] [Res.cells g163 83 [.ints .u64 ((gt t1.1.2.2.2.2 y26).1) 4, .ints .u64 ((gt t1.1.2.2.2.2 y26).2) 4], Res.row Y83 83 A6 nn8 cp20 y28, Res.cells g164 122 (Y122.segs t1 (((), (), (), (A7, cp21), (A8, cp22)), (), ())), Res.cells g165 37 [.one (.slice none 0 0), .one (.slice none 0 0), .one (.slice none 0 0), .one (.slice none 0 0), .one (.int .i64 0), .one (.slice none 0 0), .one (.bool false), .one (.slice none 0 0)], Res.cells g166 43 [.ints .u64 x4 4], Res.cells g167 43 [.ints .u64 x3 4], Res.cells g168 37 [.sl ch_0_0.1.1 ((ST37.un x1).1).length ch_0_0.1.2 (RdS Y71 ch_0_0.1.1 ((ST37.un x1).1)), .sl ch_0_0.2.1.1 ((ST37.un x1).2.1).length ch_0_0.2.1.2 (RdS Y122 ch_0_0.2.1.1 ((ST37.un x1).2.1)), .sl ch_0_0.2.2.1.1 ((ST37.un x1).2.2.1).length ch_0_0.2.2.1.2 (RdS (Ty.arr .u8 20) ch_0_0.2.2.1.1 ((ST37.un x1).2.2.1)), .sl ch_0_0.2.2.2.1.1 ((ST37.un x1).2.2.2.1).length ch_0_0.2.2.2.1.2 (RdS Y133 ch_0_0.2.2.2.1.1 ((ST37.un x1).2.2.2.1)), .one (.int .i64 ((ST37.un x1).2.2.2.2.1)), .sl ch_0_0.2.2.2.2.2.1.1 ((ST37.un x1).2.2.2.2.2.1).length ch_0_0.2.2.2.2.2.1.2 (RdS Y100 ch_0_0.2.2.2.2.2.1.1 ((ST37.un x1).2.2.2.2.2.1)), .one (.bool ((ST37.un x1).2.2.2.2.2.2.1)), .sl ch_0_0.2.2.2.2.2.2.2.1 ((ST37.un x1).2.2.2.2.2.2.2).length ch_0_0.2.2.2.2.2.2.2.2 (SR37 ch_0_0.2.2.2.2.2.2.2.1 ((ST37.un x1).2.2.2.2.2.2.2))]] a w → smithyref14_State_Set.j6 x3 x4 t1 y26 y27 y28 (smithyref14_State_Set.l1 k x1 x3 x4 t1 q1) y37 = some r → K6 a w := by
    intro m y37 g163 g164 g165 g166 g167 g168 a w S h0
    delta smithyref14_State_Set.j6 at h0
    refine hK6 a w ?_
    rcases ite_of h0 with ⟨c8, h1⟩ | ⟨c8, h1⟩ <;> clear h0
    ·refine c_condT S rfl c8 ?_
     refine c_region ?_
     refine s_assign S rfl rfl ?_; clear S a; intro a S
     refine c_end ?_
     refine c_region ?_
     refine s_loada S rfl (.there (.there (.there (.there .here)))) T43 (s' := [.ints .u64 x4 4]) rfl rfl ?_; clear S a; intro a S
     refine s_build S (ds := []) (dv := (.agg [.ints .u64 [0, 0, 0, 0] 4])) rfl (fun _ => by kernel_rfl) ⟨rfl, trivial⟩ rfl ?_; clear S a; intro a S
     refine s_nea S rfl rfl Tryz.underlying43 Tryz.underlying41 T41 Q43 rfl ?_; clear S a; intro a S
     refine c_end ?_
     rcases ite_of h1 with ⟨c9, h2⟩ | ⟨c9, h2⟩ <;> clear h1
     ·refine c_condT S rfl c9 ?_
      refine c_region' ?_
      refine s_move S rfl rfl ?_; clear S a; intro a S
      refine s_loada S rfl (.there (.there (.there (.there (.there .here))))) T43 (s' := [.ints .u64 x3 4]) rfl rfl ?_; clear S a; intro a S
      refine s_loada S rfl (.there (.there (.there (.there .here)))) T43 (s' := [.ints .u64 x4 4]) rfl rfl ?_; clear S a; intro a S
      refine s_bldS S (ds := [(0, (.agg [.ints .u64 x3 4])), (1, (.agg [.ints .u64 x4 4]))]) (zs := [.ints .u64 [0, 0, 0, 0] 4, .ints .u64 [0, 0, 0, 0] 4]) (s' := [.ints .u64 x3 4, .ints .u64 x4 4]) rfl Tryz.underlying83 P83 Z83 ⟨rfl, rfl, trivial⟩ rfl rfl ?_; clear S a; intro a S
      refine s_bldSl S (ty' := Y83) (ds := [(0, (.agg [.ints .u64 x3 4, .ints .u64 x4 4]))]) (z := ([0, 0, 0, 0], [0, 0, 0, 0])) (c0 := ((), ())) (ys := [(x3, x4)]) (cs := [((), ())]) rfl Tryz.underlying69 J83 Z83 rfl ⟨rfl, rfl, trivial⟩ rfl rfl rfl rfl rfl rfl ?_; clear S a w; intro g169 a w S
      obtain ⟨c10, h3⟩ := chk_of h2; clear h2
      refine s_app S (k2 := 1) (ys := [(x3, x4)]) rfl (fun _ _ => (.there (.there .here))) rfl rfl (S.holds _ (Pull.mem .here).1).1 (Res.row.src (S.holds _ (Pull.mem .here).1)) Tryz.underlying69 J83 c10 rfl ?_; clear S a w; intro A12 cp30 a w S
      refine s_assign S rfl rfl ?_; clear S a; intro a S
      refine c_end' ?_
      refine x_thenN ?_
      exact j5 _ A12 (nn8 + 1) cp30 (y28 ++ [(x3, x4)]) true g163 g164 g165 g166 g167 g168 a w (S.sub (subR rfl) (.cons (.there .here) (.cons (.there .here) (.cons (.there .here) (.cons (.there .here) (.cons (.there .here) (.cons (.there .here) (.cons (.there .here) .nil)))))))) h3
     ·refine c_condF S rfl c9 ?_
      refine wp_skip ?_
      refine x_thenN ?_
      exact j5 _ A6 nn8 cp20 y28 true g163 g164 g165 g166 g167 g168 a w (S.sub (subR rfl) (.cons .here (.cons .here (.cons .here (.cons .here (.cons .here (.cons .here (.cons .here .nil)))))))) h2
    ·refine c_condF S rfl c8 ?_
     refine wp_skip ?_
     refine x_thenN ?_
     exact j5 _ A6 nn8 cp20 y28 y27 g163 g164 g165 g166 g167 g168 a w (S.sub (subR rfl) (.cons .here (.cons .here (.cons .here (.cons .here (.cons .here (.cons .here (.cons .here .nil)))))))) h1
   refine c_heldS S (.take 0 (.take 1 (.take 2 (.take 3 (.take 5 (.take 6 (.alts (.run 4 true (.alts (.run 7 true (.alts (.run 8 true (.take 9 (.take 10 .done)) .nil)) .nil)) .nil)))))))) 11 [Res.cells g148 83 [.ints .u64 ((gt t1.1.2.2.2.2 y26).1) 4, .ints .u64 ((gt t1.1.2.2.2.2 y26).2) 4], Res.row Y83 83 A6 nn8 cp20 y28, Res.cells g123 122 (Y122.segs t1 (((), (), (), (A7, cp21), (A8, cp22)), (), ())), Res.cells g124 37 [.one (.slice none 0 0), .one (.slice none 0 0), .one (.slice none 0 0), .one (.slice none 0 0), .one (.int .i64 0), .one (.slice none 0 0), .one (.bool false), .one (.slice none 0 0)], Res.cells g125 43 [.ints .u64 x4 4], Res.cells g126 43 [.ints .u64 x3 4], Res.cells g127 37 [.sl ch_0_0.1.1 ((ST37.un x1).1).length ch_0_0.1.2 (RdS Y71 ch_0_0.1.1 ((ST37.un x1).1)), .sl ch_0_0.2.1.1 ((ST37.un x1).2.1).length ch_0_0.2.1.2 (RdS Y122 ch_0_0.2.1.1 ((ST37.un x1).2.1)), .sl ch_0_0.2.2.1.1 ((ST37.un x1).2.2.1).length ch_0_0.2.2.1.2 (RdS (Ty.arr .u8 20) ch_0_0.2.2.1.1 ((ST37.un x1).2.2.1)), .sl ch_0_0.2.2.2.1.1 ((ST37.un x1).2.2.2.1).length ch_0_0.2.2.2.1.2 (RdS Y133 ch_0_0.2.2.2.1.1 ((ST37.un x1).2.2.2.1)), .one (.int .i64 ((ST37.un x1).2.2.2.2.1)), .sl ch_0_0.2.2.2.2.2.1.1 ((ST37.un x1).2.2.2.2.2.1).length ch_0_0.2.2.2.2.2.1.2 (RdS Y100 ch_0_0.2.2.2.2.2.1.1 ((ST37.un x1).2.2.2.2.2.1)), .one (.bool ((ST37.un x1).2.2.2.2.2.2.1)), .sl ch_0_0.2.2.2.2.2.2.2.1 ((ST37.un x1).2.2.2.2.2.2.2).length ch_0_0.2.2.2.2.2.2.2.2 (SR37 ch_0_0.2.2.2.2.2.2.2.1 ((ST37.un x1).2.2.2.2.2.2.2))]] (.cons .here (.cons .here (.cons .here (.cons .here (.cons .here (.cons .here (.cons .here .nil))))))) ⟨Res.stay_cells, Res.stay_row (flat_prod flat_arr flat_arr), Res.stay_cells, Res.stay_cells, Res.stay_cells, Res.stay_cells, Res.stay_cells, trivial⟩ [(13, (.v (.pointer (some ⟨g148, 0, none⟩)))), (11, (.v (.bool y27))), (6, (.v (.pointer (some ⟨g126, 0, none⟩))))] (subR rfl) (by kernel_rfl) (by kernel_rfl) ?_; clear S; intro w S CL hw le
   refine h_move S CL hw le (subR rfl) rfl rfl rfl trivial ?_; clear S CL a; intro a S CL
   refine h_not S CL hw le (subR rfl) rfl rfl rfl trivial ?_; clear S CL a; intro a S CL
   refine h_move S CL hw le (subR rfl) rfl rfl rfl trivial ?_; clear S CL a; intro a S CL
   rcases ite_of h2 with ⟨c11, h3⟩ | ⟨c11, h3⟩ <;> clear h2
   ·refine h_loada S CL hw le (subR rfl) rfl (.there (.there (.there (.there (.there .here))))) T43 (s' := [.ints .u64 x3 4]) rfl rfl rfl ⟨_, _, rfl, rfl, c11⟩ ?_; clear S CL a; intro a S CL
    refine h_fieldAddr S CL hw le (subR rfl) rfl I83_0 T43 (by decide) rfl rfl rfl ⟨_, _, rfl, rfl, c11⟩ ?_; clear S CL a; intro a S CL
    refine h_loada S CL hw le (subR rfl) rfl .here T43 (s' := [.ints .u64 ((gt t1.1.2.2.2.2 y26).1) 4]) rfl rfl rfl ⟨_, _, rfl, rfl, c11⟩ ?_; clear S CL a; intro a S CL
    refine h_run' S rfl ⟨_, _, rfl, rfl, c11⟩ ?_
    obtain ⟨t6, et6, h4⟩ := bind_of h3; clear h3
    refine s_callP S (fun (ch : Unit) => ((.agg [.ints .i64 t6 32]) : D)) N79 rfl rfl (smithyref01_Of.ok k x3 t6 et6 _ _) ?_; clear S a; intro ch4 m le1 a w S
    replace le := le.trans le1
    replace hw := CL.again hw S (.cons .here (.cons .here (.cons .here (.cons .here (.cons .here (.cons .here (.cons .here .nil))))))) le
    refine h_back ⟨fun _ => hw, ?_⟩
    refine h_run' S rfl ⟨_, _, rfl, rfl, c11⟩ ?_
    obtain ⟨t7, et7, h5⟩ := bind_of h4; clear h4
    refine s_callP S (fun (ch : Unit) => ((.agg [.ints .i64 t7 32]) : D)) N79 rfl rfl (smithyref01_Of.ok k ((gt t1.1.2.2.2.2 y26).1) t7 et7 _ _) ?_; clear S a; intro ch5 m le1 a w S
    replace le := le.trans le1
    replace hw := CL.again hw S (.cons .here (.cons .here (.cons .here (.cons .here (.cons .here (.cons .here (.cons .here .nil))))))) le
    refine h_back ⟨fun _ => hw, ?_⟩
    refine h_run' S rfl ⟨_, _, rfl, rfl, c11⟩ ?_
    obtain ⟨t8, et8, h6⟩ := bind_of h5; clear h5
    refine s_callP S (fun (ch : Unit) => ((.v (.int .i64 t8)) : D)) N78 rfl rfl (smithyref01_Compare.ok k t6 t7 t8 et8 _ _) ?_; clear S a; intro ch6 m le1 a w S
    replace le := le.trans le1
    replace hw := CL.again hw S (.cons .here (.cons .here (.cons .here (.cons .here (.cons .here (.cons .here (.cons .here .nil))))))) le
    refine h_back ⟨fun _ => hw, ?_⟩
    replace CL := CL.add (t := 39) (d := (.v (.int .i64 t8))) S rfl rfl
    refine h_bin S CL hw le (subR rfl) rfl rfl rfl rfl rfl ⟨_, _, rfl, rfl, c11⟩ ?_; clear S CL a; intro a S CL
    refine h_pick S CL hw le (subR rfl) (b := true) (hc_of rfl c11) rfl rfl rfl trivial ?_; clear S CL a; intro a S CL
    refine h_done ?_; clear CL hw le
    refine x_thenN ?_
    exact j6 _ (decide (t8 ≤ 0)) g148 g123 g124 g125 g126 g127 a w (S.sub (subR rfl) (.cons .here (.cons .here (.cons .here (.cons .here (.cons .here (.cons .here (.cons .here .nil)))))))) h6
   ·refine h_skip S CL rfl rfl rfl (ne_bool c11) rfl ?_; clear S CL a; intro a S CL
    refine h_skip S CL rfl rfl rfl (ne_bool c11) rfl ?_; clear S CL a; intro a S CL
    refine h_skip S CL rfl rfl rfl (ne_bool c11) rfl ?_; clear S CL a; intro a S CL
    refine h_skipRt S rfl rfl rfl (ne_bool c11) rfl ?_; clear S a; intro a S
    replace hw := CL.again hw S (.cons .here (.cons .here (.cons .here (.cons .here (.cons .here (.cons .here (.cons .here .nil))))))) le
    refine h_back ⟨fun _ => hw, ?_⟩
    refine h_skipRt S rfl rfl rfl (ne_bool c11) rfl ?_; clear S a; intro a S
    replace hw := CL.again hw S (.cons .here (.cons .here (.cons .here (.cons .here (.cons .here (.cons .here (.cons .here .nil))))))) le
    refine h_back ⟨fun _ => hw, ?_⟩
    refine h_skipRt S rfl rfl rfl (ne_bool c11) rfl ?_; clear S a; intro a S
    replace hw := CL.again hw S (.cons .here (.cons .here (.cons .here (.cons .here (.cons .here (.cons .here (.cons .here .nil))))))) le
    refine h_back ⟨fun _ => hw, ?_⟩
    replace CL := CL.add (t := 39) (d := .u) S rfl rfl
    refine h_skip S CL rfl rfl rfl (ne_bool c11) rfl ?_; clear S CL a; intro a S CL
    refine h_pick S CL hw le (subR rfl) (b := false) (hc_of rfl c11) rfl rfl rfl trivial ?_; clear S CL a; intro a S CL
    refine h_done ?_; clear CL hw le
    refine x_thenN ?_
    exact j6 _ false g148 g123 g124 g125 g126 g127 a w (S.sub (subR rfl) (.cons .here (.cons .here (.cons .here (.cons .here (.cons .here (.cons .here (.cons .here .nil)))))))) h3
  ·refine c_condF S rfl c4 ?_
   refine wp_exit ?_
   refine x_thenX ?_
   refine x_thenX ?_
   refine x_blockX ?_
   refine x_thenN ?_
   exact j1 _ y27 A6 nn8 cp20 y28 g123 g124 g125 g126 g127 A7 cp21 A8 cp22 a w (S.sub (subR rfl) (.cons .here (.cons .here (.cons .here (.cons .here (.cons .here (.cons .here .nil))))))) h1
end
end GW
