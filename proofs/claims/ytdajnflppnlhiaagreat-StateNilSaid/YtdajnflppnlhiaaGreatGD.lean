import Derived.Test.YtdajnflppnlhiaaGreatProg
import Derived.Test.YtdajnflppnlhiaaGreatGC
set_option linter.unusedVariables false
set_option linter.unusedSimpArgs false
set_option maxRecDepth 10000
set_option maxHeartbeats 4000000
namespace GW
open Go Go.RowKit Go.Proofs
noncomputable section
abbrev smithyref14_State_Cold.Ty : Type := ST37 → (List Int) → Option Bool
def smithyref14_State_Cold.Ctr (s : smithyref14_State_Cold.Ty) : Prop := ∀ (x1 : ST37) (x2 : List Int) (ch_0_0 : (Option Addr × Nat) × (Option Addr × Nat) × (Option Addr × Nat) × (Option Addr × Nat) × Unit × (Option Addr × Nat) × Unit × (Option Addr × Nat)) (r : Bool) (h0 : s x1 x2 = some r) (mi : Mem) (w0 : World), okL mi [(.agg [.sl ch_0_0.1.1 ((ST37.un x1).1).length ch_0_0.1.2 (RdS Y71 ch_0_0.1.1 ((ST37.un x1).1)), .sl ch_0_0.2.1.1 ((ST37.un x1).2.1).length ch_0_0.2.1.2 (RdS Y122 ch_0_0.2.1.1 ((ST37.un x1).2.1)), .sl ch_0_0.2.2.1.1 ((ST37.un x1).2.2.1).length ch_0_0.2.2.1.2 (RdS (Ty.arr .u8 20) ch_0_0.2.2.1.1 ((ST37.un x1).2.2.1)), .sl ch_0_0.2.2.2.1.1 ((ST37.un x1).2.2.2.1).length ch_0_0.2.2.2.1.2 (RdS Y133 ch_0_0.2.2.2.1.1 ((ST37.un x1).2.2.2.1)), .one (.int .i64 ((ST37.un x1).2.2.2.2.1)), .sl ch_0_0.2.2.2.2.2.1.1 ((ST37.un x1).2.2.2.2.2.1).length ch_0_0.2.2.2.2.2.1.2 (RdS Y100 ch_0_0.2.2.2.2.2.1.1 ((ST37.un x1).2.2.2.2.2.1)), .one (.bool ((ST37.un x1).2.2.2.2.2.2.1)), .sl ch_0_0.2.2.2.2.2.2.2.1 ((ST37.un x1).2.2.2.2.2.2.2).length ch_0_0.2.2.2.2.2.2.2.2 (SR37 ch_0_0.2.2.2.2.2.2.2.1 ((ST37.un x1).2.2.2.2.2.2.2))]), (.agg [.ints .u8 x2 20])] → Pre mi [] w0 → Calls Tryz.prog 80 (([(.agg [.sl ch_0_0.1.1 ((ST37.un x1).1).length ch_0_0.1.2 (RdS Y71 ch_0_0.1.1 ((ST37.un x1).1)), .sl ch_0_0.2.1.1 ((ST37.un x1).2.1).length ch_0_0.2.1.2 (RdS Y122 ch_0_0.2.1.1 ((ST37.un x1).2.1)), .sl ch_0_0.2.2.1.1 ((ST37.un x1).2.2.1).length ch_0_0.2.2.1.2 (RdS (Ty.arr .u8 20) ch_0_0.2.2.1.1 ((ST37.un x1).2.2.1)), .sl ch_0_0.2.2.2.1.1 ((ST37.un x1).2.2.2.1).length ch_0_0.2.2.2.1.2 (RdS Y133 ch_0_0.2.2.2.1.1 ((ST37.un x1).2.2.2.1)), .one (.int .i64 ((ST37.un x1).2.2.2.2.1)), .sl ch_0_0.2.2.2.2.2.1.1 ((ST37.un x1).2.2.2.2.2.1).length ch_0_0.2.2.2.2.2.1.2 (RdS Y100 ch_0_0.2.2.2.2.2.1.1 ((ST37.un x1).2.2.2.2.2.1)), .one (.bool ((ST37.un x1).2.2.2.2.2.2.1)), .sl ch_0_0.2.2.2.2.2.2.2.1 ((ST37.un x1).2.2.2.2.2.2.2).length ch_0_0.2.2.2.2.2.2.2.2 (SR37 ch_0_0.2.2.2.2.2.2.2.1 ((ST37.un x1).2.2.2.2.2.2.2))]), (.agg [.ints .u8 x2 20])] : List D).map D.val).toArray w0 (RetX mi [] (fun (ch : Unit) => ((.v (.bool r)) : D)) (fun (ch : Unit) => []) w0)
def smithyref14_State_Cold.j1 : Option Bool := some true
def smithyref14_State_Cold.b1 (x1 : ST37) (x2 : List Int) (rec1 : Int → Option Bool) (y1 : Int) : Option Bool := if (decide (y1 < (((ST37.un x1).2.2.1).length : Int))) = true then (if (0 : Int) ≤ y1 ∧ y1 < (((ST37.un x1).2.2.1).length : Int) then (if (decide (gt ((ST37.un x1).2.2.1) y1 = x2)) = true then (some false) else (rec1 (wr .i64 (y1 + 1)))) else none) else smithyref14_State_Cold.j1
def smithyref14_State_Cold.l1 (x1 : ST37) (x2 : List Int) : Nat → Int → Option Bool
  | 0, _ => none
  | q + 1, y1 => smithyref14_State_Cold.b1 x1 x2 (smithyref14_State_Cold.l1 x1 x2 q) y1
def smithyref14_State_Cold.f (k : Nat) (x1 : ST37) (x2 : List Int) : Option Bool := smithyref14_State_Cold.l1 x1 x2 k 0
theorem smithyref14_State_Cold.ok (k : Nat) : smithyref14_State_Cold.Ctr (smithyref14_State_Cold.f k) := by
 intro x1 x2 ch_0_0 r h0 mi w0 ok hm
 delta smithyref14_State_Cold.f at h0
 refine c_enterX (n := 20) [(.agg [.sl ch_0_0.1.1 ((ST37.un x1).1).length ch_0_0.1.2 (RdS Y71 ch_0_0.1.1 ((ST37.un x1).1)), .sl ch_0_0.2.1.1 ((ST37.un x1).2.1).length ch_0_0.2.1.2 (RdS Y122 ch_0_0.2.1.1 ((ST37.un x1).2.1)), .sl ch_0_0.2.2.1.1 ((ST37.un x1).2.2.1).length ch_0_0.2.2.1.2 (RdS (Ty.arr .u8 20) ch_0_0.2.2.1.1 ((ST37.un x1).2.2.1)), .sl ch_0_0.2.2.2.1.1 ((ST37.un x1).2.2.2.1).length ch_0_0.2.2.2.1.2 (RdS Y133 ch_0_0.2.2.2.1.1 ((ST37.un x1).2.2.2.1)), .one (.int .i64 ((ST37.un x1).2.2.2.2.1)), .sl ch_0_0.2.2.2.2.2.1.1 ((ST37.un x1).2.2.2.2.2.1).length ch_0_0.2.2.2.2.2.1.2 (RdS Y100 ch_0_0.2.2.2.2.2.1.1 ((ST37.un x1).2.2.2.2.2.1)), .one (.bool ((ST37.un x1).2.2.2.2.2.2.1)), .sl ch_0_0.2.2.2.2.2.2.2.1 ((ST37.un x1).2.2.2.2.2.2.2).length ch_0_0.2.2.2.2.2.2.2.2 (SR37 ch_0_0.2.2.2.2.2.2.2.1 ((ST37.un x1).2.2.2.2.2.2.2))]), (.agg [.ints .u8 x2 20])] (l := [(0, (.agg [.sl ch_0_0.1.1 ((ST37.un x1).1).length ch_0_0.1.2 (RdS Y71 ch_0_0.1.1 ((ST37.un x1).1)), .sl ch_0_0.2.1.1 ((ST37.un x1).2.1).length ch_0_0.2.1.2 (RdS Y122 ch_0_0.2.1.1 ((ST37.un x1).2.1)), .sl ch_0_0.2.2.1.1 ((ST37.un x1).2.2.1).length ch_0_0.2.2.1.2 (RdS (Ty.arr .u8 20) ch_0_0.2.2.1.1 ((ST37.un x1).2.2.1)), .sl ch_0_0.2.2.2.1.1 ((ST37.un x1).2.2.2.1).length ch_0_0.2.2.2.1.2 (RdS Y133 ch_0_0.2.2.2.1.1 ((ST37.un x1).2.2.2.1)), .one (.int .i64 ((ST37.un x1).2.2.2.2.1)), .sl ch_0_0.2.2.2.2.2.1.1 ((ST37.un x1).2.2.2.2.2.1).length ch_0_0.2.2.2.2.2.1.2 (RdS Y100 ch_0_0.2.2.2.2.2.1.1 ((ST37.un x1).2.2.2.2.2.1)), .one (.bool ((ST37.un x1).2.2.2.2.2.2.1)), .sl ch_0_0.2.2.2.2.2.2.2.1 ((ST37.un x1).2.2.2.2.2.2.2).length ch_0_0.2.2.2.2.2.2.2.2 (SR37 ch_0_0.2.2.2.2.2.2.2.1 ((ST37.un x1).2.2.2.2.2.2.2))])), (1, (.agg [.ints .u8 x2 20]))]) Tryz.func80 rfl rfl rfl rfl ok hm ?_
 clear ok hm
 intro b0 hb a S
 refine c_region ?_
 refine s_box S rfl rfl rfl ?_; clear S a; intro g1 a w S
 refine s_box S rfl rfl rfl ?_; clear S a w; intro g2 a w S
 refine s_assign S rfl rfl ?_; clear S a; intro a S
 refine c_end ?_
 refine wp_seq_k ?_
 intro K1 hK1
 have j1 : ∀ (m : Mem) (a : Act) (w : World), St 20 m b0 [] [] a w → smithyref14_State_Cold.j1 = some r → K1 a w := by
  intro m a w S h0
  delta smithyref14_State_Cold.j1 at h0
  refine hK1 a w ?_
  refine c_region ?_
  refine s_assign S rfl rfl ?_; clear S a; intro a S
  refine c_end ?_
  refine wp_ret ?_
  obtain rfl := Option.some.inj h0
  exact b_ret1 (d := (.v (.bool true))) S rfl rfl fun ok => S.retX (Hx := []) hb _ _ (() : Unit) .nil ok
 refine c_region ?_
 refine s_fieldAddr S rfl I37_2 T32 (by decide) rfl rfl ?_; clear S a; intro a S
 refine s_loadSl S rfl (.there .here) T32 (A := ch_0_0.2.2.1.1) (len := ((ST37.un x1).2.2.1).length) (cap := ch_0_0.2.2.1.2) rfl rfl ?_; clear S a; intro a S
 refine s_lenS S rfl Tryz.underlying32 rfl ?_; clear S a; intro a S
 refine s_move S rfl rfl ?_; clear S a; intro a S
 refine c_end ?_
 refine wp_block ?_
 refine c_loop (fun q1 a w => ∃ (m : Mem) (y1 : Int) (g13 : Nat) (g14 : Nat), St 20 m b0 [(9, (.v (.int .i64 y1))), (8, (.v (.int .i64 (((ST37.un x1).2.2.1).length : Int)))), (3, (.v (.pointer (some ⟨g13, 0, none⟩)))), (2, (.v (.pointer (some ⟨g14, 0, none⟩))))] [Res.cells g13 40 [.ints .u8 x2 20], Res.cells g14 37 [.sl ch_0_0.1.1 ((ST37.un x1).1).length ch_0_0.1.2 (RdS Y71 ch_0_0.1.1 ((ST37.un x1).1)), .sl ch_0_0.2.1.1 ((ST37.un x1).2.1).length ch_0_0.2.1.2 (RdS Y122 ch_0_0.2.1.1 ((ST37.un x1).2.1)), .sl ch_0_0.2.2.1.1 ((ST37.un x1).2.2.1).length ch_0_0.2.2.1.2 (RdS (Ty.arr .u8 20) ch_0_0.2.2.1.1 ((ST37.un x1).2.2.1)), .sl ch_0_0.2.2.2.1.1 ((ST37.un x1).2.2.2.1).length ch_0_0.2.2.2.1.2 (RdS Y133 ch_0_0.2.2.2.1.1 ((ST37.un x1).2.2.2.1)), .one (.int .i64 ((ST37.un x1).2.2.2.2.1)), .sl ch_0_0.2.2.2.2.2.1.1 ((ST37.un x1).2.2.2.2.2.1).length ch_0_0.2.2.2.2.2.1.2 (RdS Y100 ch_0_0.2.2.2.2.2.1.1 ((ST37.un x1).2.2.2.2.2.1)), .one (.bool ((ST37.un x1).2.2.2.2.2.2.1)), .sl ch_0_0.2.2.2.2.2.2.2.1 ((ST37.un x1).2.2.2.2.2.2.2).length ch_0_0.2.2.2.2.2.2.2.2 (SR37 ch_0_0.2.2.2.2.2.2.2.1 ((ST37.un x1).2.2.2.2.2.2.2))]] a w ∧ smithyref14_State_Cold.l1 x1 x2 q1 y1 = some r) ?_ ?_ (k := k) ⟨_, 0, g2, g1, (S.sub (subR rfl) (.cons .here (.cons .here .nil))), h0⟩
 ·rintro a w ⟨m, y1, g13, g14, S, h0⟩
  exact (nomatch (show (none : Option Bool) = some r from h0))
 ·clear S h0
  rintro q1 a w ⟨m, y1, g13, g14, S, h0⟩
  replace h0 : smithyref14_State_Cold.b1 x1 x2 (smithyref14_State_Cold.l1 x1 x2 q1) y1 = some r := h0
  delta smithyref14_State_Cold.b1 at h0
  refine c_region ?_
  refine s_bin S rfl rfl rfl rfl ?_; clear S a; intro a S
  refine c_end ?_
  refine wp_seq ?_
  rcases ite_of h0 with ⟨c1, h1⟩ | ⟨c1, h1⟩ <;> clear h0
  ·refine c_condT S rfl c1 ?_
   refine wp_skip ?_
   refine x_thenN ?_
   refine wp_seq ?_
   refine wp_block ?_
   refine c_region ?_
   refine s_move S rfl rfl ?_; clear S a; intro a S
   refine s_assign S rfl rfl ?_; clear S a; intro a S
   refine c_end ?_
   refine wp_seq (c_heldS S (.take 0 (.take 1 (.take 2 (.take 3 (.take 4 (.take 5 (.take 6 .done))))))) 7 [Res.cells g13 40 [.ints .u8 x2 20], Res.cells g14 37 [.sl ch_0_0.1.1 ((ST37.un x1).1).length ch_0_0.1.2 (RdS Y71 ch_0_0.1.1 ((ST37.un x1).1)), .sl ch_0_0.2.1.1 ((ST37.un x1).2.1).length ch_0_0.2.1.2 (RdS Y122 ch_0_0.2.1.1 ((ST37.un x1).2.1)), .sl ch_0_0.2.2.1.1 ((ST37.un x1).2.2.1).length ch_0_0.2.2.1.2 (RdS (Ty.arr .u8 20) ch_0_0.2.2.1.1 ((ST37.un x1).2.2.1)), .sl ch_0_0.2.2.2.1.1 ((ST37.un x1).2.2.2.1).length ch_0_0.2.2.2.1.2 (RdS Y133 ch_0_0.2.2.2.1.1 ((ST37.un x1).2.2.2.1)), .one (.int .i64 ((ST37.un x1).2.2.2.2.1)), .sl ch_0_0.2.2.2.2.2.1.1 ((ST37.un x1).2.2.2.2.2.1).length ch_0_0.2.2.2.2.2.1.2 (RdS Y100 ch_0_0.2.2.2.2.2.1.1 ((ST37.un x1).2.2.2.2.2.1)), .one (.bool ((ST37.un x1).2.2.2.2.2.2.1)), .sl ch_0_0.2.2.2.2.2.2.2.1 ((ST37.un x1).2.2.2.2.2.2.2).length ch_0_0.2.2.2.2.2.2.2.2 (SR37 ch_0_0.2.2.2.2.2.2.2.1 ((ST37.un x1).2.2.2.2.2.2.2))]] (.cons .here (.cons .here .nil)) ⟨Res.stay_cells, Res.stay_cells, trivial⟩ [(5, (.v (.int .i64 y1))), (3, (.v (.pointer (some ⟨g13, 0, none⟩)))), (2, (.v (.pointer (some ⟨g14, 0, none⟩))))] (subR rfl) (by kernel_rfl) (by kernel_rfl) ?_); clear S; intro w S CL hw le
   refine h_fieldAddr S CL hw le (subR rfl) rfl I37_2 T32 (by decide) rfl rfl rfl trivial ?_; clear S CL a; intro a S CL
   refine h_loadSl S CL hw le (subR rfl) rfl (.there .here) T32 (A := ch_0_0.2.2.1.1) (len := ((ST37.un x1).2.2.1).length) (cap := ch_0_0.2.2.1.2) rfl rfl rfl trivial ?_; clear S CL a; intro a S CL
   refine h_move S CL hw le (subR rfl) rfl rfl rfl trivial ?_; clear S CL a; intro a S CL
   obtain ⟨c2, h2⟩ := chk_of h1; clear h1
   refine h_iaddrS S CL hw le (subR rfl) rfl rfl rfl Tryz.underlying32 T40 c2.1 c2.2 rfl rfl trivial ?_; clear S CL a; intro p1 a S CL
   refine h_ldA S CL hw le (subR rfl) (fun (c : Unit) => [.ints .u8 (gt ((ST37.un x1).2.2.1) y1) 20]) rfl T40 (fun _ => rfl) rfl rfl trivial ?_; clear S CL a; intro ch1 a S CL
   refine h_loada S CL hw le (subR rfl) rfl .here T40 (s' := [.ints .u8 x2 20]) rfl rfl rfl trivial ?_; clear S CL a; intro a S CL
   refine h_eqa S CL hw le (subR rfl) rfl rfl Tryz.underlying40 Tryz.underlying5 T5 Q40 rfl rfl trivial ?_; clear S CL a; intro a S CL
   refine h_done ?_; clear CL hw le
   refine x_thenN ?_
   rcases ite_of h2 with ⟨c3, h3⟩ | ⟨c3, h3⟩ <;> clear h2
   ·refine c_condT S rfl c3 ?_
    refine c_region ?_
    refine s_assign S rfl rfl ?_; clear S a; intro a S
    refine c_end ?_
    refine wp_ret ?_
    refine x_blockR ?_
    refine x_thenR ?_
    refine x_thenR ?_
    refine x_blockR ?_
    refine x_thenR ?_
    obtain rfl := Option.some.inj h3
    exact b_ret1 (d := (.v (.bool false))) S rfl rfl fun ok => S.retX (Hx := []) hb _ _ (() : Unit) .nil ok
   ·refine c_condF S rfl c3 ?_
    refine wp_skip ?_
    refine x_blockN ?_
    refine x_thenN ?_
    refine c_region' ?_
    refine s_bin S rfl rfl rfl rfl ?_; clear S a; intro a S
    refine s_move S rfl rfl ?_; clear S a; intro a S
    refine c_end' ?_
    refine x_thenN ?_
    exact ⟨_, (wr .i64 (y1 + 1)), g13, g14, (S.sub (subR rfl) (.cons .here (.cons .here .nil))), h3⟩
  ·refine c_condF S rfl c1 ?_
   refine wp_exit ?_
   refine x_thenX ?_
   refine x_thenX ?_
   refine x_blockX ?_
   refine x_thenN ?_
   exact j1 _ a w (S.sub trivial .nil) h1
abbrev smithyref14_State_Touch.Ty : Type := ST37 → (List Int) → Option (Bool × ST37)
def smithyref14_State_Touch.Ctr (s : smithyref14_State_Touch.Ty) : Prop := ∀ (x1 : ST37) (x2 : List Int) (ch_0_0 : (Option Addr × Nat) × (Option Addr × Nat) × (Option Addr × Nat) × (Option Addr × Nat) × Unit × (Option Addr × Nat) × Unit × (Option Addr × Nat)) (r : Bool × ST37) (h0 : s x1 x2 = some r) (mi : Mem) (w0 : World), okL mi [(.agg [.sl ch_0_0.1.1 ((ST37.un x1).1).length ch_0_0.1.2 (RdS Y71 ch_0_0.1.1 ((ST37.un x1).1)), .sl ch_0_0.2.1.1 ((ST37.un x1).2.1).length ch_0_0.2.1.2 (RdS Y122 ch_0_0.2.1.1 ((ST37.un x1).2.1)), .sl ch_0_0.2.2.1.1 ((ST37.un x1).2.2.1).length ch_0_0.2.2.1.2 (RdS (Ty.arr .u8 20) ch_0_0.2.2.1.1 ((ST37.un x1).2.2.1)), .sl ch_0_0.2.2.2.1.1 ((ST37.un x1).2.2.2.1).length ch_0_0.2.2.2.1.2 (RdS Y133 ch_0_0.2.2.2.1.1 ((ST37.un x1).2.2.2.1)), .one (.int .i64 ((ST37.un x1).2.2.2.2.1)), .sl ch_0_0.2.2.2.2.2.1.1 ((ST37.un x1).2.2.2.2.2.1).length ch_0_0.2.2.2.2.2.1.2 (RdS Y100 ch_0_0.2.2.2.2.2.1.1 ((ST37.un x1).2.2.2.2.2.1)), .one (.bool ((ST37.un x1).2.2.2.2.2.2.1)), .sl ch_0_0.2.2.2.2.2.2.2.1 ((ST37.un x1).2.2.2.2.2.2.2).length ch_0_0.2.2.2.2.2.2.2.2 (SR37 ch_0_0.2.2.2.2.2.2.2.1 ((ST37.un x1).2.2.2.2.2.2.2))]), (.agg [.ints .u8 x2 20])] → Pre mi [] w0 → Calls Tryz.prog 44 (([(.agg [.sl ch_0_0.1.1 ((ST37.un x1).1).length ch_0_0.1.2 (RdS Y71 ch_0_0.1.1 ((ST37.un x1).1)), .sl ch_0_0.2.1.1 ((ST37.un x1).2.1).length ch_0_0.2.1.2 (RdS Y122 ch_0_0.2.1.1 ((ST37.un x1).2.1)), .sl ch_0_0.2.2.1.1 ((ST37.un x1).2.2.1).length ch_0_0.2.2.1.2 (RdS (Ty.arr .u8 20) ch_0_0.2.2.1.1 ((ST37.un x1).2.2.1)), .sl ch_0_0.2.2.2.1.1 ((ST37.un x1).2.2.2.1).length ch_0_0.2.2.2.1.2 (RdS Y133 ch_0_0.2.2.2.1.1 ((ST37.un x1).2.2.2.1)), .one (.int .i64 ((ST37.un x1).2.2.2.2.1)), .sl ch_0_0.2.2.2.2.2.1.1 ((ST37.un x1).2.2.2.2.2.1).length ch_0_0.2.2.2.2.2.1.2 (RdS Y100 ch_0_0.2.2.2.2.2.1.1 ((ST37.un x1).2.2.2.2.2.1)), .one (.bool ((ST37.un x1).2.2.2.2.2.2.1)), .sl ch_0_0.2.2.2.2.2.2.2.1 ((ST37.un x1).2.2.2.2.2.2.2).length ch_0_0.2.2.2.2.2.2.2.2 (SR37 ch_0_0.2.2.2.2.2.2.2.1 ((ST37.un x1).2.2.2.2.2.2.2))]), (.agg [.ints .u8 x2 20])] : List D).map D.val).toArray w0 (RetX mi [] (fun (ch : W21) => ((.tup [(false, [.one (.bool r.1)]), (true, [.sl ch.1.1 ((ST37.un r.2).1).length ch.1.2 (RdS Y71 ch.1.1 ((ST37.un r.2).1)), .sl ch.2.1.1 ((ST37.un r.2).2.1).length ch.2.1.2 (RdS Y122 ch.2.1.1 ((ST37.un r.2).2.1)), .sl ch.2.2.1.1 ((ST37.un r.2).2.2.1).length ch.2.2.1.2 (RdS (Ty.arr .u8 20) ch.2.2.1.1 ((ST37.un r.2).2.2.1)), .sl ch.2.2.2.1.1 ((ST37.un r.2).2.2.2.1).length ch.2.2.2.1.2 (RdS Y133 ch.2.2.2.1.1 ((ST37.un r.2).2.2.2.1)), .one (.int .i64 ((ST37.un r.2).2.2.2.2.1)), .sl ch.2.2.2.2.2.1.1 ((ST37.un r.2).2.2.2.2.2.1).length ch.2.2.2.2.2.1.2 (RdS Y100 ch.2.2.2.2.2.1.1 ((ST37.un r.2).2.2.2.2.2.1)), .one (.bool ((ST37.un r.2).2.2.2.2.2.2.1)), .sl ch.2.2.2.2.2.2.2.1 ((ST37.un r.2).2.2.2.2.2.2.2).length ch.2.2.2.2.2.2.2.2 (SR37 ch.2.2.2.2.2.2.2.1 ((ST37.un r.2).2.2.2.2.2.2.2))])]) : D)) (fun (ch : W21) => []) w0)
def smithyref14_State_Touch.f (k : Nat) (x1 : ST37) (x2 : List Int) : Option (Bool × ST37) := (smithyref14_State_Cold.f k x1 x2).bind fun t1 => (if (!t1) = true then (some (false, x1)) else ((smithyref14_State_keep.f x1).bind fun t2 => (if ((([] : List (List Int))).length + ((ST37.un t2).2.2.1).length) * 20 ≤ 140737488355328 then (if ((([] : List (List Int)) ++ ((ST37.un t2).2.2.1)).length + ([x2]).length) * 20 ≤ 140737488355328 then (some (true, (ST37.mk ((ST37.un t2).1, (ST37.un t2).2.1, (([] : List (List Int)) ++ ((ST37.un t2).2.2.1)) ++ [x2], (ST37.un t2).2.2.2.1, (ST37.un t2).2.2.2.2.1, (ST37.un t2).2.2.2.2.2.1, (ST37.un t2).2.2.2.2.2.2.1, (ST37.un t2).2.2.2.2.2.2.2)))) else none) else none)))
theorem smithyref14_State_Touch.ok (k : Nat) : smithyref14_State_Touch.Ctr (smithyref14_State_Touch.f k) := by
 intro x1 x2 ch_0_0 r h0 mi w0 ok hm
 delta smithyref14_State_Touch.f at h0
 refine c_enterX (n := 26) [(.agg [.sl ch_0_0.1.1 ((ST37.un x1).1).length ch_0_0.1.2 (RdS Y71 ch_0_0.1.1 ((ST37.un x1).1)), .sl ch_0_0.2.1.1 ((ST37.un x1).2.1).length ch_0_0.2.1.2 (RdS Y122 ch_0_0.2.1.1 ((ST37.un x1).2.1)), .sl ch_0_0.2.2.1.1 ((ST37.un x1).2.2.1).length ch_0_0.2.2.1.2 (RdS (Ty.arr .u8 20) ch_0_0.2.2.1.1 ((ST37.un x1).2.2.1)), .sl ch_0_0.2.2.2.1.1 ((ST37.un x1).2.2.2.1).length ch_0_0.2.2.2.1.2 (RdS Y133 ch_0_0.2.2.2.1.1 ((ST37.un x1).2.2.2.1)), .one (.int .i64 ((ST37.un x1).2.2.2.2.1)), .sl ch_0_0.2.2.2.2.2.1.1 ((ST37.un x1).2.2.2.2.2.1).length ch_0_0.2.2.2.2.2.1.2 (RdS Y100 ch_0_0.2.2.2.2.2.1.1 ((ST37.un x1).2.2.2.2.2.1)), .one (.bool ((ST37.un x1).2.2.2.2.2.2.1)), .sl ch_0_0.2.2.2.2.2.2.2.1 ((ST37.un x1).2.2.2.2.2.2.2).length ch_0_0.2.2.2.2.2.2.2.2 (SR37 ch_0_0.2.2.2.2.2.2.2.1 ((ST37.un x1).2.2.2.2.2.2.2))]), (.agg [.ints .u8 x2 20])] (l := [(0, (.agg [.sl ch_0_0.1.1 ((ST37.un x1).1).length ch_0_0.1.2 (RdS Y71 ch_0_0.1.1 ((ST37.un x1).1)), .sl ch_0_0.2.1.1 ((ST37.un x1).2.1).length ch_0_0.2.1.2 (RdS Y122 ch_0_0.2.1.1 ((ST37.un x1).2.1)), .sl ch_0_0.2.2.1.1 ((ST37.un x1).2.2.1).length ch_0_0.2.2.1.2 (RdS (Ty.arr .u8 20) ch_0_0.2.2.1.1 ((ST37.un x1).2.2.1)), .sl ch_0_0.2.2.2.1.1 ((ST37.un x1).2.2.2.1).length ch_0_0.2.2.2.1.2 (RdS Y133 ch_0_0.2.2.2.1.1 ((ST37.un x1).2.2.2.1)), .one (.int .i64 ((ST37.un x1).2.2.2.2.1)), .sl ch_0_0.2.2.2.2.2.1.1 ((ST37.un x1).2.2.2.2.2.1).length ch_0_0.2.2.2.2.2.1.2 (RdS Y100 ch_0_0.2.2.2.2.2.1.1 ((ST37.un x1).2.2.2.2.2.1)), .one (.bool ((ST37.un x1).2.2.2.2.2.2.1)), .sl ch_0_0.2.2.2.2.2.2.2.1 ((ST37.un x1).2.2.2.2.2.2.2).length ch_0_0.2.2.2.2.2.2.2.2 (SR37 ch_0_0.2.2.2.2.2.2.2.1 ((ST37.un x1).2.2.2.2.2.2.2))])), (1, (.agg [.ints .u8 x2 20]))]) Tryz.func44 rfl rfl rfl rfl ok hm ?_
 clear ok hm
 intro b0 hb a S
 refine c_region ?_
 refine s_box S rfl rfl rfl ?_; clear S a; intro g1 a w S
 refine s_box S rfl rfl rfl ?_; clear S a w; intro g2 a w S
 refine s_assign S rfl rfl ?_; clear S a; intro a S
 refine s_alloc S Z37 rfl ⟨rfl, rfl, rfl, rfl, rfl, rfl, rfl, rfl, trivial⟩ rfl ?_; clear S a w; intro g3 a w S
 refine c_end ?_
 refine wp_seq ?_
 refine c_region ?_
 refine s_loada S rfl (.there (.there .here)) T37 (s' := [.sl ch_0_0.1.1 ((ST37.un x1).1).length ch_0_0.1.2 (RdS Y71 ch_0_0.1.1 ((ST37.un x1).1)), .sl ch_0_0.2.1.1 ((ST37.un x1).2.1).length ch_0_0.2.1.2 (RdS Y122 ch_0_0.2.1.1 ((ST37.un x1).2.1)), .sl ch_0_0.2.2.1.1 ((ST37.un x1).2.2.1).length ch_0_0.2.2.1.2 (RdS (Ty.arr .u8 20) ch_0_0.2.2.1.1 ((ST37.un x1).2.2.1)), .sl ch_0_0.2.2.2.1.1 ((ST37.un x1).2.2.2.1).length ch_0_0.2.2.2.1.2 (RdS Y133 ch_0_0.2.2.2.1.1 ((ST37.un x1).2.2.2.1)), .one (.int .i64 ((ST37.un x1).2.2.2.2.1)), .sl ch_0_0.2.2.2.2.2.1.1 ((ST37.un x1).2.2.2.2.2.1).length ch_0_0.2.2.2.2.2.1.2 (RdS Y100 ch_0_0.2.2.2.2.2.1.1 ((ST37.un x1).2.2.2.2.2.1)), .one (.bool ((ST37.un x1).2.2.2.2.2.2.1)), .sl ch_0_0.2.2.2.2.2.2.2.1 ((ST37.un x1).2.2.2.2.2.2.2).length ch_0_0.2.2.2.2.2.2.2.2 (SR37 ch_0_0.2.2.2.2.2.2.2.1 ((ST37.un x1).2.2.2.2.2.2.2))]) rfl rfl ?_; clear S a; intro a S
 refine s_loada S rfl (.there .here) T40 (s' := [.ints .u8 x2 20]) rfl rfl ?_; clear S a; intro a S
 obtain ⟨t1, et1, h1⟩ := bind_of h0; clear h0
 refine s_callP S (fun (ch : Unit) => ((.v (.bool t1)) : D)) N80 rfl rfl (smithyref14_State_Cold.ok k x1 x2 ((ch_0_0.1.1, ch_0_0.1.2), (ch_0_0.2.1.1, ch_0_0.2.1.2), (ch_0_0.2.2.1.1, ch_0_0.2.2.1.2), (ch_0_0.2.2.2.1.1, ch_0_0.2.2.2.1.2), (), (ch_0_0.2.2.2.2.2.1.1, ch_0_0.2.2.2.2.2.1.2), (), (ch_0_0.2.2.2.2.2.2.2.1, ch_0_0.2.2.2.2.2.2.2.2)) t1 et1 _ _) ?_; clear S a w; intro ch1 m le1 a w S
 refine s_not S rfl rfl ?_; clear S a; intro a S
 refine c_end ?_
 rcases ite_of h1 with ⟨c1, h2⟩ | ⟨c1, h2⟩ <;> clear h1
 ·refine c_condT S rfl c1 ?_
  refine wp_seq (c_heldS S (.take 0 (.take 1 (.alts (.run 2 false .done .nil)))) 2 [Res.cells g3 37 [.one (.slice none 0 0), .one (.slice none 0 0), .one (.slice none 0 0), .one (.slice none 0 0), .one (.int .i64 0), .one (.slice none 0 0), .one (.bool false), .one (.slice none 0 0)], Res.cells g2 40 [.ints .u8 x2 20], Res.cells g1 37 [.sl ch_0_0.1.1 ((ST37.un x1).1).length ch_0_0.1.2 (RdS Y71 ch_0_0.1.1 ((ST37.un x1).1)), .sl ch_0_0.2.1.1 ((ST37.un x1).2.1).length ch_0_0.2.1.2 (RdS Y122 ch_0_0.2.1.1 ((ST37.un x1).2.1)), .sl ch_0_0.2.2.1.1 ((ST37.un x1).2.2.1).length ch_0_0.2.2.1.2 (RdS (Ty.arr .u8 20) ch_0_0.2.2.1.1 ((ST37.un x1).2.2.1)), .sl ch_0_0.2.2.2.1.1 ((ST37.un x1).2.2.2.1).length ch_0_0.2.2.2.1.2 (RdS Y133 ch_0_0.2.2.2.1.1 ((ST37.un x1).2.2.2.1)), .one (.int .i64 ((ST37.un x1).2.2.2.2.1)), .sl ch_0_0.2.2.2.2.2.1.1 ((ST37.un x1).2.2.2.2.2.1).length ch_0_0.2.2.2.2.2.1.2 (RdS Y100 ch_0_0.2.2.2.2.2.1.1 ((ST37.un x1).2.2.2.2.2.1)), .one (.bool ((ST37.un x1).2.2.2.2.2.2.1)), .sl ch_0_0.2.2.2.2.2.2.2.1 ((ST37.un x1).2.2.2.2.2.2.2).length ch_0_0.2.2.2.2.2.2.2.2 (SR37 ch_0_0.2.2.2.2.2.2.2.1 ((ST37.un x1).2.2.2.2.2.2.2))]] (.cons .here (.cons .here (.cons .here .nil))) ⟨Res.stay_cells, Res.stay_cells, Res.stay_cells, trivial⟩ [(2, (.v (.pointer (some ⟨g1, 0, none⟩))))] ⟨rfl, trivial⟩ (by kernel_rfl) (by kernel_rfl) ?_); clear S; intro w S CL hw le
  refine h_loada S CL hw le ⟨rfl, trivial⟩ rfl (.there (.there .here)) T37 (s' := [.sl ch_0_0.1.1 ((ST37.un x1).1).length ch_0_0.1.2 (RdS Y71 ch_0_0.1.1 ((ST37.un x1).1)), .sl ch_0_0.2.1.1 ((ST37.un x1).2.1).length ch_0_0.2.1.2 (RdS Y122 ch_0_0.2.1.1 ((ST37.un x1).2.1)), .sl ch_0_0.2.2.1.1 ((ST37.un x1).2.2.1).length ch_0_0.2.2.1.2 (RdS (Ty.arr .u8 20) ch_0_0.2.2.1.1 ((ST37.un x1).2.2.1)), .sl ch_0_0.2.2.2.1.1 ((ST37.un x1).2.2.2.1).length ch_0_0.2.2.2.1.2 (RdS Y133 ch_0_0.2.2.2.1.1 ((ST37.un x1).2.2.2.1)), .one (.int .i64 ((ST37.un x1).2.2.2.2.1)), .sl ch_0_0.2.2.2.2.2.1.1 ((ST37.un x1).2.2.2.2.2.1).length ch_0_0.2.2.2.2.2.1.2 (RdS Y100 ch_0_0.2.2.2.2.2.1.1 ((ST37.un x1).2.2.2.2.2.1)), .one (.bool ((ST37.un x1).2.2.2.2.2.2.1)), .sl ch_0_0.2.2.2.2.2.2.2.1 ((ST37.un x1).2.2.2.2.2.2.2).length ch_0_0.2.2.2.2.2.2.2.2 (SR37 ch_0_0.2.2.2.2.2.2.2.1 ((ST37.un x1).2.2.2.2.2.2.2))]) rfl rfl rfl trivial ?_; clear S CL a; intro a S CL
  refine h_assign S CL hw le (subR rfl) rfl rfl rfl trivial ?_; clear S CL a; intro a S CL
  refine h_run' S rfl trivial ?_
  refine s_store S rfl rfl rfl (s' := [.sl ch_0_0.1.1 ((ST37.un x1).1).length ch_0_0.1.2 (RdS Y71 ch_0_0.1.1 ((ST37.un x1).1)), .sl ch_0_0.2.1.1 ((ST37.un x1).2.1).length ch_0_0.2.1.2 (RdS Y122 ch_0_0.2.1.1 ((ST37.un x1).2.1)), .sl ch_0_0.2.2.1.1 ((ST37.un x1).2.2.1).length ch_0_0.2.2.1.2 (RdS (Ty.arr .u8 20) ch_0_0.2.2.1.1 ((ST37.un x1).2.2.1)), .sl ch_0_0.2.2.2.1.1 ((ST37.un x1).2.2.2.1).length ch_0_0.2.2.2.1.2 (RdS Y133 ch_0_0.2.2.2.1.1 ((ST37.un x1).2.2.2.1)), .one (.int .i64 ((ST37.un x1).2.2.2.2.1)), .sl ch_0_0.2.2.2.2.2.1.1 ((ST37.un x1).2.2.2.2.2.1).length ch_0_0.2.2.2.2.2.1.2 (RdS Y100 ch_0_0.2.2.2.2.2.1.1 ((ST37.un x1).2.2.2.2.2.1)), .one (.bool ((ST37.un x1).2.2.2.2.2.2.1)), .sl ch_0_0.2.2.2.2.2.2.2.1 ((ST37.un x1).2.2.2.2.2.2.2).length ch_0_0.2.2.2.2.2.2.2.2 (SR37 ch_0_0.2.2.2.2.2.2.2.1 ((ST37.un x1).2.2.2.2.2.2.2))]) .here T37 rfl rfl ?_; clear S; intro w S
  refine h_back ⟨fun h => (nomatch h), ?_⟩
  refine h_done ?_; clear CL hw le
  refine x_thenN ?_
  refine wp_ret ?_
  refine x_thenR ?_
  obtain rfl := Option.some.inj h2
  exact b_ret2 (d1 := (.v (.bool false))) (d2 := (.agg [.sl ch_0_0.1.1 ((ST37.un x1).1).length ch_0_0.1.2 (RdS Y71 ch_0_0.1.1 ((ST37.un x1).1)), .sl ch_0_0.2.1.1 ((ST37.un x1).2.1).length ch_0_0.2.1.2 (RdS Y122 ch_0_0.2.1.1 ((ST37.un x1).2.1)), .sl ch_0_0.2.2.1.1 ((ST37.un x1).2.2.1).length ch_0_0.2.2.1.2 (RdS (Ty.arr .u8 20) ch_0_0.2.2.1.1 ((ST37.un x1).2.2.1)), .sl ch_0_0.2.2.2.1.1 ((ST37.un x1).2.2.2.1).length ch_0_0.2.2.2.1.2 (RdS Y133 ch_0_0.2.2.2.1.1 ((ST37.un x1).2.2.2.1)), .one (.int .i64 ((ST37.un x1).2.2.2.2.1)), .sl ch_0_0.2.2.2.2.2.1.1 ((ST37.un x1).2.2.2.2.2.1).length ch_0_0.2.2.2.2.2.1.2 (RdS Y100 ch_0_0.2.2.2.2.2.1.1 ((ST37.un x1).2.2.2.2.2.1)), .one (.bool ((ST37.un x1).2.2.2.2.2.2.1)), .sl ch_0_0.2.2.2.2.2.2.2.1 ((ST37.un x1).2.2.2.2.2.2.2).length ch_0_0.2.2.2.2.2.2.2.2 (SR37 ch_0_0.2.2.2.2.2.2.2.1 ((ST37.un x1).2.2.2.2.2.2.2))])) S rfl rfl (resD_cell rfl .here T37 rfl rfl) fun ok1 ok2 => S.retX (Hx := []) hb _ _ (((ch_0_0.1.1, ch_0_0.1.2), (ch_0_0.2.1.1, ch_0_0.2.1.2), (ch_0_0.2.2.1.1, ch_0_0.2.2.1.2), (ch_0_0.2.2.2.1.1, ch_0_0.2.2.2.1.2), (), (ch_0_0.2.2.2.2.2.1.1, ch_0_0.2.2.2.2.2.1.2), (), (ch_0_0.2.2.2.2.2.2.2.1, ch_0_0.2.2.2.2.2.2.2.2)) : W21) .nil ⟨⟨ok1, trivial⟩, ok2, trivial⟩
 ·refine c_condF S rfl c1 ?_
  refine wp_skip ?_
  refine x_thenN ?_
  refine c_region ?_
  refine s_loada S rfl (.there (.there .here)) T37 (s' := [.sl ch_0_0.1.1 ((ST37.un x1).1).length ch_0_0.1.2 (RdS Y71 ch_0_0.1.1 ((ST37.un x1).1)), .sl ch_0_0.2.1.1 ((ST37.un x1).2.1).length ch_0_0.2.1.2 (RdS Y122 ch_0_0.2.1.1 ((ST37.un x1).2.1)), .sl ch_0_0.2.2.1.1 ((ST37.un x1).2.2.1).length ch_0_0.2.2.1.2 (RdS (Ty.arr .u8 20) ch_0_0.2.2.1.1 ((ST37.un x1).2.2.1)), .sl ch_0_0.2.2.2.1.1 ((ST37.un x1).2.2.2.1).length ch_0_0.2.2.2.1.2 (RdS Y133 ch_0_0.2.2.2.1.1 ((ST37.un x1).2.2.2.1)), .one (.int .i64 ((ST37.un x1).2.2.2.2.1)), .sl ch_0_0.2.2.2.2.2.1.1 ((ST37.un x1).2.2.2.2.2.1).length ch_0_0.2.2.2.2.2.1.2 (RdS Y100 ch_0_0.2.2.2.2.2.1.1 ((ST37.un x1).2.2.2.2.2.1)), .one (.bool ((ST37.un x1).2.2.2.2.2.2.1)), .sl ch_0_0.2.2.2.2.2.2.2.1 ((ST37.un x1).2.2.2.2.2.2.2).length ch_0_0.2.2.2.2.2.2.2.2 (SR37 ch_0_0.2.2.2.2.2.2.2.1 ((ST37.un x1).2.2.2.2.2.2.2))]) rfl rfl ?_; clear S a; intro a S
  obtain ⟨t2, et2, h3⟩ := bind_of h2; clear h2
  refine s_callP S (fun (ch : W21) => ((.agg [.sl ch.1.1 ((ST37.un t2).1).length ch.1.2 (RdS Y71 ch.1.1 ((ST37.un t2).1)), .sl ch.2.1.1 ((ST37.un t2).2.1).length ch.2.1.2 (RdS Y122 ch.2.1.1 ((ST37.un t2).2.1)), .sl ch.2.2.1.1 ((ST37.un t2).2.2.1).length ch.2.2.1.2 (RdS (Ty.arr .u8 20) ch.2.2.1.1 ((ST37.un t2).2.2.1)), .sl ch.2.2.2.1.1 ((ST37.un t2).2.2.2.1).length ch.2.2.2.1.2 (RdS Y133 ch.2.2.2.1.1 ((ST37.un t2).2.2.2.1)), .one (.int .i64 ((ST37.un t2).2.2.2.2.1)), .sl ch.2.2.2.2.2.1.1 ((ST37.un t2).2.2.2.2.2.1).length ch.2.2.2.2.2.1.2 (RdS Y100 ch.2.2.2.2.2.1.1 ((ST37.un t2).2.2.2.2.2.1)), .one (.bool ((ST37.un t2).2.2.2.2.2.2.1)), .sl ch.2.2.2.2.2.2.2.1 ((ST37.un t2).2.2.2.2.2.2.2).length ch.2.2.2.2.2.2.2.2 (SR37 ch.2.2.2.2.2.2.2.1 ((ST37.un t2).2.2.2.2.2.2.2))]) : D)) N81 rfl rfl (smithyref14_State_keep.ok x1 ((ch_0_0.1.1, ch_0_0.1.2), (ch_0_0.2.1.1, ch_0_0.2.1.2), (ch_0_0.2.2.1.1, ch_0_0.2.2.1.2), (ch_0_0.2.2.2.1.1, ch_0_0.2.2.2.1.2), (), (ch_0_0.2.2.2.2.2.1.1, ch_0_0.2.2.2.2.2.1.2), (), (ch_0_0.2.2.2.2.2.2.2.1, ch_0_0.2.2.2.2.2.2.2.2)) t2 et2 _ _) ?_; clear S a w; intro ch2 m le1 a w S
  refine s_store S rfl rfl rfl (s' := [.sl ch2.1.1 ((ST37.un t2).1).length ch2.1.2 (RdS Y71 ch2.1.1 ((ST37.un t2).1)), .sl ch2.2.1.1 ((ST37.un t2).2.1).length ch2.2.1.2 (RdS Y122 ch2.2.1.1 ((ST37.un t2).2.1)), .sl ch2.2.2.1.1 ((ST37.un t2).2.2.1).length ch2.2.2.1.2 (RdS (Ty.arr .u8 20) ch2.2.2.1.1 ((ST37.un t2).2.2.1)), .sl ch2.2.2.2.1.1 ((ST37.un t2).2.2.2.1).length ch2.2.2.2.1.2 (RdS Y133 ch2.2.2.2.1.1 ((ST37.un t2).2.2.2.1)), .one (.int .i64 ((ST37.un t2).2.2.2.2.1)), .sl ch2.2.2.2.2.2.1.1 ((ST37.un t2).2.2.2.2.2.1).length ch2.2.2.2.2.2.1.2 (RdS Y100 ch2.2.2.2.2.2.1.1 ((ST37.un t2).2.2.2.2.2.1)), .one (.bool ((ST37.un t2).2.2.2.2.2.2.1)), .sl ch2.2.2.2.2.2.2.2.1 ((ST37.un t2).2.2.2.2.2.2.2).length ch2.2.2.2.2.2.2.2.2 (SR37 ch2.2.2.2.2.2.2.2.1 ((ST37.un t2).2.2.2.2.2.2.2))]) (.there (.there .here)) T37 rfl rfl ?_; clear S w; intro w S
  refine c_end ?_
  refine c_region ?_
  refine s_bldSl S (ty' := (Ty.arr .u8 20)) (ds := []) (z := [0, 0, 0, 0, 0, 0, 0, 0, 0, 0, 0, 0, 0, 0, 0, 0, 0, 0, 0, 0]) (c0 := ()) (ys := ([] : List (List Int))) (cs := []) rfl Tryz.underlying32 J40 Z40 rfl ⟨rfl, trivial⟩ rfl rfl rfl rfl rfl rfl ?_; clear S a w; intro g4 a w S
  refine s_assign S rfl rfl ?_; clear S a; intro a S
  refine c_end ?_
  refine c_region ?_
  refine s_move S rfl rfl ?_; clear S a; intro a S
  refine s_fieldAddr S rfl I37_2 T32 (by decide) rfl rfl ?_; clear S a; intro a S
  refine s_loadSl S rfl (.there (.there (.there .here))) T32 (A := ch2.2.2.1.1) (len := ((ST37.un t2).2.2.1).length) (cap := ch2.2.2.1.2) rfl rfl ?_; clear S a; intro a S
  obtain ⟨c2, h4⟩ := chk_of h3; clear h3
  refine s_app S (k2 := (((ST37.un t2).2.2.1).length)) (ys := ((ST37.un t2).2.2.1)) rfl (fun _ _ => .here) rfl rfl rfl (RdS.src (S.get 17 (.sl ch2.2.2.1.1 ((ST37.un t2).2.2.1).length ch2.2.2.1.2 (RdS (Ty.arr .u8 20) ch2.2.2.1.1 ((ST37.un t2).2.2.1))) rfl).2.2.2.1 (by decide) S.frz) Tryz.underlying32 J40 c2 rfl ?_; clear S a w; intro A1 cp1 a w S
  refine s_assign S rfl rfl ?_; clear S a; intro a S
  refine c_end ?_
  refine c_region ?_
  refine s_move S rfl rfl ?_; clear S a; intro a S
  refine s_loada S rfl (.there (.there .here)) T40 (s' := [.ints .u8 x2 20]) rfl rfl ?_; clear S a; intro a S
  refine s_bldSl S (ty' := (Ty.arr .u8 20)) (ds := [(0, (.agg [.ints .u8 x2 20]))]) (z := [0, 0, 0, 0, 0, 0, 0, 0, 0, 0, 0, 0, 0, 0, 0, 0, 0, 0, 0, 0]) (c0 := ()) (ys := [x2]) (cs := [()]) rfl Tryz.underlying32 J40 Z40 rfl ⟨rfl, trivial⟩ rfl rfl rfl rfl rfl rfl ?_; clear S a w; intro g5 a w S
  obtain ⟨c3, h5⟩ := chk_of h4; clear h4
  refine s_app S (k2 := 1) (ys := [x2]) rfl (fun _ _ => (.there .here)) rfl rfl (S.holds _ (Pull.mem .here).1).1 (Res.row.src (S.holds _ (Pull.mem .here).1)) Tryz.underlying32 J40 c3 rfl ?_; clear S a w; intro A2 cp2 a w S
  refine s_assign S rfl rfl ?_; clear S a; intro a S
  refine c_end ?_
  refine c_region ?_
  refine s_move S rfl rfl ?_; clear S a; intro a S
  refine s_fieldAddr S rfl I37_2 T32 (by decide) rfl rfl ?_; clear S a; intro a S
  refine s_store S rfl rfl rfl (s' := [.sl ch2.1.1 ((ST37.un t2).1).length ch2.1.2 (RdS Y71 ch2.1.1 ((ST37.un t2).1)), .sl ch2.2.1.1 ((ST37.un t2).2.1).length ch2.2.1.2 (RdS Y122 ch2.2.1.1 ((ST37.un t2).2.1)), .one (.slice A2 ((0 + (((ST37.un t2).2.2.1).length)) + 1) cp2), .sl ch2.2.2.2.1.1 ((ST37.un t2).2.2.2.1).length ch2.2.2.2.1.2 (RdS Y133 ch2.2.2.2.1.1 ((ST37.un t2).2.2.2.1)), .one (.int .i64 ((ST37.un t2).2.2.2.2.1)), .sl ch2.2.2.2.2.2.1.1 ((ST37.un t2).2.2.2.2.2.1).length ch2.2.2.2.2.2.1.2 (RdS Y100 ch2.2.2.2.2.2.1.1 ((ST37.un t2).2.2.2.2.2.1)), .one (.bool ((ST37.un t2).2.2.2.2.2.2.1)), .sl ch2.2.2.2.2.2.2.2.1 ((ST37.un t2).2.2.2.2.2.2.2).length ch2.2.2.2.2.2.2.2.2 (SR37 ch2.2.2.2.2.2.2.2.1 ((ST37.un t2).2.2.2.2.2.2.2))]) (.there (.there (.there (.there .here)))) T32 rfl rfl ?_; clear S w; intro w S
  refine c_end ?_
  refine wp_seq (c_heldS S (.take 0 (.take 1 (.alts (.run 2 false .done .nil)))) 2 [Res.row (Ty.arr .u8 20) 40 (some ⟨g5, 0, none⟩) 1 1 [x2], Res.row (Ty.arr .u8 20) 40 A2 ((0 + (((ST37.un t2).2.2.1).length)) + 1) cp2 ((([] : List (List Int)) ++ ((ST37.un t2).2.2.1)) ++ [x2]), Res.cells g3 37 [.one (.slice none 0 0), .one (.slice none 0 0), .one (.slice none 0 0), .one (.slice none 0 0), .one (.int .i64 0), .one (.slice none 0 0), .one (.bool false), .one (.slice none 0 0)], Res.cells g2 40 [.ints .u8 x2 20], Res.cells g1 37 [.sl ch2.1.1 ((ST37.un t2).1).length ch2.1.2 (RdS Y71 ch2.1.1 ((ST37.un t2).1)), .sl ch2.2.1.1 ((ST37.un t2).2.1).length ch2.2.1.2 (RdS Y122 ch2.2.1.1 ((ST37.un t2).2.1)), .one (.slice A2 ((0 + (((ST37.un t2).2.2.1).length)) + 1) cp2), .sl ch2.2.2.2.1.1 ((ST37.un t2).2.2.2.1).length ch2.2.2.2.1.2 (RdS Y133 ch2.2.2.2.1.1 ((ST37.un t2).2.2.2.1)), .one (.int .i64 ((ST37.un t2).2.2.2.2.1)), .sl ch2.2.2.2.2.2.1.1 ((ST37.un t2).2.2.2.2.2.1).length ch2.2.2.2.2.2.1.2 (RdS Y100 ch2.2.2.2.2.2.1.1 ((ST37.un t2).2.2.2.2.2.1)), .one (.bool ((ST37.un t2).2.2.2.2.2.2.1)), .sl ch2.2.2.2.2.2.2.2.1 ((ST37.un t2).2.2.2.2.2.2.2).length ch2.2.2.2.2.2.2.2.2 (SR37 ch2.2.2.2.2.2.2.2.1 ((ST37.un t2).2.2.2.2.2.2.2))]] (.cons .here (.cons .here (.cons .here (.cons .here (.cons .here .nil))))) ⟨Res.stay_row flat_arr, Res.stay_row flat_arr, Res.stay_cells, Res.stay_cells, Res.stay_cells, trivial⟩ [(2, (.v (.pointer (some ⟨g1, 0, none⟩))))] ⟨rfl, trivial⟩ (by kernel_rfl) (by kernel_rfl) ?_); clear S; intro w S CL hw le
  refine h_loada S CL hw le ⟨rfl, trivial⟩ rfl (.there (.there (.there (.there .here)))) T37 (s' := [.sl ch2.1.1 ((ST37.un t2).1).length ch2.1.2 (RdS Y71 ch2.1.1 ((ST37.un t2).1)), .sl ch2.2.1.1 ((ST37.un t2).2.1).length ch2.2.1.2 (RdS Y122 ch2.2.1.1 ((ST37.un t2).2.1)), .one (.slice A2 ((0 + (((ST37.un t2).2.2.1).length)) + 1) cp2), .sl ch2.2.2.2.1.1 ((ST37.un t2).2.2.2.1).length ch2.2.2.2.1.2 (RdS Y133 ch2.2.2.2.1.1 ((ST37.un t2).2.2.2.1)), .one (.int .i64 ((ST37.un t2).2.2.2.2.1)), .sl ch2.2.2.2.2.2.1.1 ((ST37.un t2).2.2.2.2.2.1).length ch2.2.2.2.2.2.1.2 (RdS Y100 ch2.2.2.2.2.2.1.1 ((ST37.un t2).2.2.2.2.2.1)), .one (.bool ((ST37.un t2).2.2.2.2.2.2.1)), .sl ch2.2.2.2.2.2.2.2.1 ((ST37.un t2).2.2.2.2.2.2.2).length ch2.2.2.2.2.2.2.2.2 (SR37 ch2.2.2.2.2.2.2.2.1 ((ST37.un t2).2.2.2.2.2.2.2))]) rfl rfl rfl trivial ?_; clear S CL a; intro a S CL
  refine h_assign S CL hw le (subR rfl) rfl rfl rfl trivial ?_; clear S CL a; intro a S CL
  refine h_run' S rfl trivial ?_
  refine s_store S rfl rfl rfl (s' := [.sl ch2.1.1 ((ST37.un t2).1).length ch2.1.2 (RdS Y71 ch2.1.1 ((ST37.un t2).1)), .sl ch2.2.1.1 ((ST37.un t2).2.1).length ch2.2.1.2 (RdS Y122 ch2.2.1.1 ((ST37.un t2).2.1)), .one (.slice A2 ((0 + (((ST37.un t2).2.2.1).length)) + 1) cp2), .sl ch2.2.2.2.1.1 ((ST37.un t2).2.2.2.1).length ch2.2.2.2.1.2 (RdS Y133 ch2.2.2.2.1.1 ((ST37.un t2).2.2.2.1)), .one (.int .i64 ((ST37.un t2).2.2.2.2.1)), .sl ch2.2.2.2.2.2.1.1 ((ST37.un t2).2.2.2.2.2.1).length ch2.2.2.2.2.2.1.2 (RdS Y100 ch2.2.2.2.2.2.1.1 ((ST37.un t2).2.2.2.2.2.1)), .one (.bool ((ST37.un t2).2.2.2.2.2.2.1)), .sl ch2.2.2.2.2.2.2.2.1 ((ST37.un t2).2.2.2.2.2.2.2).length ch2.2.2.2.2.2.2.2.2 (SR37 ch2.2.2.2.2.2.2.2.1 ((ST37.un t2).2.2.2.2.2.2.2))]) (.there (.there .here)) T37 rfl rfl ?_; clear S; intro w S
  refine h_back ⟨fun h => (nomatch h), ?_⟩
  refine h_done ?_; clear CL hw le
  refine x_thenN ?_
  refine wp_ret ?_
  replace S := S.rowfro (.there .here)
  obtain ⟨m, le1, S, hro⟩ := S
  replace S := S.slot (u := 25) (d' := (.agg [.sl ch2.1.1 ((ST37.un t2).1).length ch2.1.2 (RdS Y71 ch2.1.1 ((ST37.un t2).1)), .sl ch2.2.1.1 ((ST37.un t2).2.1).length ch2.2.1.2 (RdS Y122 ch2.2.1.1 ((ST37.un t2).2.1)), .sl A2 ((([] : List (List Int)) ++ ((ST37.un t2).2.2.1)) ++ [x2]).length cp2 (RdS (Ty.arr .u8 20) A2 ((([] : List (List Int)) ++ ((ST37.un t2).2.2.1)) ++ [x2])), .sl ch2.2.2.2.1.1 ((ST37.un t2).2.2.2.1).length ch2.2.2.2.1.2 (RdS Y133 ch2.2.2.2.1.1 ((ST37.un t2).2.2.2.1)), .one (.int .i64 ((ST37.un t2).2.2.2.2.1)), .sl ch2.2.2.2.2.2.1.1 ((ST37.un t2).2.2.2.2.2.1).length ch2.2.2.2.2.2.1.2 (RdS Y100 ch2.2.2.2.2.2.1.1 ((ST37.un t2).2.2.2.2.2.1)), .one (.bool ((ST37.un t2).2.2.2.2.2.2.1)), .sl ch2.2.2.2.2.2.2.2.1 ((ST37.un t2).2.2.2.2.2.2.2).length ch2.2.2.2.2.2.2.2.2 (SR37 ch2.2.2.2.2.2.2.2.1 ((ST37.un t2).2.2.2.2.2.2.2))])) rfl (by simp [D.val, pd, cellsOf, Seg.cells, hro.2.1]) (by have h := (S.get 25 (.agg [.sl ch2.1.1 ((ST37.un t2).1).length ch2.1.2 (RdS Y71 ch2.1.1 ((ST37.un t2).1)), .sl ch2.2.1.1 ((ST37.un t2).2.1).length ch2.2.1.2 (RdS Y122 ch2.2.1.1 ((ST37.un t2).2.1)), .one (.slice A2 ((0 + (((ST37.un t2).2.2.1).length)) + 1) cp2), .sl ch2.2.2.2.1.1 ((ST37.un t2).2.2.2.1).length ch2.2.2.2.1.2 (RdS Y133 ch2.2.2.2.1.1 ((ST37.un t2).2.2.2.1)), .one (.int .i64 ((ST37.un t2).2.2.2.2.1)), .sl ch2.2.2.2.2.2.1.1 ((ST37.un t2).2.2.2.2.2.1).length ch2.2.2.2.2.2.1.2 (RdS Y100 ch2.2.2.2.2.2.1.1 ((ST37.un t2).2.2.2.2.2.1)), .one (.bool ((ST37.un t2).2.2.2.2.2.2.1)), .sl ch2.2.2.2.2.2.2.2.1 ((ST37.un t2).2.2.2.2.2.2.2).length ch2.2.2.2.2.2.2.2.2 (SR37 ch2.2.2.2.2.2.2.2.1 ((ST37.un t2).2.2.2.2.2.2.2))]) rfl).2; exact ⟨h.1, h.2.1, ⟨by have := hro.2.2.1; omega, hro.2.2.2, hro.1, RdS.mono _ _ _⟩, h.2.2.2.1, h.2.2.2.2.1, h.2.2.2.2.2.1, h.2.2.2.2.2.2.1, h.2.2.2.2.2.2.2.1, trivial⟩)
  replace S := S.slotro (u := 23) rfl hro
  replace S := S.slotro (u := 6) rfl hro
  replace S := S.slotro (u := 22) rfl hro
  replace S := S.cellro (s' := [.sl ch2.1.1 ((ST37.un t2).1).length ch2.1.2 (RdS Y71 ch2.1.1 ((ST37.un t2).1)), .sl ch2.2.1.1 ((ST37.un t2).2.1).length ch2.2.1.2 (RdS Y122 ch2.2.1.1 ((ST37.un t2).2.1)), .sl A2 ((([] : List (List Int)) ++ ((ST37.un t2).2.2.1)) ++ [x2]).length cp2 (RdS (Ty.arr .u8 20) A2 ((([] : List (List Int)) ++ ((ST37.un t2).2.2.1)) ++ [x2])), .sl ch2.2.2.2.1.1 ((ST37.un t2).2.2.2.1).length ch2.2.2.2.1.2 (RdS Y133 ch2.2.2.2.1.1 ((ST37.un t2).2.2.2.1)), .one (.int .i64 ((ST37.un t2).2.2.2.2.1)), .sl ch2.2.2.2.2.2.1.1 ((ST37.un t2).2.2.2.2.2.1).length ch2.2.2.2.2.2.1.2 (RdS Y100 ch2.2.2.2.2.2.1.1 ((ST37.un t2).2.2.2.2.2.1)), .one (.bool ((ST37.un t2).2.2.2.2.2.2.1)), .sl ch2.2.2.2.2.2.2.2.1 ((ST37.un t2).2.2.2.2.2.2.2).length ch2.2.2.2.2.2.2.2.2 (SR37 ch2.2.2.2.2.2.2.2.1 ((ST37.un t2).2.2.2.2.2.2.2))]) (.there .here) (by simp [cellsOf, Seg.cells, hro.2.1]) (fun h => ⟨h.1, h.2.1, ⟨by have := hro.2.2.1; omega, hro.2.2.2, hro.1, RdS.mono _ _ _⟩, h.2.2.2.1, h.2.2.2.2.1, h.2.2.2.2.2.1, h.2.2.2.2.2.2.1, h.2.2.2.2.2.2.2.1, trivial⟩)
  replace S := S.cellro (s' := [.sl ch2.1.1 ((ST37.un t2).1).length ch2.1.2 (RdS Y71 ch2.1.1 ((ST37.un t2).1)), .sl ch2.2.1.1 ((ST37.un t2).2.1).length ch2.2.1.2 (RdS Y122 ch2.2.1.1 ((ST37.un t2).2.1)), .sl A2 ((([] : List (List Int)) ++ ((ST37.un t2).2.2.1)) ++ [x2]).length cp2 (RdS (Ty.arr .u8 20) A2 ((([] : List (List Int)) ++ ((ST37.un t2).2.2.1)) ++ [x2])), .sl ch2.2.2.2.1.1 ((ST37.un t2).2.2.2.1).length ch2.2.2.2.1.2 (RdS Y133 ch2.2.2.2.1.1 ((ST37.un t2).2.2.2.1)), .one (.int .i64 ((ST37.un t2).2.2.2.2.1)), .sl ch2.2.2.2.2.2.1.1 ((ST37.un t2).2.2.2.2.2.1).length ch2.2.2.2.2.2.1.2 (RdS Y100 ch2.2.2.2.2.2.1.1 ((ST37.un t2).2.2.2.2.2.1)), .one (.bool ((ST37.un t2).2.2.2.2.2.2.1)), .sl ch2.2.2.2.2.2.2.2.1 ((ST37.un t2).2.2.2.2.2.2.2).length ch2.2.2.2.2.2.2.2.2 (SR37 ch2.2.2.2.2.2.2.2.1 ((ST37.un t2).2.2.2.2.2.2.2))]) (.there (.there (.there .here))) (by simp [cellsOf, Seg.cells, hro.2.1]) (fun h => ⟨h.1, h.2.1, ⟨by have := hro.2.2.1; omega, hro.2.2.2, hro.1, RdS.mono _ _ _⟩, h.2.2.2.1, h.2.2.2.2.1, h.2.2.2.2.2.1, h.2.2.2.2.2.2.1, h.2.2.2.2.2.2.2.1, trivial⟩)
  obtain rfl := Option.some.inj h5
  exact b_ret2 (d1 := (.v (.bool true))) (d2 := (.agg [.sl ch2.1.1 ((ST37.un t2).1).length ch2.1.2 (RdS Y71 ch2.1.1 ((ST37.un t2).1)), .sl ch2.2.1.1 ((ST37.un t2).2.1).length ch2.2.1.2 (RdS Y122 ch2.2.1.1 ((ST37.un t2).2.1)), .sl A2 ((([] : List (List Int)) ++ ((ST37.un t2).2.2.1)) ++ [x2]).length cp2 (RdS (Ty.arr .u8 20) A2 ((([] : List (List Int)) ++ ((ST37.un t2).2.2.1)) ++ [x2])), .sl ch2.2.2.2.1.1 ((ST37.un t2).2.2.2.1).length ch2.2.2.2.1.2 (RdS Y133 ch2.2.2.2.1.1 ((ST37.un t2).2.2.2.1)), .one (.int .i64 ((ST37.un t2).2.2.2.2.1)), .sl ch2.2.2.2.2.2.1.1 ((ST37.un t2).2.2.2.2.2.1).length ch2.2.2.2.2.2.1.2 (RdS Y100 ch2.2.2.2.2.2.1.1 ((ST37.un t2).2.2.2.2.2.1)), .one (.bool ((ST37.un t2).2.2.2.2.2.2.1)), .sl ch2.2.2.2.2.2.2.2.1 ((ST37.un t2).2.2.2.2.2.2.2).length ch2.2.2.2.2.2.2.2.2 (SR37 ch2.2.2.2.2.2.2.2.1 ((ST37.un t2).2.2.2.2.2.2.2))])) S rfl rfl (resD_cell rfl (.there .here) T37 rfl rfl) fun ok1 ok2 => S.retX (Hx := []) hb _ _ (((ch2.1.1, ch2.1.2), (ch2.2.1.1, ch2.2.1.2), (A2, cp2), (ch2.2.2.2.1.1, ch2.2.2.2.1.2), (), (ch2.2.2.2.2.2.1.1, ch2.2.2.2.2.2.1.2), (), (ch2.2.2.2.2.2.2.2.1, ch2.2.2.2.2.2.2.2.2)) : W21) .nil ⟨⟨ok1, trivial⟩, ok2, trivial⟩
abbrev state_State_Touch_0nil.Ty : Type := (List Int) → Option Bool
def state_State_Touch_0nil.Ctr (s : state_State_Touch_0nil.Ty) : Prop := ∀ (x1 : List Int) (r : Bool) (h0 : s x1 = some r) (mi : Mem) (w0 : World), okL mi [(.v (.pointer none)), (.agg [.ints .u8 x1 20])] → Pre mi [] w0 → Calls Tryz.prog 28 (([(.v (.pointer none)), (.agg [.ints .u8 x1 20])] : List D).map D.val).toArray w0 (RetX mi [] (fun (ch : Unit) => ((.v (.bool r)) : D)) (fun (ch : Unit) => []) w0)
def state_State_Touch_0nil.f (x1 : List Int) : Option Bool := some false
theorem state_State_Touch_0nil.ok : state_State_Touch_0nil.Ctr (state_State_Touch_0nil.f) := by
 intro x1 r h0 mi w0 ok hm
 delta state_State_Touch_0nil.f at h0
 refine c_enterX (n := 21) [(.v (.pointer none)), (.agg [.ints .u8 x1 20])] (l := [(0, (.v (.pointer none))), (1, (.agg [.ints .u8 x1 20]))]) Tryz.func28 rfl rfl rfl rfl ok hm ?_
 clear ok hm
 intro b0 hb a S
 refine c_region ?_
 refine s_box S rfl rfl rfl ?_; clear S a; intro g1 a w S
 refine s_assign S rfl rfl ?_; clear S a; intro a S
 refine c_end ?_
 refine wp_seq ?_
 refine c_region ?_
 refine s_move S rfl rfl ?_; clear S a; intro a S
 refine s_eqp S (b := true) rfl rfl Tryz.underlying26 rfl rfl ?_; clear S a; intro a S
 refine c_end ?_
 refine c_condT S rfl rfl ?_
 refine c_region ?_
 refine s_assign S rfl rfl ?_; clear S a; intro a S
 refine c_end ?_
 refine wp_ret ?_
 refine x_thenR ?_
 obtain rfl := Option.some.inj h0
 exact b_ret1 (d := (.v (.bool false))) S rfl rfl fun ok => S.retX (Hx := []) hb _ _ (() : Unit) .nil ok
abbrev smithyref14_State_ColdSlot.Ty : Type := ST37 → (List Int) → (List Int) → Option Bool
def smithyref14_State_ColdSlot.Ctr (s : smithyref14_State_ColdSlot.Ty) : Prop := ∀ (x1 : ST37) (x2 : List Int) (x3 : List Int) (ch_0_0 : (Option Addr × Nat) × (Option Addr × Nat) × (Option Addr × Nat) × (Option Addr × Nat) × Unit × (Option Addr × Nat) × Unit × (Option Addr × Nat)) (r : Bool) (h0 : s x1 x2 x3 = some r) (mi : Mem) (w0 : World), okL mi [(.agg [.sl ch_0_0.1.1 ((ST37.un x1).1).length ch_0_0.1.2 (RdS Y71 ch_0_0.1.1 ((ST37.un x1).1)), .sl ch_0_0.2.1.1 ((ST37.un x1).2.1).length ch_0_0.2.1.2 (RdS Y122 ch_0_0.2.1.1 ((ST37.un x1).2.1)), .sl ch_0_0.2.2.1.1 ((ST37.un x1).2.2.1).length ch_0_0.2.2.1.2 (RdS (Ty.arr .u8 20) ch_0_0.2.2.1.1 ((ST37.un x1).2.2.1)), .sl ch_0_0.2.2.2.1.1 ((ST37.un x1).2.2.2.1).length ch_0_0.2.2.2.1.2 (RdS Y133 ch_0_0.2.2.2.1.1 ((ST37.un x1).2.2.2.1)), .one (.int .i64 ((ST37.un x1).2.2.2.2.1)), .sl ch_0_0.2.2.2.2.2.1.1 ((ST37.un x1).2.2.2.2.2.1).length ch_0_0.2.2.2.2.2.1.2 (RdS Y100 ch_0_0.2.2.2.2.2.1.1 ((ST37.un x1).2.2.2.2.2.1)), .one (.bool ((ST37.un x1).2.2.2.2.2.2.1)), .sl ch_0_0.2.2.2.2.2.2.2.1 ((ST37.un x1).2.2.2.2.2.2.2).length ch_0_0.2.2.2.2.2.2.2.2 (SR37 ch_0_0.2.2.2.2.2.2.2.1 ((ST37.un x1).2.2.2.2.2.2.2))]), (.agg [.ints .u8 x2 20]), (.agg [.ints .u64 x3 4])] → Pre mi [] w0 → Calls Tryz.prog 82 (([(.agg [.sl ch_0_0.1.1 ((ST37.un x1).1).length ch_0_0.1.2 (RdS Y71 ch_0_0.1.1 ((ST37.un x1).1)), .sl ch_0_0.2.1.1 ((ST37.un x1).2.1).length ch_0_0.2.1.2 (RdS Y122 ch_0_0.2.1.1 ((ST37.un x1).2.1)), .sl ch_0_0.2.2.1.1 ((ST37.un x1).2.2.1).length ch_0_0.2.2.1.2 (RdS (Ty.arr .u8 20) ch_0_0.2.2.1.1 ((ST37.un x1).2.2.1)), .sl ch_0_0.2.2.2.1.1 ((ST37.un x1).2.2.2.1).length ch_0_0.2.2.2.1.2 (RdS Y133 ch_0_0.2.2.2.1.1 ((ST37.un x1).2.2.2.1)), .one (.int .i64 ((ST37.un x1).2.2.2.2.1)), .sl ch_0_0.2.2.2.2.2.1.1 ((ST37.un x1).2.2.2.2.2.1).length ch_0_0.2.2.2.2.2.1.2 (RdS Y100 ch_0_0.2.2.2.2.2.1.1 ((ST37.un x1).2.2.2.2.2.1)), .one (.bool ((ST37.un x1).2.2.2.2.2.2.1)), .sl ch_0_0.2.2.2.2.2.2.2.1 ((ST37.un x1).2.2.2.2.2.2.2).length ch_0_0.2.2.2.2.2.2.2.2 (SR37 ch_0_0.2.2.2.2.2.2.2.1 ((ST37.un x1).2.2.2.2.2.2.2))]), (.agg [.ints .u8 x2 20]), (.agg [.ints .u64 x3 4])] : List D).map D.val).toArray w0 (RetX mi [] (fun (ch : Unit) => ((.v (.bool r)) : D)) (fun (ch : Unit) => []) w0)
def smithyref14_State_ColdSlot.j1 : Option Bool := some true
def smithyref14_State_ColdSlot.j2 (y1 : Int) (rec1 : Int → Option Bool) (y2 : Bool) : Option Bool := if y2 = true then (some false) else (rec1 (wr .i64 (y1 + 1)))
def smithyref14_State_ColdSlot.b1 (x1 : ST37) (x2 : List Int) (x3 : List Int) (rec1 : Int → Option Bool) (y1 : Int) : Option Bool := if (decide (y1 < (((ST37.un x1).2.2.2.1).length : Int))) = true then (if (0 : Int) ≤ y1 ∧ y1 < (((ST37.un x1).2.2.2.1).length : Int) then (if (decide ((gt ((ST37.un x1).2.2.2.1) y1).1 = x2)) = true then (smithyref14_State_ColdSlot.j2 y1 rec1 (decide ((gt ((ST37.un x1).2.2.2.1) y1).2 = x3))) else (smithyref14_State_ColdSlot.j2 y1 rec1 false)) else none) else smithyref14_State_ColdSlot.j1
def smithyref14_State_ColdSlot.l1 (x1 : ST37) (x2 : List Int) (x3 : List Int) : Nat → Int → Option Bool
  | 0, _ => none
  | q + 1, y1 => smithyref14_State_ColdSlot.b1 x1 x2 x3 (smithyref14_State_ColdSlot.l1 x1 x2 x3 q) y1
def smithyref14_State_ColdSlot.f (k : Nat) (x1 : ST37) (x2 : List Int) (x3 : List Int) : Option Bool := smithyref14_State_ColdSlot.l1 x1 x2 x3 k 0
theorem smithyref14_State_ColdSlot.ok (k : Nat) : smithyref14_State_ColdSlot.Ctr (smithyref14_State_ColdSlot.f k) := by
 intro x1 x2 x3 ch_0_0 r h0 mi w0 ok hm
 delta smithyref14_State_ColdSlot.f at h0
 refine c_enterX (n := 33) [(.agg [.sl ch_0_0.1.1 ((ST37.un x1).1).length ch_0_0.1.2 (RdS Y71 ch_0_0.1.1 ((ST37.un x1).1)), .sl ch_0_0.2.1.1 ((ST37.un x1).2.1).length ch_0_0.2.1.2 (RdS Y122 ch_0_0.2.1.1 ((ST37.un x1).2.1)), .sl ch_0_0.2.2.1.1 ((ST37.un x1).2.2.1).length ch_0_0.2.2.1.2 (RdS (Ty.arr .u8 20) ch_0_0.2.2.1.1 ((ST37.un x1).2.2.1)), .sl ch_0_0.2.2.2.1.1 ((ST37.un x1).2.2.2.1).length ch_0_0.2.2.2.1.2 (RdS Y133 ch_0_0.2.2.2.1.1 ((ST37.un x1).2.2.2.1)), .one (.int .i64 ((ST37.un x1).2.2.2.2.1)), .sl ch_0_0.2.2.2.2.2.1.1 ((ST37.un x1).2.2.2.2.2.1).length ch_0_0.2.2.2.2.2.1.2 (RdS Y100 ch_0_0.2.2.2.2.2.1.1 ((ST37.un x1).2.2.2.2.2.1)), .one (.bool ((ST37.un x1).2.2.2.2.2.2.1)), .sl ch_0_0.2.2.2.2.2.2.2.1 ((ST37.un x1).2.2.2.2.2.2.2).length ch_0_0.2.2.2.2.2.2.2.2 (SR37 ch_0_0.2.2.2.2.2.2.2.1 ((ST37.un x1).2.2.2.2.2.2.2))]), (.agg [.ints .u8 x2 20]), (.agg [.ints .u64 x3 4])] (l := [(0, (.agg [.sl ch_0_0.1.1 ((ST37.un x1).1).length ch_0_0.1.2 (RdS Y71 ch_0_0.1.1 ((ST37.un x1).1)), .sl ch_0_0.2.1.1 ((ST37.un x1).2.1).length ch_0_0.2.1.2 (RdS Y122 ch_0_0.2.1.1 ((ST37.un x1).2.1)), .sl ch_0_0.2.2.1.1 ((ST37.un x1).2.2.1).length ch_0_0.2.2.1.2 (RdS (Ty.arr .u8 20) ch_0_0.2.2.1.1 ((ST37.un x1).2.2.1)), .sl ch_0_0.2.2.2.1.1 ((ST37.un x1).2.2.2.1).length ch_0_0.2.2.2.1.2 (RdS Y133 ch_0_0.2.2.2.1.1 ((ST37.un x1).2.2.2.1)), .one (.int .i64 ((ST37.un x1).2.2.2.2.1)), .sl ch_0_0.2.2.2.2.2.1.1 ((ST37.un x1).2.2.2.2.2.1).length ch_0_0.2.2.2.2.2.1.2 (RdS Y100 ch_0_0.2.2.2.2.2.1.1 ((ST37.un x1).2.2.2.2.2.1)), .one (.bool ((ST37.un x1).2.2.2.2.2.2.1)), .sl ch_0_0.2.2.2.2.2.2.2.1 ((ST37.un x1).2.2.2.2.2.2.2).length ch_0_0.2.2.2.2.2.2.2.2 (SR37 ch_0_0.2.2.2.2.2.2.2.1 ((ST37.un x1).2.2.2.2.2.2.2))])), (1, (.agg [.ints .u8 x2 20])), (2, (.agg [.ints .u64 x3 4]))]) Tryz.func82 rfl rfl rfl rfl ok hm ?_
 clear ok hm
 intro b0 hb a S
 refine c_region ?_
 refine s_box S rfl rfl rfl ?_; clear S a; intro g1 a w S
 refine s_box S rfl rfl rfl ?_; clear S a w; intro g2 a w S
 refine s_box S rfl rfl rfl ?_; clear S a w; intro g3 a w S
 refine s_assign S rfl rfl ?_; clear S a; intro a S
 refine c_end ?_
 refine wp_seq_k ?_
 intro K1 hK1
 have j1 : ∀ (m : Mem) (a : Act) (w : World), St 33 m b0 [] [] a w → smithyref14_State_ColdSlot.j1 = some r → K1 a w := by
  intro m a w S h0
  delta smithyref14_State_ColdSlot.j1 at h0
  refine hK1 a w ?_
  refine c_region ?_
  refine s_assign S rfl rfl ?_; clear S a; intro a S
  refine c_end ?_
  refine wp_ret ?_
  obtain rfl := Option.some.inj h0
  exact b_ret1 (d := (.v (.bool true))) S rfl rfl fun ok => S.retX (Hx := []) hb _ _ (() : Unit) .nil ok
 refine c_region ?_
 refine s_fieldAddr S rfl I37_3 T33 (by decide) rfl rfl ?_; clear S a; intro a S
 refine s_loadSl S rfl (.there (.there .here)) T33 (A := ch_0_0.2.2.2.1.1) (len := ((ST37.un x1).2.2.2.1).length) (cap := ch_0_0.2.2.2.1.2) rfl rfl ?_; clear S a; intro a S
 refine s_lenS S rfl Tryz.underlying33 rfl ?_; clear S a; intro a S
 refine s_move S rfl rfl ?_; clear S a; intro a S
 refine c_end ?_
 refine wp_block ?_
 refine c_loop (fun q1 a w => ∃ (m : Mem) (y1 : Int) (g31 : Nat) (g32 : Nat) (g33 : Nat), St 33 m b0 [(11, (.v (.int .i64 y1))), (10, (.v (.int .i64 (((ST37.un x1).2.2.2.1).length : Int)))), (5, (.v (.pointer (some ⟨g31, 0, none⟩)))), (4, (.v (.pointer (some ⟨g32, 0, none⟩)))), (3, (.v (.pointer (some ⟨g33, 0, none⟩))))] [Res.cells g31 43 [.ints .u64 x3 4], Res.cells g32 40 [.ints .u8 x2 20], Res.cells g33 37 [.sl ch_0_0.1.1 ((ST37.un x1).1).length ch_0_0.1.2 (RdS Y71 ch_0_0.1.1 ((ST37.un x1).1)), .sl ch_0_0.2.1.1 ((ST37.un x1).2.1).length ch_0_0.2.1.2 (RdS Y122 ch_0_0.2.1.1 ((ST37.un x1).2.1)), .sl ch_0_0.2.2.1.1 ((ST37.un x1).2.2.1).length ch_0_0.2.2.1.2 (RdS (Ty.arr .u8 20) ch_0_0.2.2.1.1 ((ST37.un x1).2.2.1)), .sl ch_0_0.2.2.2.1.1 ((ST37.un x1).2.2.2.1).length ch_0_0.2.2.2.1.2 (RdS Y133 ch_0_0.2.2.2.1.1 ((ST37.un x1).2.2.2.1)), .one (.int .i64 ((ST37.un x1).2.2.2.2.1)), .sl ch_0_0.2.2.2.2.2.1.1 ((ST37.un x1).2.2.2.2.2.1).length ch_0_0.2.2.2.2.2.1.2 (RdS Y100 ch_0_0.2.2.2.2.2.1.1 ((ST37.un x1).2.2.2.2.2.1)), .one (.bool ((ST37.un x1).2.2.2.2.2.2.1)), .sl ch_0_0.2.2.2.2.2.2.2.1 ((ST37.un x1).2.2.2.2.2.2.2).length ch_0_0.2.2.2.2.2.2.2.2 (SR37 ch_0_0.2.2.2.2.2.2.2.1 ((ST37.un x1).2.2.2.2.2.2.2))]] a w ∧ smithyref14_State_ColdSlot.l1 x1 x2 x3 q1 y1 = some r) ?_ ?_ (k := k) ⟨_, 0, g3, g2, g1, (S.sub (subR rfl) (.cons .here (.cons .here (.cons .here .nil)))), h0⟩
 ·rintro a w ⟨m, y1, g31, g32, g33, S, h0⟩
  exact (nomatch (show (none : Option Bool) = some r from h0))
 ·clear S h0
  rintro q1 a w ⟨m, y1, g31, g32, g33, S, h0⟩
  replace h0 : smithyref14_State_ColdSlot.b1 x1 x2 x3 (smithyref14_State_ColdSlot.l1 x1 x2 x3 q1) y1 = some r := h0
  delta smithyref14_State_ColdSlot.b1 at h0
  refine c_region ?_
  refine s_bin S rfl rfl rfl rfl ?_; clear S a; intro a S
  refine c_end ?_
  refine wp_seq ?_
  rcases ite_of h0 with ⟨c1, h1⟩ | ⟨c1, h1⟩ <;> clear h0
  ·refine c_condT S rfl c1 ?_
   refine wp_skip ?_
   refine x_thenN ?_
   refine wp_seq ?_
   refine wp_block ?_
   refine c_region ?_
   refine s_move S rfl rfl ?_; clear S a; intro a S
   refine s_assign S rfl rfl ?_; clear S a; intro a S
   refine c_end ?_
   refine wp_seq_k ?_
   intro K2 hK2
   have j2 : ∀ (m : Mem) (y2 : Bool) (g34 : Nat) (g35 : Nat) (g36 : Nat) (a : Act) (w : World), St 33 m b0 [(31, (.v (.bool y2))), (11, (.v (.int .i64 y1))), (10, (.v (.int .i64 (((ST37.un x1).2.2.2.1).length : Int)))), (5, (.v (.pointer (some ⟨g34, 0, none⟩)))), (4, (.v (.pointer (some ⟨g35, 0, none⟩)))), (3, (.v (.pointer (some ⟨g36, 0, none⟩))))] [Res.cells g34 43 [.ints .u64 x3 4], Res.cells g35 40 [.ints .u8 x2 20], Res.cells g36 37 [.sl ch_0_0.1.1 ((ST37.un x1).1).length ch_0_0.1.2 (RdS Y71 ch_0_0.1.1 ((ST37.un x1).1)), .sl ch_0_0.2.1.1 ((ST37.un x1).2.1).length ch_0_0.2.1.2 (RdS Y122 ch_0_0.2.1.1 ((ST37.un x1).2.1)), .sl ch_0_0.2.2.1.1 ((ST37.un x1).2.2.1).length ch_0_0.2.2.1.2 (RdS (Ty.arr .u8 20) ch_0_0.2.2.1.1 ((ST37.un x1).2.2.1)), .sl ch_0_0.2.2.2.1.1 ((ST37.un x1).2.2.2.1).length ch_0_0.2.2.2.1.2 (RdS Y133 ch_0_0.2.2.2.1.1 ((ST37.un x1).2.2.2.1)), .one (.int .i64 ((ST37.un x1).2.2.2.2.1)), .sl ch_0_0.2.2.2.2.2.1.1 ((ST37.un x1).2.2.2.2.2.1).length ch_0_0.2.2.2.2.2.1.2 (RdS Y100 ch_0_0.2.2.2.2.2.1.1 ((ST37.un x1).2.2.2.2.2.1)), .one (.bool ((ST37.un x1).2.2.2.2.2.2.1)), .sl ch_0_0.2.2.2.2.2.2.2.1 ((ST37.un x1).2.2.2.2.2.2.2).length ch_0_0.2.2.2.2.2.2.2.2 (SR37 ch_0_0.2.2.2.2.2.2.2.1 ((ST37.un x1).2.2.2.2.2.2.2))]] a w → smithyref14_State_ColdSlot.j2 y1 (smithyref14_State_ColdSlot.l1 x1 x2 x3 q1) y2 = some r → K2 a w := by
    intro m y2 g34 g35 g36 a w S h0
    delta smithyref14_State_ColdSlot.j2 at h0
    refine hK2 a w ?_
    rcases ite_of h0 with ⟨c2, h1⟩ | ⟨c2, h1⟩ <;> clear h0
    ·refine c_condT S rfl c2 ?_
     refine c_region ?_
     refine s_assign S rfl rfl ?_; clear S a; intro a S
     refine c_end ?_
     refine wp_ret ?_
     refine x_blockR ?_
     refine x_thenR ?_
     refine x_thenR ?_
     refine x_blockR ?_
     refine x_thenR ?_
     obtain rfl := Option.some.inj h1
     exact b_ret1 (d := (.v (.bool false))) S rfl rfl fun ok => S.retX (Hx := []) hb _ _ (() : Unit) .nil ok
    ·refine c_condF S rfl c2 ?_
     refine wp_skip ?_
     refine x_blockN ?_
     refine x_thenN ?_
     refine c_region' ?_
     refine s_bin S rfl rfl rfl rfl ?_; clear S a; intro a S
     refine s_move S rfl rfl ?_; clear S a; intro a S
     refine c_end' ?_
     refine x_thenN ?_
     exact ⟨_, (wr .i64 (y1 + 1)), g34, g35, g36, (S.sub (subR rfl) (.cons .here (.cons .here (.cons .here .nil)))), h1⟩
   refine c_heldS S (.take 0 (.take 1 (.take 2 (.take 3 (.take 4 (.take 5 (.take 6 (.take 7 (.take 8 (.take 9 (.take 10 (.take 11 (.take 12 (.take 13 (.take 14 (.take 15 (.take 16 (.take 17 .done)))))))))))))))))) 18 [Res.cells g31 43 [.ints .u64 x3 4], Res.cells g32 40 [.ints .u8 x2 20], Res.cells g33 37 [.sl ch_0_0.1.1 ((ST37.un x1).1).length ch_0_0.1.2 (RdS Y71 ch_0_0.1.1 ((ST37.un x1).1)), .sl ch_0_0.2.1.1 ((ST37.un x1).2.1).length ch_0_0.2.1.2 (RdS Y122 ch_0_0.2.1.1 ((ST37.un x1).2.1)), .sl ch_0_0.2.2.1.1 ((ST37.un x1).2.2.1).length ch_0_0.2.2.1.2 (RdS (Ty.arr .u8 20) ch_0_0.2.2.1.1 ((ST37.un x1).2.2.1)), .sl ch_0_0.2.2.2.1.1 ((ST37.un x1).2.2.2.1).length ch_0_0.2.2.2.1.2 (RdS Y133 ch_0_0.2.2.2.1.1 ((ST37.un x1).2.2.2.1)), .one (.int .i64 ((ST37.un x1).2.2.2.2.1)), .sl ch_0_0.2.2.2.2.2.1.1 ((ST37.un x1).2.2.2.2.2.1).length ch_0_0.2.2.2.2.2.1.2 (RdS Y100 ch_0_0.2.2.2.2.2.1.1 ((ST37.un x1).2.2.2.2.2.1)), .one (.bool ((ST37.un x1).2.2.2.2.2.2.1)), .sl ch_0_0.2.2.2.2.2.2.2.1 ((ST37.un x1).2.2.2.2.2.2.2).length ch_0_0.2.2.2.2.2.2.2.2 (SR37 ch_0_0.2.2.2.2.2.2.2.1 ((ST37.un x1).2.2.2.2.2.2.2))]] (.cons .here (.cons .here (.cons .here .nil))) ⟨Res.stay_cells, Res.stay_cells, Res.stay_cells, trivial⟩ [(7, (.v (.int .i64 y1))), (5, (.v (.pointer (some ⟨g31, 0, none⟩)))), (4, (.v (.pointer (some ⟨g32, 0, none⟩)))), (3, (.v (.pointer (some ⟨g33, 0, none⟩))))] (subR rfl) (by kernel_rfl) (by kernel_rfl) ?_; clear S; intro w S CL hw le
   refine h_fieldAddr S CL hw le (subR rfl) rfl I37_3 T33 (by decide) rfl rfl rfl trivial ?_; clear S CL a; intro a S CL
   refine h_loadSl S CL hw le (subR rfl) rfl (.there (.there .here)) T33 (A := ch_0_0.2.2.2.1.1) (len := ((ST37.un x1).2.2.2.1).length) (cap := ch_0_0.2.2.2.1.2) rfl rfl rfl trivial ?_; clear S CL a; intro a S CL
   refine h_move S CL hw le (subR rfl) rfl rfl rfl trivial ?_; clear S CL a; intro a S CL
   obtain ⟨c3, h2⟩ := chk_of h1; clear h1
   refine h_iaddrS S CL hw le (subR rfl) rfl rfl rfl Tryz.underlying33 T133 c3.1 c3.2 rfl rfl trivial ?_; clear S CL a; intro p1 a S CL
   refine h_faddrP S CL hw le (subR rfl) (tF := (Ty.arr .u8 20)) (y := (gt ((ST37.un x1).2.2.2.1) y1).1) rfl I133_0 T40 (by decide) (fun m h => (at_fst (at_0 h))) rfl rfl trivial ?_; clear S CL a; intro a S CL
   refine h_ldA S CL hw le (subR rfl) (fun (c : Unit) => [.ints .u8 ((gt ((ST37.un x1).2.2.2.1) y1).1) 20]) rfl T40 (fun _ => rfl) rfl rfl trivial ?_; clear S CL a; intro ch1 a S CL
   refine h_loada S CL hw le (subR rfl) rfl (.there .here) T40 (s' := [.ints .u8 x2 20]) rfl rfl rfl trivial ?_; clear S CL a; intro a S CL
   refine h_eqa S CL hw le (subR rfl) rfl rfl Tryz.underlying40 Tryz.underlying5 T5 Q40 rfl rfl trivial ?_; clear S CL a; intro a S CL
   refine h_move S CL hw le (subR rfl) rfl rfl rfl trivial ?_; clear S CL a; intro a S CL
   rcases ite_of h2 with ⟨c4, h3⟩ | ⟨c4, h3⟩ <;> clear h2
   ·refine h_fieldAddr S CL hw le (subR rfl) rfl I37_3 T33 (by decide) rfl rfl rfl ⟨_, _, rfl, rfl, c4⟩ ?_; clear S CL a; intro a S CL
    refine h_loadSl S CL hw le (subR rfl) rfl (.there (.there .here)) T33 (A := ch_0_0.2.2.2.1.1) (len := ((ST37.un x1).2.2.2.1).length) (cap := ch_0_0.2.2.2.1.2) rfl rfl rfl ⟨_, _, rfl, rfl, c4⟩ ?_; clear S CL a; intro a S CL
    refine h_move S CL hw le (subR rfl) rfl rfl rfl ⟨_, _, rfl, rfl, c4⟩ ?_; clear S CL a; intro a S CL
    refine h_iaddrS S CL hw le (subR rfl) rfl rfl rfl Tryz.underlying33 T133 c3.1 c3.2 rfl rfl ⟨_, _, rfl, rfl, c4⟩ ?_; clear S CL a; intro p2 a S CL
    refine h_faddrP S CL hw le (subR rfl) (tF := (Ty.arr .u64 4)) (y := (gt ((ST37.un x1).2.2.2.1) y1).2) rfl I133_1 T43 (by decide) (fun m h => (at_snd (at_0 h))) rfl rfl ⟨_, _, rfl, rfl, c4⟩ ?_; clear S CL a; intro a S CL
    refine h_ldA S CL hw le (subR rfl) (fun (c : Unit) => [.ints .u64 ((gt ((ST37.un x1).2.2.2.1) y1).2) 4]) rfl T43 (fun _ => rfl) rfl rfl ⟨_, _, rfl, rfl, c4⟩ ?_; clear S CL a; intro ch2 a S CL
    refine h_loada S CL hw le (subR rfl) rfl .here T43 (s' := [.ints .u64 x3 4]) rfl rfl rfl ⟨_, _, rfl, rfl, c4⟩ ?_; clear S CL a; intro a S CL
    refine h_eqa S CL hw le (subR rfl) rfl rfl Tryz.underlying43 Tryz.underlying41 T41 Q43 rfl rfl ⟨_, _, rfl, rfl, c4⟩ ?_; clear S CL a; intro a S CL
    refine h_pick S CL hw le (subR rfl) (b := true) (hc_of rfl c4) rfl rfl rfl trivial ?_; clear S CL a; intro a S CL
    refine h_done ?_; clear CL hw le
    refine x_thenN ?_
    exact j2 _ (decide ((gt ((ST37.un x1).2.2.2.1) y1).2 = x3)) g31 g32 g33 a w (S.sub (subR rfl) (.cons .here (.cons .here (.cons .here .nil)))) h3
   ·refine h_skip S CL rfl rfl rfl (ne_bool c4) rfl ?_; clear S CL a; intro a S CL
    refine h_skip S CL rfl rfl rfl (ne_bool c4) rfl ?_; clear S CL a; intro a S CL
    refine h_skip S CL rfl rfl rfl (ne_bool c4) rfl ?_; clear S CL a; intro a S CL
    refine h_skip S CL rfl rfl rfl (ne_bool c4) rfl ?_; clear S CL a; intro a S CL
    refine h_skip S CL rfl rfl rfl (ne_bool c4) rfl ?_; clear S CL a; intro a S CL
    refine h_skip S CL rfl rfl rfl (ne_bool c4) rfl ?_; clear S CL a; intro a S CL
    refine h_skip S CL rfl rfl rfl (ne_bool c4) rfl ?_; clear S CL a; intro a S CL
    refine h_skip S CL rfl rfl rfl (ne_bool c4) rfl ?_; clear S CL a; intro a S CL
    refine h_pick S CL hw le (subR rfl) (b := false) (hc_of rfl c4) rfl rfl rfl trivial ?_; clear S CL a; intro a S CL
    refine h_done ?_; clear CL hw le
    refine x_thenN ?_
    exact j2 _ false g31 g32 g33 a w (S.sub (subR rfl) (.cons .here (.cons .here (.cons .here .nil)))) h3
  ·refine c_condF S rfl c1 ?_
   refine wp_exit ?_
   refine x_thenX ?_
   refine x_thenX ?_
   refine x_blockX ?_
   refine x_thenN ?_
   exact j1 _ a w (S.sub trivial .nil) h1
abbrev smithyref14_State_TouchSlot.Ty : Type := ST37 → (List Int) → (List Int) → Option (Bool × ST37)
def smithyref14_State_TouchSlot.Ctr (s : smithyref14_State_TouchSlot.Ty) : Prop := ∀ (x1 : ST37) (x2 : List Int) (x3 : List Int) (ch_0_0 : (Option Addr × Nat) × (Option Addr × Nat) × (Option Addr × Nat) × (Option Addr × Nat) × Unit × (Option Addr × Nat) × Unit × (Option Addr × Nat)) (r : Bool × ST37) (h0 : s x1 x2 x3 = some r) (mi : Mem) (w0 : World), okL mi [(.agg [.sl ch_0_0.1.1 ((ST37.un x1).1).length ch_0_0.1.2 (RdS Y71 ch_0_0.1.1 ((ST37.un x1).1)), .sl ch_0_0.2.1.1 ((ST37.un x1).2.1).length ch_0_0.2.1.2 (RdS Y122 ch_0_0.2.1.1 ((ST37.un x1).2.1)), .sl ch_0_0.2.2.1.1 ((ST37.un x1).2.2.1).length ch_0_0.2.2.1.2 (RdS (Ty.arr .u8 20) ch_0_0.2.2.1.1 ((ST37.un x1).2.2.1)), .sl ch_0_0.2.2.2.1.1 ((ST37.un x1).2.2.2.1).length ch_0_0.2.2.2.1.2 (RdS Y133 ch_0_0.2.2.2.1.1 ((ST37.un x1).2.2.2.1)), .one (.int .i64 ((ST37.un x1).2.2.2.2.1)), .sl ch_0_0.2.2.2.2.2.1.1 ((ST37.un x1).2.2.2.2.2.1).length ch_0_0.2.2.2.2.2.1.2 (RdS Y100 ch_0_0.2.2.2.2.2.1.1 ((ST37.un x1).2.2.2.2.2.1)), .one (.bool ((ST37.un x1).2.2.2.2.2.2.1)), .sl ch_0_0.2.2.2.2.2.2.2.1 ((ST37.un x1).2.2.2.2.2.2.2).length ch_0_0.2.2.2.2.2.2.2.2 (SR37 ch_0_0.2.2.2.2.2.2.2.1 ((ST37.un x1).2.2.2.2.2.2.2))]), (.agg [.ints .u8 x2 20]), (.agg [.ints .u64 x3 4])] → Pre mi [] w0 → Calls Tryz.prog 45 (([(.agg [.sl ch_0_0.1.1 ((ST37.un x1).1).length ch_0_0.1.2 (RdS Y71 ch_0_0.1.1 ((ST37.un x1).1)), .sl ch_0_0.2.1.1 ((ST37.un x1).2.1).length ch_0_0.2.1.2 (RdS Y122 ch_0_0.2.1.1 ((ST37.un x1).2.1)), .sl ch_0_0.2.2.1.1 ((ST37.un x1).2.2.1).length ch_0_0.2.2.1.2 (RdS (Ty.arr .u8 20) ch_0_0.2.2.1.1 ((ST37.un x1).2.2.1)), .sl ch_0_0.2.2.2.1.1 ((ST37.un x1).2.2.2.1).length ch_0_0.2.2.2.1.2 (RdS Y133 ch_0_0.2.2.2.1.1 ((ST37.un x1).2.2.2.1)), .one (.int .i64 ((ST37.un x1).2.2.2.2.1)), .sl ch_0_0.2.2.2.2.2.1.1 ((ST37.un x1).2.2.2.2.2.1).length ch_0_0.2.2.2.2.2.1.2 (RdS Y100 ch_0_0.2.2.2.2.2.1.1 ((ST37.un x1).2.2.2.2.2.1)), .one (.bool ((ST37.un x1).2.2.2.2.2.2.1)), .sl ch_0_0.2.2.2.2.2.2.2.1 ((ST37.un x1).2.2.2.2.2.2.2).length ch_0_0.2.2.2.2.2.2.2.2 (SR37 ch_0_0.2.2.2.2.2.2.2.1 ((ST37.un x1).2.2.2.2.2.2.2))]), (.agg [.ints .u8 x2 20]), (.agg [.ints .u64 x3 4])] : List D).map D.val).toArray w0 (RetX mi [] (fun (ch : W21) => ((.tup [(false, [.one (.bool r.1)]), (true, [.sl ch.1.1 ((ST37.un r.2).1).length ch.1.2 (RdS Y71 ch.1.1 ((ST37.un r.2).1)), .sl ch.2.1.1 ((ST37.un r.2).2.1).length ch.2.1.2 (RdS Y122 ch.2.1.1 ((ST37.un r.2).2.1)), .sl ch.2.2.1.1 ((ST37.un r.2).2.2.1).length ch.2.2.1.2 (RdS (Ty.arr .u8 20) ch.2.2.1.1 ((ST37.un r.2).2.2.1)), .sl ch.2.2.2.1.1 ((ST37.un r.2).2.2.2.1).length ch.2.2.2.1.2 (RdS Y133 ch.2.2.2.1.1 ((ST37.un r.2).2.2.2.1)), .one (.int .i64 ((ST37.un r.2).2.2.2.2.1)), .sl ch.2.2.2.2.2.1.1 ((ST37.un r.2).2.2.2.2.2.1).length ch.2.2.2.2.2.1.2 (RdS Y100 ch.2.2.2.2.2.1.1 ((ST37.un r.2).2.2.2.2.2.1)), .one (.bool ((ST37.un r.2).2.2.2.2.2.2.1)), .sl ch.2.2.2.2.2.2.2.1 ((ST37.un r.2).2.2.2.2.2.2.2).length ch.2.2.2.2.2.2.2.2 (SR37 ch.2.2.2.2.2.2.2.1 ((ST37.un r.2).2.2.2.2.2.2.2))])]) : D)) (fun (ch : W21) => []) w0)
def smithyref14_State_TouchSlot.f (k : Nat) (x1 : ST37) (x2 : List Int) (x3 : List Int) : Option (Bool × ST37) := (smithyref14_State_ColdSlot.f k x1 x2 x3).bind fun t1 => (if (!t1) = true then (some (false, x1)) else ((smithyref14_State_keep.f x1).bind fun t2 => (if ((([] : List ((List Int) × (List Int)))).length + ((ST37.un t2).2.2.2.1).length) * 56 ≤ 140737488355328 then (if ((([] : List ((List Int) × (List Int))) ++ ((ST37.un t2).2.2.2.1)).length + ([(x2, x3)]).length) * 56 ≤ 140737488355328 then (some (true, (ST37.mk ((ST37.un t2).1, (ST37.un t2).2.1, (ST37.un t2).2.2.1, (([] : List ((List Int) × (List Int))) ++ ((ST37.un t2).2.2.2.1)) ++ [(x2, x3)], (ST37.un t2).2.2.2.2.1, (ST37.un t2).2.2.2.2.2.1, (ST37.un t2).2.2.2.2.2.2.1, (ST37.un t2).2.2.2.2.2.2.2)))) else none) else none)))
theorem smithyref14_State_TouchSlot.ok (k : Nat) : smithyref14_State_TouchSlot.Ctr (smithyref14_State_TouchSlot.f k) := by
 intro x1 x2 x3 ch_0_0 r h0 mi w0 ok hm
 delta smithyref14_State_TouchSlot.f at h0
 refine c_enterX (n := 31) [(.agg [.sl ch_0_0.1.1 ((ST37.un x1).1).length ch_0_0.1.2 (RdS Y71 ch_0_0.1.1 ((ST37.un x1).1)), .sl ch_0_0.2.1.1 ((ST37.un x1).2.1).length ch_0_0.2.1.2 (RdS Y122 ch_0_0.2.1.1 ((ST37.un x1).2.1)), .sl ch_0_0.2.2.1.1 ((ST37.un x1).2.2.1).length ch_0_0.2.2.1.2 (RdS (Ty.arr .u8 20) ch_0_0.2.2.1.1 ((ST37.un x1).2.2.1)), .sl ch_0_0.2.2.2.1.1 ((ST37.un x1).2.2.2.1).length ch_0_0.2.2.2.1.2 (RdS Y133 ch_0_0.2.2.2.1.1 ((ST37.un x1).2.2.2.1)), .one (.int .i64 ((ST37.un x1).2.2.2.2.1)), .sl ch_0_0.2.2.2.2.2.1.1 ((ST37.un x1).2.2.2.2.2.1).length ch_0_0.2.2.2.2.2.1.2 (RdS Y100 ch_0_0.2.2.2.2.2.1.1 ((ST37.un x1).2.2.2.2.2.1)), .one (.bool ((ST37.un x1).2.2.2.2.2.2.1)), .sl ch_0_0.2.2.2.2.2.2.2.1 ((ST37.un x1).2.2.2.2.2.2.2).length ch_0_0.2.2.2.2.2.2.2.2 (SR37 ch_0_0.2.2.2.2.2.2.2.1 ((ST37.un x1).2.2.2.2.2.2.2))]), (.agg [.ints .u8 x2 20]), (.agg [.ints .u64 x3 4])] (l := [(0, (.agg [.sl ch_0_0.1.1 ((ST37.un x1).1).length ch_0_0.1.2 (RdS Y71 ch_0_0.1.1 ((ST37.un x1).1)), .sl ch_0_0.2.1.1 ((ST37.un x1).2.1).length ch_0_0.2.1.2 (RdS Y122 ch_0_0.2.1.1 ((ST37.un x1).2.1)), .sl ch_0_0.2.2.1.1 ((ST37.un x1).2.2.1).length ch_0_0.2.2.1.2 (RdS (Ty.arr .u8 20) ch_0_0.2.2.1.1 ((ST37.un x1).2.2.1)), .sl ch_0_0.2.2.2.1.1 ((ST37.un x1).2.2.2.1).length ch_0_0.2.2.2.1.2 (RdS Y133 ch_0_0.2.2.2.1.1 ((ST37.un x1).2.2.2.1)), .one (.int .i64 ((ST37.un x1).2.2.2.2.1)), .sl ch_0_0.2.2.2.2.2.1.1 ((ST37.un x1).2.2.2.2.2.1).length ch_0_0.2.2.2.2.2.1.2 (RdS Y100 ch_0_0.2.2.2.2.2.1.1 ((ST37.un x1).2.2.2.2.2.1)), .one (.bool ((ST37.un x1).2.2.2.2.2.2.1)), .sl ch_0_0.2.2.2.2.2.2.2.1 ((ST37.un x1).2.2.2.2.2.2.2).length ch_0_0.2.2.2.2.2.2.2.2 (SR37 ch_0_0.2.2.2.2.2.2.2.1 ((ST37.un x1).2.2.2.2.2.2.2))])), (1, (.agg [.ints .u8 x2 20])), (2, (.agg [.ints .u64 x3 4]))]) Tryz.func45 rfl rfl rfl rfl ok hm ?_
 clear ok hm
 intro b0 hb a S
 refine c_region ?_
 refine s_box S rfl rfl rfl ?_; clear S a; intro g1 a w S
 refine s_box S rfl rfl rfl ?_; clear S a w; intro g2 a w S
 refine s_box S rfl rfl rfl ?_; clear S a w; intro g3 a w S
 refine s_assign S rfl rfl ?_; clear S a; intro a S
 refine s_alloc S Z37 rfl ⟨rfl, rfl, rfl, rfl, rfl, rfl, rfl, rfl, trivial⟩ rfl ?_; clear S a w; intro g4 a w S
 refine c_end ?_
 refine wp_seq ?_
 refine c_region ?_
 refine s_loada S rfl (.there (.there (.there .here))) T37 (s' := [.sl ch_0_0.1.1 ((ST37.un x1).1).length ch_0_0.1.2 (RdS Y71 ch_0_0.1.1 ((ST37.un x1).1)), .sl ch_0_0.2.1.1 ((ST37.un x1).2.1).length ch_0_0.2.1.2 (RdS Y122 ch_0_0.2.1.1 ((ST37.un x1).2.1)), .sl ch_0_0.2.2.1.1 ((ST37.un x1).2.2.1).length ch_0_0.2.2.1.2 (RdS (Ty.arr .u8 20) ch_0_0.2.2.1.1 ((ST37.un x1).2.2.1)), .sl ch_0_0.2.2.2.1.1 ((ST37.un x1).2.2.2.1).length ch_0_0.2.2.2.1.2 (RdS Y133 ch_0_0.2.2.2.1.1 ((ST37.un x1).2.2.2.1)), .one (.int .i64 ((ST37.un x1).2.2.2.2.1)), .sl ch_0_0.2.2.2.2.2.1.1 ((ST37.un x1).2.2.2.2.2.1).length ch_0_0.2.2.2.2.2.1.2 (RdS Y100 ch_0_0.2.2.2.2.2.1.1 ((ST37.un x1).2.2.2.2.2.1)), .one (.bool ((ST37.un x1).2.2.2.2.2.2.1)), .sl ch_0_0.2.2.2.2.2.2.2.1 ((ST37.un x1).2.2.2.2.2.2.2).length ch_0_0.2.2.2.2.2.2.2.2 (SR37 ch_0_0.2.2.2.2.2.2.2.1 ((ST37.un x1).2.2.2.2.2.2.2))]) rfl rfl ?_; clear S a; intro a S
 refine s_loada S rfl (.there (.there .here)) T40 (s' := [.ints .u8 x2 20]) rfl rfl ?_; clear S a; intro a S
 refine s_loada S rfl (.there .here) T43 (s' := [.ints .u64 x3 4]) rfl rfl ?_; clear S a; intro a S
 obtain ⟨t1, et1, h1⟩ := bind_of h0; clear h0
 refine s_callP S (fun (ch : Unit) => ((.v (.bool t1)) : D)) N82 rfl rfl (smithyref14_State_ColdSlot.ok k x1 x2 x3 ((ch_0_0.1.1, ch_0_0.1.2), (ch_0_0.2.1.1, ch_0_0.2.1.2), (ch_0_0.2.2.1.1, ch_0_0.2.2.1.2), (ch_0_0.2.2.2.1.1, ch_0_0.2.2.2.1.2), (), (ch_0_0.2.2.2.2.2.1.1, ch_0_0.2.2.2.2.2.1.2), (), (ch_0_0.2.2.2.2.2.2.2.1, ch_0_0.2.2.2.2.2.2.2.2)) t1 et1 _ _) ?_; clear S a w; intro ch1 m le1 a w S
 refine s_not S rfl rfl ?_; clear S a; intro a S
 refine c_end ?_
 rcases ite_of h1 with ⟨c1, h2⟩ | ⟨c1, h2⟩ <;> clear h1
 ·refine c_condT S rfl c1 ?_
  refine wp_seq (c_heldS S (.take 0 (.take 1 (.alts (.run 2 false .done .nil)))) 2 [Res.cells g4 37 [.one (.slice none 0 0), .one (.slice none 0 0), .one (.slice none 0 0), .one (.slice none 0 0), .one (.int .i64 0), .one (.slice none 0 0), .one (.bool false), .one (.slice none 0 0)], Res.cells g3 43 [.ints .u64 x3 4], Res.cells g2 40 [.ints .u8 x2 20], Res.cells g1 37 [.sl ch_0_0.1.1 ((ST37.un x1).1).length ch_0_0.1.2 (RdS Y71 ch_0_0.1.1 ((ST37.un x1).1)), .sl ch_0_0.2.1.1 ((ST37.un x1).2.1).length ch_0_0.2.1.2 (RdS Y122 ch_0_0.2.1.1 ((ST37.un x1).2.1)), .sl ch_0_0.2.2.1.1 ((ST37.un x1).2.2.1).length ch_0_0.2.2.1.2 (RdS (Ty.arr .u8 20) ch_0_0.2.2.1.1 ((ST37.un x1).2.2.1)), .sl ch_0_0.2.2.2.1.1 ((ST37.un x1).2.2.2.1).length ch_0_0.2.2.2.1.2 (RdS Y133 ch_0_0.2.2.2.1.1 ((ST37.un x1).2.2.2.1)), .one (.int .i64 ((ST37.un x1).2.2.2.2.1)), .sl ch_0_0.2.2.2.2.2.1.1 ((ST37.un x1).2.2.2.2.2.1).length ch_0_0.2.2.2.2.2.1.2 (RdS Y100 ch_0_0.2.2.2.2.2.1.1 ((ST37.un x1).2.2.2.2.2.1)), .one (.bool ((ST37.un x1).2.2.2.2.2.2.1)), .sl ch_0_0.2.2.2.2.2.2.2.1 ((ST37.un x1).2.2.2.2.2.2.2).length ch_0_0.2.2.2.2.2.2.2.2 (SR37 ch_0_0.2.2.2.2.2.2.2.1 ((ST37.un x1).2.2.2.2.2.2.2))]] (.cons .here (.cons .here (.cons .here (.cons .here .nil)))) ⟨Res.stay_cells, Res.stay_cells, Res.stay_cells, Res.stay_cells, trivial⟩ [(3, (.v (.pointer (some ⟨g1, 0, none⟩))))] ⟨rfl, trivial⟩ (by kernel_rfl) (by kernel_rfl) ?_); clear S; intro w S CL hw le
  refine h_loada S CL hw le ⟨rfl, trivial⟩ rfl (.there (.there (.there .here))) T37 (s' := [.sl ch_0_0.1.1 ((ST37.un x1).1).length ch_0_0.1.2 (RdS Y71 ch_0_0.1.1 ((ST37.un x1).1)), .sl ch_0_0.2.1.1 ((ST37.un x1).2.1).length ch_0_0.2.1.2 (RdS Y122 ch_0_0.2.1.1 ((ST37.un x1).2.1)), .sl ch_0_0.2.2.1.1 ((ST37.un x1).2.2.1).length ch_0_0.2.2.1.2 (RdS (Ty.arr .u8 20) ch_0_0.2.2.1.1 ((ST37.un x1).2.2.1)), .sl ch_0_0.2.2.2.1.1 ((ST37.un x1).2.2.2.1).length ch_0_0.2.2.2.1.2 (RdS Y133 ch_0_0.2.2.2.1.1 ((ST37.un x1).2.2.2.1)), .one (.int .i64 ((ST37.un x1).2.2.2.2.1)), .sl ch_0_0.2.2.2.2.2.1.1 ((ST37.un x1).2.2.2.2.2.1).length ch_0_0.2.2.2.2.2.1.2 (RdS Y100 ch_0_0.2.2.2.2.2.1.1 ((ST37.un x1).2.2.2.2.2.1)), .one (.bool ((ST37.un x1).2.2.2.2.2.2.1)), .sl ch_0_0.2.2.2.2.2.2.2.1 ((ST37.un x1).2.2.2.2.2.2.2).length ch_0_0.2.2.2.2.2.2.2.2 (SR37 ch_0_0.2.2.2.2.2.2.2.1 ((ST37.un x1).2.2.2.2.2.2.2))]) rfl rfl rfl trivial ?_; clear S CL a; intro a S CL
  refine h_assign S CL hw le (subR rfl) rfl rfl rfl trivial ?_; clear S CL a; intro a S CL
  refine h_run' S rfl trivial ?_
  refine s_store S rfl rfl rfl (s' := [.sl ch_0_0.1.1 ((ST37.un x1).1).length ch_0_0.1.2 (RdS Y71 ch_0_0.1.1 ((ST37.un x1).1)), .sl ch_0_0.2.1.1 ((ST37.un x1).2.1).length ch_0_0.2.1.2 (RdS Y122 ch_0_0.2.1.1 ((ST37.un x1).2.1)), .sl ch_0_0.2.2.1.1 ((ST37.un x1).2.2.1).length ch_0_0.2.2.1.2 (RdS (Ty.arr .u8 20) ch_0_0.2.2.1.1 ((ST37.un x1).2.2.1)), .sl ch_0_0.2.2.2.1.1 ((ST37.un x1).2.2.2.1).length ch_0_0.2.2.2.1.2 (RdS Y133 ch_0_0.2.2.2.1.1 ((ST37.un x1).2.2.2.1)), .one (.int .i64 ((ST37.un x1).2.2.2.2.1)), .sl ch_0_0.2.2.2.2.2.1.1 ((ST37.un x1).2.2.2.2.2.1).length ch_0_0.2.2.2.2.2.1.2 (RdS Y100 ch_0_0.2.2.2.2.2.1.1 ((ST37.un x1).2.2.2.2.2.1)), .one (.bool ((ST37.un x1).2.2.2.2.2.2.1)), .sl ch_0_0.2.2.2.2.2.2.2.1 ((ST37.un x1).2.2.2.2.2.2.2).length ch_0_0.2.2.2.2.2.2.2.2 (SR37 ch_0_0.2.2.2.2.2.2.2.1 ((ST37.un x1).2.2.2.2.2.2.2))]) .here T37 rfl rfl ?_; clear S; intro w S
  refine h_back ⟨fun h => (nomatch h), ?_⟩
  refine h_done ?_; clear CL hw le
  refine x_thenN ?_
  refine wp_ret ?_
  refine x_thenR ?_
  obtain rfl := Option.some.inj h2
  exact b_ret2 (d1 := (.v (.bool false))) (d2 := (.agg [.sl ch_0_0.1.1 ((ST37.un x1).1).length ch_0_0.1.2 (RdS Y71 ch_0_0.1.1 ((ST37.un x1).1)), .sl ch_0_0.2.1.1 ((ST37.un x1).2.1).length ch_0_0.2.1.2 (RdS Y122 ch_0_0.2.1.1 ((ST37.un x1).2.1)), .sl ch_0_0.2.2.1.1 ((ST37.un x1).2.2.1).length ch_0_0.2.2.1.2 (RdS (Ty.arr .u8 20) ch_0_0.2.2.1.1 ((ST37.un x1).2.2.1)), .sl ch_0_0.2.2.2.1.1 ((ST37.un x1).2.2.2.1).length ch_0_0.2.2.2.1.2 (RdS Y133 ch_0_0.2.2.2.1.1 ((ST37.un x1).2.2.2.1)), .one (.int .i64 ((ST37.un x1).2.2.2.2.1)), .sl ch_0_0.2.2.2.2.2.1.1 ((ST37.un x1).2.2.2.2.2.1).length ch_0_0.2.2.2.2.2.1.2 (RdS Y100 ch_0_0.2.2.2.2.2.1.1 ((ST37.un x1).2.2.2.2.2.1)), .one (.bool ((ST37.un x1).2.2.2.2.2.2.1)), .sl ch_0_0.2.2.2.2.2.2.2.1 ((ST37.un x1).2.2.2.2.2.2.2).length ch_0_0.2.2.2.2.2.2.2.2 (SR37 ch_0_0.2.2.2.2.2.2.2.1 ((ST37.un x1).2.2.2.2.2.2.2))])) S rfl rfl (resD_cell rfl .here T37 rfl rfl) fun ok1 ok2 => S.retX (Hx := []) hb _ _ (((ch_0_0.1.1, ch_0_0.1.2), (ch_0_0.2.1.1, ch_0_0.2.1.2), (ch_0_0.2.2.1.1, ch_0_0.2.2.1.2), (ch_0_0.2.2.2.1.1, ch_0_0.2.2.2.1.2), (), (ch_0_0.2.2.2.2.2.1.1, ch_0_0.2.2.2.2.2.1.2), (), (ch_0_0.2.2.2.2.2.2.2.1, ch_0_0.2.2.2.2.2.2.2.2)) : W21) .nil ⟨⟨ok1, trivial⟩, ok2, trivial⟩
 ·refine c_condF S rfl c1 ?_
  refine wp_skip ?_
  refine x_thenN ?_
  refine c_region ?_
  refine s_loada S rfl (.there (.there (.there .here))) T37 (s' := [.sl ch_0_0.1.1 ((ST37.un x1).1).length ch_0_0.1.2 (RdS Y71 ch_0_0.1.1 ((ST37.un x1).1)), .sl ch_0_0.2.1.1 ((ST37.un x1).2.1).length ch_0_0.2.1.2 (RdS Y122 ch_0_0.2.1.1 ((ST37.un x1).2.1)), .sl ch_0_0.2.2.1.1 ((ST37.un x1).2.2.1).length ch_0_0.2.2.1.2 (RdS (Ty.arr .u8 20) ch_0_0.2.2.1.1 ((ST37.un x1).2.2.1)), .sl ch_0_0.2.2.2.1.1 ((ST37.un x1).2.2.2.1).length ch_0_0.2.2.2.1.2 (RdS Y133 ch_0_0.2.2.2.1.1 ((ST37.un x1).2.2.2.1)), .one (.int .i64 ((ST37.un x1).2.2.2.2.1)), .sl ch_0_0.2.2.2.2.2.1.1 ((ST37.un x1).2.2.2.2.2.1).length ch_0_0.2.2.2.2.2.1.2 (RdS Y100 ch_0_0.2.2.2.2.2.1.1 ((ST37.un x1).2.2.2.2.2.1)), .one (.bool ((ST37.un x1).2.2.2.2.2.2.1)), .sl ch_0_0.2.2.2.2.2.2.2.1 ((ST37.un x1).2.2.2.2.2.2.2).length ch_0_0.2.2.2.2.2.2.2.2 (SR37 ch_0_0.2.2.2.2.2.2.2.1 ((ST37.un x1).2.2.2.2.2.2.2))]) rfl rfl ?_; clear S a; intro a S
  obtain ⟨t2, et2, h3⟩ := bind_of h2; clear h2
  refine s_callP S (fun (ch : W21) => ((.agg [.sl ch.1.1 ((ST37.un t2).1).length ch.1.2 (RdS Y71 ch.1.1 ((ST37.un t2).1)), .sl ch.2.1.1 ((ST37.un t2).2.1).length ch.2.1.2 (RdS Y122 ch.2.1.1 ((ST37.un t2).2.1)), .sl ch.2.2.1.1 ((ST37.un t2).2.2.1).length ch.2.2.1.2 (RdS (Ty.arr .u8 20) ch.2.2.1.1 ((ST37.un t2).2.2.1)), .sl ch.2.2.2.1.1 ((ST37.un t2).2.2.2.1).length ch.2.2.2.1.2 (RdS Y133 ch.2.2.2.1.1 ((ST37.un t2).2.2.2.1)), .one (.int .i64 ((ST37.un t2).2.2.2.2.1)), .sl ch.2.2.2.2.2.1.1 ((ST37.un t2).2.2.2.2.2.1).length ch.2.2.2.2.2.1.2 (RdS Y100 ch.2.2.2.2.2.1.1 ((ST37.un t2).2.2.2.2.2.1)), .one (.bool ((ST37.un t2).2.2.2.2.2.2.1)), .sl ch.2.2.2.2.2.2.2.1 ((ST37.un t2).2.2.2.2.2.2.2).length ch.2.2.2.2.2.2.2.2 (SR37 ch.2.2.2.2.2.2.2.1 ((ST37.un t2).2.2.2.2.2.2.2))]) : D)) N81 rfl rfl (smithyref14_State_keep.ok x1 ((ch_0_0.1.1, ch_0_0.1.2), (ch_0_0.2.1.1, ch_0_0.2.1.2), (ch_0_0.2.2.1.1, ch_0_0.2.2.1.2), (ch_0_0.2.2.2.1.1, ch_0_0.2.2.2.1.2), (), (ch_0_0.2.2.2.2.2.1.1, ch_0_0.2.2.2.2.2.1.2), (), (ch_0_0.2.2.2.2.2.2.2.1, ch_0_0.2.2.2.2.2.2.2.2)) t2 et2 _ _) ?_; clear S a w; intro ch2 m le1 a w S
  refine s_store S rfl rfl rfl (s' := [.sl ch2.1.1 ((ST37.un t2).1).length ch2.1.2 (RdS Y71 ch2.1.1 ((ST37.un t2).1)), .sl ch2.2.1.1 ((ST37.un t2).2.1).length ch2.2.1.2 (RdS Y122 ch2.2.1.1 ((ST37.un t2).2.1)), .sl ch2.2.2.1.1 ((ST37.un t2).2.2.1).length ch2.2.2.1.2 (RdS (Ty.arr .u8 20) ch2.2.2.1.1 ((ST37.un t2).2.2.1)), .sl ch2.2.2.2.1.1 ((ST37.un t2).2.2.2.1).length ch2.2.2.2.1.2 (RdS Y133 ch2.2.2.2.1.1 ((ST37.un t2).2.2.2.1)), .one (.int .i64 ((ST37.un t2).2.2.2.2.1)), .sl ch2.2.2.2.2.2.1.1 ((ST37.un t2).2.2.2.2.2.1).length ch2.2.2.2.2.2.1.2 (RdS Y100 ch2.2.2.2.2.2.1.1 ((ST37.un t2).2.2.2.2.2.1)), .one (.bool ((ST37.un t2).2.2.2.2.2.2.1)), .sl ch2.2.2.2.2.2.2.2.1 ((ST37.un t2).2.2.2.2.2.2.2).length ch2.2.2.2.2.2.2.2.2 (SR37 ch2.2.2.2.2.2.2.2.1 ((ST37.un t2).2.2.2.2.2.2.2))]) (.there (.there (.there .here))) T37 rfl rfl ?_; clear S w; intro w S
  refine c_end ?_
  refine c_region ?_
  refine s_bldSl S (ty' := Y133) (ds := []) (z := ([0, 0, 0, 0, 0, 0, 0, 0, 0, 0, 0, 0, 0, 0, 0, 0, 0, 0, 0, 0], [0, 0, 0, 0])) (c0 := ((), ())) (ys := ([] : List ((List Int) × (List Int)))) (cs := []) rfl Tryz.underlying33 J133 Z133 rfl ⟨rfl, rfl, trivial⟩ rfl rfl rfl rfl rfl rfl ?_; clear S a w; intro g5 a w S
  refine s_assign S rfl rfl ?_; clear S a; intro a S
  refine c_end ?_
  refine c_region ?_
  refine s_move S rfl rfl ?_; clear S a; intro a S
  refine s_fieldAddr S rfl I37_3 T33 (by decide) rfl rfl ?_; clear S a; intro a S
  refine s_loadSl S rfl (.there (.there (.there (.there .here)))) T33 (A := ch2.2.2.2.1.1) (len := ((ST37.un t2).2.2.2.1).length) (cap := ch2.2.2.2.1.2) rfl rfl ?_; clear S a; intro a S
  obtain ⟨c2, h4⟩ := chk_of h3; clear h3
  refine s_app S (k2 := (((ST37.un t2).2.2.2.1).length)) (ys := ((ST37.un t2).2.2.2.1)) rfl (fun _ _ => .here) rfl rfl rfl (RdS.src (S.get 20 (.sl ch2.2.2.2.1.1 ((ST37.un t2).2.2.2.1).length ch2.2.2.2.1.2 (RdS Y133 ch2.2.2.2.1.1 ((ST37.un t2).2.2.2.1))) rfl).2.2.2.1 (by decide) S.frz) Tryz.underlying33 J133 c2 rfl ?_; clear S a w; intro A1 cp1 a w S
  refine s_assign S rfl rfl ?_; clear S a; intro a S
  refine c_end ?_
  refine c_region ?_
  refine s_move S rfl rfl ?_; clear S a; intro a S
  refine s_loada S rfl (.there (.there (.there .here))) T40 (s' := [.ints .u8 x2 20]) rfl rfl ?_; clear S a; intro a S
  refine s_loada S rfl (.there (.there .here)) T43 (s' := [.ints .u64 x3 4]) rfl rfl ?_; clear S a; intro a S
  refine s_bldS S (ds := [(0, (.agg [.ints .u8 x2 20])), (1, (.agg [.ints .u64 x3 4]))]) (zs := [.ints .u8 [0, 0, 0, 0, 0, 0, 0, 0, 0, 0, 0, 0, 0, 0, 0, 0, 0, 0, 0, 0] 20, .ints .u64 [0, 0, 0, 0] 4]) (s' := [.ints .u8 x2 20, .ints .u64 x3 4]) rfl Tryz.underlying133 P133 Z133 ⟨rfl, rfl, trivial⟩ rfl rfl ?_; clear S a; intro a S
  refine s_bldSl S (ty' := Y133) (ds := [(0, (.agg [.ints .u8 x2 20, .ints .u64 x3 4]))]) (z := ([0, 0, 0, 0, 0, 0, 0, 0, 0, 0, 0, 0, 0, 0, 0, 0, 0, 0, 0, 0], [0, 0, 0, 0])) (c0 := ((), ())) (ys := [(x2, x3)]) (cs := [((), ())]) rfl Tryz.underlying33 J133 Z133 rfl ⟨rfl, rfl, trivial⟩ rfl rfl rfl rfl rfl rfl ?_; clear S a w; intro g6 a w S
  obtain ⟨c3, h5⟩ := chk_of h4; clear h4
  refine s_app S (k2 := 1) (ys := [(x2, x3)]) rfl (fun _ _ => (.there .here)) rfl rfl (S.holds _ (Pull.mem .here).1).1 (Res.row.src (S.holds _ (Pull.mem .here).1)) Tryz.underlying33 J133 c3 rfl ?_; clear S a w; intro A2 cp2 a w S
  refine s_assign S rfl rfl ?_; clear S a; intro a S
  refine c_end ?_
  refine c_region ?_
  refine s_move S rfl rfl ?_; clear S a; intro a S
  refine s_fieldAddr S rfl I37_3 T33 (by decide) rfl rfl ?_; clear S a; intro a S
  refine s_store S rfl rfl rfl (s' := [.sl ch2.1.1 ((ST37.un t2).1).length ch2.1.2 (RdS Y71 ch2.1.1 ((ST37.un t2).1)), .sl ch2.2.1.1 ((ST37.un t2).2.1).length ch2.2.1.2 (RdS Y122 ch2.2.1.1 ((ST37.un t2).2.1)), .sl ch2.2.2.1.1 ((ST37.un t2).2.2.1).length ch2.2.2.1.2 (RdS (Ty.arr .u8 20) ch2.2.2.1.1 ((ST37.un t2).2.2.1)), .one (.slice A2 ((0 + (((ST37.un t2).2.2.2.1).length)) + 1) cp2), .one (.int .i64 ((ST37.un t2).2.2.2.2.1)), .sl ch2.2.2.2.2.2.1.1 ((ST37.un t2).2.2.2.2.2.1).length ch2.2.2.2.2.2.1.2 (RdS Y100 ch2.2.2.2.2.2.1.1 ((ST37.un t2).2.2.2.2.2.1)), .one (.bool ((ST37.un t2).2.2.2.2.2.2.1)), .sl ch2.2.2.2.2.2.2.2.1 ((ST37.un t2).2.2.2.2.2.2.2).length ch2.2.2.2.2.2.2.2.2 (SR37 ch2.2.2.2.2.2.2.2.1 ((ST37.un t2).2.2.2.2.2.2.2))]) (.there (.there (.there (.there (.there .here))))) T33 rfl rfl ?_; clear S w; intro w S
  refine c_end ?_
  refine wp_seq (c_heldS S (.take 0 (.take 1 (.alts (.run 2 false .done .nil)))) 2 [Res.row Y133 133 (some ⟨g6, 0, none⟩) 1 1 [(x2, x3)], Res.row Y133 133 A2 ((0 + (((ST37.un t2).2.2.2.1).length)) + 1) cp2 ((([] : List ((List Int) × (List Int))) ++ ((ST37.un t2).2.2.2.1)) ++ [(x2, x3)]), Res.cells g4 37 [.one (.slice none 0 0), .one (.slice none 0 0), .one (.slice none 0 0), .one (.slice none 0 0), .one (.int .i64 0), .one (.slice none 0 0), .one (.bool false), .one (.slice none 0 0)], Res.cells g3 43 [.ints .u64 x3 4], Res.cells g2 40 [.ints .u8 x2 20], Res.cells g1 37 [.sl ch2.1.1 ((ST37.un t2).1).length ch2.1.2 (RdS Y71 ch2.1.1 ((ST37.un t2).1)), .sl ch2.2.1.1 ((ST37.un t2).2.1).length ch2.2.1.2 (RdS Y122 ch2.2.1.1 ((ST37.un t2).2.1)), .sl ch2.2.2.1.1 ((ST37.un t2).2.2.1).length ch2.2.2.1.2 (RdS (Ty.arr .u8 20) ch2.2.2.1.1 ((ST37.un t2).2.2.1)), .one (.slice A2 ((0 + (((ST37.un t2).2.2.2.1).length)) + 1) cp2), .one (.int .i64 ((ST37.un t2).2.2.2.2.1)), .sl ch2.2.2.2.2.2.1.1 ((ST37.un t2).2.2.2.2.2.1).length ch2.2.2.2.2.2.1.2 (RdS Y100 ch2.2.2.2.2.2.1.1 ((ST37.un t2).2.2.2.2.2.1)), .one (.bool ((ST37.un t2).2.2.2.2.2.2.1)), .sl ch2.2.2.2.2.2.2.2.1 ((ST37.un t2).2.2.2.2.2.2.2).length ch2.2.2.2.2.2.2.2.2 (SR37 ch2.2.2.2.2.2.2.2.1 ((ST37.un t2).2.2.2.2.2.2.2))]] (.cons .here (.cons .here (.cons .here (.cons .here (.cons .here (.cons .here .nil)))))) ⟨Res.stay_row (flat_prod flat_arr flat_arr), Res.stay_row (flat_prod flat_arr flat_arr), Res.stay_cells, Res.stay_cells, Res.stay_cells, Res.stay_cells, trivial⟩ [(3, (.v (.pointer (some ⟨g1, 0, none⟩))))] ⟨rfl, trivial⟩ (by kernel_rfl) (by kernel_rfl) ?_); clear S; intro w S CL hw le
  refine h_loada S CL hw le ⟨rfl, trivial⟩ rfl (.there (.there (.there (.there (.there .here))))) T37 (s' := [.sl ch2.1.1 ((ST37.un t2).1).length ch2.1.2 (RdS Y71 ch2.1.1 ((ST37.un t2).1)), .sl ch2.2.1.1 ((ST37.un t2).2.1).length ch2.2.1.2 (RdS Y122 ch2.2.1.1 ((ST37.un t2).2.1)), .sl ch2.2.2.1.1 ((ST37.un t2).2.2.1).length ch2.2.2.1.2 (RdS (Ty.arr .u8 20) ch2.2.2.1.1 ((ST37.un t2).2.2.1)), .one (.slice A2 ((0 + (((ST37.un t2).2.2.2.1).length)) + 1) cp2), .one (.int .i64 ((ST37.un t2).2.2.2.2.1)), .sl ch2.2.2.2.2.2.1.1 ((ST37.un t2).2.2.2.2.2.1).length ch2.2.2.2.2.2.1.2 (RdS Y100 ch2.2.2.2.2.2.1.1 ((ST37.un t2).2.2.2.2.2.1)), .one (.bool ((ST37.un t2).2.2.2.2.2.2.1)), .sl ch2.2.2.2.2.2.2.2.1 ((ST37.un t2).2.2.2.2.2.2.2).length ch2.2.2.2.2.2.2.2.2 (SR37 ch2.2.2.2.2.2.2.2.1 ((ST37.un t2).2.2.2.2.2.2.2))]) rfl rfl rfl trivial ?_; clear S CL a; intro a S CL
  refine h_assign S CL hw le (subR rfl) rfl rfl rfl trivial ?_; clear S CL a; intro a S CL
  refine h_run' S rfl trivial ?_
  refine s_store S rfl rfl rfl (s' := [.sl ch2.1.1 ((ST37.un t2).1).length ch2.1.2 (RdS Y71 ch2.1.1 ((ST37.un t2).1)), .sl ch2.2.1.1 ((ST37.un t2).2.1).length ch2.2.1.2 (RdS Y122 ch2.2.1.1 ((ST37.un t2).2.1)), .sl ch2.2.2.1.1 ((ST37.un t2).2.2.1).length ch2.2.2.1.2 (RdS (Ty.arr .u8 20) ch2.2.2.1.1 ((ST37.un t2).2.2.1)), .one (.slice A2 ((0 + (((ST37.un t2).2.2.2.1).length)) + 1) cp2), .one (.int .i64 ((ST37.un t2).2.2.2.2.1)), .sl ch2.2.2.2.2.2.1.1 ((ST37.un t2).2.2.2.2.2.1).length ch2.2.2.2.2.2.1.2 (RdS Y100 ch2.2.2.2.2.2.1.1 ((ST37.un t2).2.2.2.2.2.1)), .one (.bool ((ST37.un t2).2.2.2.2.2.2.1)), .sl ch2.2.2.2.2.2.2.2.1 ((ST37.un t2).2.2.2.2.2.2.2).length ch2.2.2.2.2.2.2.2.2 (SR37 ch2.2.2.2.2.2.2.2.1 ((ST37.un t2).2.2.2.2.2.2.2))]) (.there (.there .here)) T37 rfl rfl ?_; clear S; intro w S
  refine h_back ⟨fun h => (nomatch h), ?_⟩
  refine h_done ?_; clear CL hw le
  refine x_thenN ?_
  refine wp_ret ?_
  replace S := S.rowfro (.there .here)
  obtain ⟨m, le1, S, hro⟩ := S
  replace S := S.slot (u := 30) (d' := (.agg [.sl ch2.1.1 ((ST37.un t2).1).length ch2.1.2 (RdS Y71 ch2.1.1 ((ST37.un t2).1)), .sl ch2.2.1.1 ((ST37.un t2).2.1).length ch2.2.1.2 (RdS Y122 ch2.2.1.1 ((ST37.un t2).2.1)), .sl ch2.2.2.1.1 ((ST37.un t2).2.2.1).length ch2.2.2.1.2 (RdS (Ty.arr .u8 20) ch2.2.2.1.1 ((ST37.un t2).2.2.1)), .sl A2 ((([] : List ((List Int) × (List Int))) ++ ((ST37.un t2).2.2.2.1)) ++ [(x2, x3)]).length cp2 (RdS Y133 A2 ((([] : List ((List Int) × (List Int))) ++ ((ST37.un t2).2.2.2.1)) ++ [(x2, x3)])), .one (.int .i64 ((ST37.un t2).2.2.2.2.1)), .sl ch2.2.2.2.2.2.1.1 ((ST37.un t2).2.2.2.2.2.1).length ch2.2.2.2.2.2.1.2 (RdS Y100 ch2.2.2.2.2.2.1.1 ((ST37.un t2).2.2.2.2.2.1)), .one (.bool ((ST37.un t2).2.2.2.2.2.2.1)), .sl ch2.2.2.2.2.2.2.2.1 ((ST37.un t2).2.2.2.2.2.2.2).length ch2.2.2.2.2.2.2.2.2 (SR37 ch2.2.2.2.2.2.2.2.1 ((ST37.un t2).2.2.2.2.2.2.2))])) rfl (by simp [D.val, pd, cellsOf, Seg.cells, hro.2.1]) (by have h := (S.get 30 (.agg [.sl ch2.1.1 ((ST37.un t2).1).length ch2.1.2 (RdS Y71 ch2.1.1 ((ST37.un t2).1)), .sl ch2.2.1.1 ((ST37.un t2).2.1).length ch2.2.1.2 (RdS Y122 ch2.2.1.1 ((ST37.un t2).2.1)), .sl ch2.2.2.1.1 ((ST37.un t2).2.2.1).length ch2.2.2.1.2 (RdS (Ty.arr .u8 20) ch2.2.2.1.1 ((ST37.un t2).2.2.1)), .one (.slice A2 ((0 + (((ST37.un t2).2.2.2.1).length)) + 1) cp2), .one (.int .i64 ((ST37.un t2).2.2.2.2.1)), .sl ch2.2.2.2.2.2.1.1 ((ST37.un t2).2.2.2.2.2.1).length ch2.2.2.2.2.2.1.2 (RdS Y100 ch2.2.2.2.2.2.1.1 ((ST37.un t2).2.2.2.2.2.1)), .one (.bool ((ST37.un t2).2.2.2.2.2.2.1)), .sl ch2.2.2.2.2.2.2.2.1 ((ST37.un t2).2.2.2.2.2.2.2).length ch2.2.2.2.2.2.2.2.2 (SR37 ch2.2.2.2.2.2.2.2.1 ((ST37.un t2).2.2.2.2.2.2.2))]) rfl).2; exact ⟨h.1, h.2.1, h.2.2.1, ⟨by have := hro.2.2.1; omega, hro.2.2.2, hro.1, RdS.mono _ _ _⟩, h.2.2.2.2.1, h.2.2.2.2.2.1, h.2.2.2.2.2.2.1, h.2.2.2.2.2.2.2.1, trivial⟩)
  replace S := S.slotro (u := 28) rfl hro
  replace S := S.slotro (u := 8) rfl hro
  replace S := S.slotro (u := 27) rfl hro
  replace S := S.cellro (s' := [.sl ch2.1.1 ((ST37.un t2).1).length ch2.1.2 (RdS Y71 ch2.1.1 ((ST37.un t2).1)), .sl ch2.2.1.1 ((ST37.un t2).2.1).length ch2.2.1.2 (RdS Y122 ch2.2.1.1 ((ST37.un t2).2.1)), .sl ch2.2.2.1.1 ((ST37.un t2).2.2.1).length ch2.2.2.1.2 (RdS (Ty.arr .u8 20) ch2.2.2.1.1 ((ST37.un t2).2.2.1)), .sl A2 ((([] : List ((List Int) × (List Int))) ++ ((ST37.un t2).2.2.2.1)) ++ [(x2, x3)]).length cp2 (RdS Y133 A2 ((([] : List ((List Int) × (List Int))) ++ ((ST37.un t2).2.2.2.1)) ++ [(x2, x3)])), .one (.int .i64 ((ST37.un t2).2.2.2.2.1)), .sl ch2.2.2.2.2.2.1.1 ((ST37.un t2).2.2.2.2.2.1).length ch2.2.2.2.2.2.1.2 (RdS Y100 ch2.2.2.2.2.2.1.1 ((ST37.un t2).2.2.2.2.2.1)), .one (.bool ((ST37.un t2).2.2.2.2.2.2.1)), .sl ch2.2.2.2.2.2.2.2.1 ((ST37.un t2).2.2.2.2.2.2.2).length ch2.2.2.2.2.2.2.2.2 (SR37 ch2.2.2.2.2.2.2.2.1 ((ST37.un t2).2.2.2.2.2.2.2))]) (.there .here) (by simp [cellsOf, Seg.cells, hro.2.1]) (fun h => ⟨h.1, h.2.1, h.2.2.1, ⟨by have := hro.2.2.1; omega, hro.2.2.2, hro.1, RdS.mono _ _ _⟩, h.2.2.2.2.1, h.2.2.2.2.2.1, h.2.2.2.2.2.2.1, h.2.2.2.2.2.2.2.1, trivial⟩)
  replace S := S.cellro (s' := [.sl ch2.1.1 ((ST37.un t2).1).length ch2.1.2 (RdS Y71 ch2.1.1 ((ST37.un t2).1)), .sl ch2.2.1.1 ((ST37.un t2).2.1).length ch2.2.1.2 (RdS Y122 ch2.2.1.1 ((ST37.un t2).2.1)), .sl ch2.2.2.1.1 ((ST37.un t2).2.2.1).length ch2.2.2.1.2 (RdS (Ty.arr .u8 20) ch2.2.2.1.1 ((ST37.un t2).2.2.1)), .sl A2 ((([] : List ((List Int) × (List Int))) ++ ((ST37.un t2).2.2.2.1)) ++ [(x2, x3)]).length cp2 (RdS Y133 A2 ((([] : List ((List Int) × (List Int))) ++ ((ST37.un t2).2.2.2.1)) ++ [(x2, x3)])), .one (.int .i64 ((ST37.un t2).2.2.2.2.1)), .sl ch2.2.2.2.2.2.1.1 ((ST37.un t2).2.2.2.2.2.1).length ch2.2.2.2.2.2.1.2 (RdS Y100 ch2.2.2.2.2.2.1.1 ((ST37.un t2).2.2.2.2.2.1)), .one (.bool ((ST37.un t2).2.2.2.2.2.2.1)), .sl ch2.2.2.2.2.2.2.2.1 ((ST37.un t2).2.2.2.2.2.2.2).length ch2.2.2.2.2.2.2.2.2 (SR37 ch2.2.2.2.2.2.2.2.1 ((ST37.un t2).2.2.2.2.2.2.2))]) (.there (.there (.there (.there .here)))) (by simp [cellsOf, Seg.cells, hro.2.1]) (fun h => ⟨h.1, h.2.1, h.2.2.1, ⟨by have := hro.2.2.1; omega, hro.2.2.2, hro.1, RdS.mono _ _ _⟩, h.2.2.2.2.1, h.2.2.2.2.2.1, h.2.2.2.2.2.2.1, h.2.2.2.2.2.2.2.1, trivial⟩)
  obtain rfl := Option.some.inj h5
  exact b_ret2 (d1 := (.v (.bool true))) (d2 := (.agg [.sl ch2.1.1 ((ST37.un t2).1).length ch2.1.2 (RdS Y71 ch2.1.1 ((ST37.un t2).1)), .sl ch2.2.1.1 ((ST37.un t2).2.1).length ch2.2.1.2 (RdS Y122 ch2.2.1.1 ((ST37.un t2).2.1)), .sl ch2.2.2.1.1 ((ST37.un t2).2.2.1).length ch2.2.2.1.2 (RdS (Ty.arr .u8 20) ch2.2.2.1.1 ((ST37.un t2).2.2.1)), .sl A2 ((([] : List ((List Int) × (List Int))) ++ ((ST37.un t2).2.2.2.1)) ++ [(x2, x3)]).length cp2 (RdS Y133 A2 ((([] : List ((List Int) × (List Int))) ++ ((ST37.un t2).2.2.2.1)) ++ [(x2, x3)])), .one (.int .i64 ((ST37.un t2).2.2.2.2.1)), .sl ch2.2.2.2.2.2.1.1 ((ST37.un t2).2.2.2.2.2.1).length ch2.2.2.2.2.2.1.2 (RdS Y100 ch2.2.2.2.2.2.1.1 ((ST37.un t2).2.2.2.2.2.1)), .one (.bool ((ST37.un t2).2.2.2.2.2.2.1)), .sl ch2.2.2.2.2.2.2.2.1 ((ST37.un t2).2.2.2.2.2.2.2).length ch2.2.2.2.2.2.2.2.2 (SR37 ch2.2.2.2.2.2.2.2.1 ((ST37.un t2).2.2.2.2.2.2.2))])) S rfl rfl (resD_cell rfl (.there .here) T37 rfl rfl) fun ok1 ok2 => S.retX (Hx := []) hb _ _ (((ch2.1.1, ch2.1.2), (ch2.2.1.1, ch2.2.1.2), (ch2.2.2.1.1, ch2.2.2.1.2), (A2, cp2), (), (ch2.2.2.2.2.2.1.1, ch2.2.2.2.2.2.1.2), (), (ch2.2.2.2.2.2.2.2.1, ch2.2.2.2.2.2.2.2.2)) : W21) .nil ⟨⟨ok1, trivial⟩, ok2, trivial⟩
abbrev state_State_TouchSlot_0nil.Ty : Type := (List Int) → (List Int) → Option Bool
def state_State_TouchSlot_0nil.Ctr (s : state_State_TouchSlot_0nil.Ty) : Prop := ∀ (x1 : List Int) (x2 : List Int) (r : Bool) (h0 : s x1 x2 = some r) (mi : Mem) (w0 : World), okL mi [(.v (.pointer none)), (.agg [.ints .u8 x1 20]), (.agg [.ints .u64 x2 4])] → Pre mi [] w0 → Calls Tryz.prog 29 (([(.v (.pointer none)), (.agg [.ints .u8 x1 20]), (.agg [.ints .u64 x2 4])] : List D).map D.val).toArray w0 (RetX mi [] (fun (ch : Unit) => ((.v (.bool r)) : D)) (fun (ch : Unit) => []) w0)
def state_State_TouchSlot_0nil.f (x1 : List Int) (x2 : List Int) : Option Bool := some false
theorem state_State_TouchSlot_0nil.ok : state_State_TouchSlot_0nil.Ctr (state_State_TouchSlot_0nil.f) := by
 intro x1 x2 r h0 mi w0 ok hm
 delta state_State_TouchSlot_0nil.f at h0
 refine c_enterX (n := 27) [(.v (.pointer none)), (.agg [.ints .u8 x1 20]), (.agg [.ints .u64 x2 4])] (l := [(0, (.v (.pointer none))), (1, (.agg [.ints .u8 x1 20])), (2, (.agg [.ints .u64 x2 4]))]) Tryz.func29 rfl rfl rfl rfl ok hm ?_
 clear ok hm
 intro b0 hb a S
 refine c_region ?_
 refine s_box S rfl rfl rfl ?_; clear S a; intro g1 a w S
 refine s_box S rfl rfl rfl ?_; clear S a w; intro g2 a w S
 refine s_assign S rfl rfl ?_; clear S a; intro a S
 refine c_end ?_
 refine wp_seq ?_
 refine c_region ?_
 refine s_move S rfl rfl ?_; clear S a; intro a S
 refine s_eqp S (b := true) rfl rfl Tryz.underlying26 rfl rfl ?_; clear S a; intro a S
 refine c_end ?_
 refine c_condT S rfl rfl ?_
 refine c_region ?_
 refine s_assign S rfl rfl ?_; clear S a; intro a S
 refine c_end ?_
 refine wp_ret ?_
 refine x_thenR ?_
 obtain rfl := Option.some.inj h0
 exact b_ret1 (d := (.v (.bool false))) S rfl rfl fun ok => S.retX (Hx := []) hb _ _ (() : Unit) .nil ok
abbrev state_State_Add_0nil.Ty : Type := Int → Option Unit
def state_State_Add_0nil.Ctr (s : state_State_Add_0nil.Ty) : Prop := ∀ (x1 : Int) (r : Unit) (h0 : s x1 = some r) (mi : Mem) (w0 : World), okL mi [(.v (.pointer none)), (.v (.int .i64 x1))] → Pre mi [] w0 → Calls Tryz.prog 46 (([(.v (.pointer none)), (.v (.int .i64 x1))] : List D).map D.val).toArray w0 (RetX mi [] (fun (ch : Unit) => ((.tup []) : D)) (fun (ch : Unit) => []) w0)
def state_State_Add_0nil.f (x1 : Int) : Option Unit := some ()
theorem state_State_Add_0nil.ok : state_State_Add_0nil.Ctr (state_State_Add_0nil.f) := by
 intro x1 r h0 mi w0 ok hm
 delta state_State_Add_0nil.f at h0
 refine c_enterX (n := 22) [(.v (.pointer none)), (.v (.int .i64 x1))] (l := [(0, (.v (.pointer none))), (1, (.v (.int .i64 x1)))]) Tryz.func46 rfl rfl rfl rfl ok hm ?_
 clear ok hm
 intro b0 hb a S
 refine c_region ?_
 refine s_box S rfl rfl rfl ?_; clear S a; intro g1 a w S
 refine c_end ?_
 refine wp_seq ?_
 refine c_region ?_
 refine s_load1 S rfl .here T26 (v := (.pointer none)) rfl rfl ?_; clear S a; intro a S
 refine s_eqp S (b := true) rfl rfl Tryz.underlying26 rfl rfl ?_; clear S a; intro a S
 refine c_end ?_
 refine c_condT S rfl rfl ?_
 refine wp_ret ?_
 refine x_thenR ?_
 obtain rfl := Option.some.inj h0
 exact b_ret0 S rfl (S.retX (Hx := []) hb _ _ (() : Unit) .nil trivial)
abbrev smithyref14_State_Add.Ty : Type := ST37 → Int → Option ST37
def smithyref14_State_Add.Ctr (s : smithyref14_State_Add.Ty) : Prop := ∀ (x1 : ST37) (x2 : Int) (ch_0_0 : (Option Addr × Nat) × (Option Addr × Nat) × (Option Addr × Nat) × (Option Addr × Nat) × Unit × (Option Addr × Nat) × Unit × (Option Addr × Nat)) (r : ST37) (h0 : s x1 x2 = some r) (mi : Mem) (w0 : World), okL mi [(.agg [.sl ch_0_0.1.1 ((ST37.un x1).1).length ch_0_0.1.2 (RdS Y71 ch_0_0.1.1 ((ST37.un x1).1)), .sl ch_0_0.2.1.1 ((ST37.un x1).2.1).length ch_0_0.2.1.2 (RdS Y122 ch_0_0.2.1.1 ((ST37.un x1).2.1)), .sl ch_0_0.2.2.1.1 ((ST37.un x1).2.2.1).length ch_0_0.2.2.1.2 (RdS (Ty.arr .u8 20) ch_0_0.2.2.1.1 ((ST37.un x1).2.2.1)), .sl ch_0_0.2.2.2.1.1 ((ST37.un x1).2.2.2.1).length ch_0_0.2.2.2.1.2 (RdS Y133 ch_0_0.2.2.2.1.1 ((ST37.un x1).2.2.2.1)), .one (.int .i64 ((ST37.un x1).2.2.2.2.1)), .sl ch_0_0.2.2.2.2.2.1.1 ((ST37.un x1).2.2.2.2.2.1).length ch_0_0.2.2.2.2.2.1.2 (RdS Y100 ch_0_0.2.2.2.2.2.1.1 ((ST37.un x1).2.2.2.2.2.1)), .one (.bool ((ST37.un x1).2.2.2.2.2.2.1)), .sl ch_0_0.2.2.2.2.2.2.2.1 ((ST37.un x1).2.2.2.2.2.2.2).length ch_0_0.2.2.2.2.2.2.2.2 (SR37 ch_0_0.2.2.2.2.2.2.2.1 ((ST37.un x1).2.2.2.2.2.2.2))]), (.v (.int .i64 x2))] → Pre mi [] w0 → Calls Tryz.prog 47 (([(.agg [.sl ch_0_0.1.1 ((ST37.un x1).1).length ch_0_0.1.2 (RdS Y71 ch_0_0.1.1 ((ST37.un x1).1)), .sl ch_0_0.2.1.1 ((ST37.un x1).2.1).length ch_0_0.2.1.2 (RdS Y122 ch_0_0.2.1.1 ((ST37.un x1).2.1)), .sl ch_0_0.2.2.1.1 ((ST37.un x1).2.2.1).length ch_0_0.2.2.1.2 (RdS (Ty.arr .u8 20) ch_0_0.2.2.1.1 ((ST37.un x1).2.2.1)), .sl ch_0_0.2.2.2.1.1 ((ST37.un x1).2.2.2.1).length ch_0_0.2.2.2.1.2 (RdS Y133 ch_0_0.2.2.2.1.1 ((ST37.un x1).2.2.2.1)), .one (.int .i64 ((ST37.un x1).2.2.2.2.1)), .sl ch_0_0.2.2.2.2.2.1.1 ((ST37.un x1).2.2.2.2.2.1).length ch_0_0.2.2.2.2.2.1.2 (RdS Y100 ch_0_0.2.2.2.2.2.1.1 ((ST37.un x1).2.2.2.2.2.1)), .one (.bool ((ST37.un x1).2.2.2.2.2.2.1)), .sl ch_0_0.2.2.2.2.2.2.2.1 ((ST37.un x1).2.2.2.2.2.2.2).length ch_0_0.2.2.2.2.2.2.2.2 (SR37 ch_0_0.2.2.2.2.2.2.2.1 ((ST37.un x1).2.2.2.2.2.2.2))]), (.v (.int .i64 x2))] : List D).map D.val).toArray w0 (RetX mi [] (fun (ch : W21) => ((.agg [.sl ch.1.1 ((ST37.un r).1).length ch.1.2 (RdS Y71 ch.1.1 ((ST37.un r).1)), .sl ch.2.1.1 ((ST37.un r).2.1).length ch.2.1.2 (RdS Y122 ch.2.1.1 ((ST37.un r).2.1)), .sl ch.2.2.1.1 ((ST37.un r).2.2.1).length ch.2.2.1.2 (RdS (Ty.arr .u8 20) ch.2.2.1.1 ((ST37.un r).2.2.1)), .sl ch.2.2.2.1.1 ((ST37.un r).2.2.2.1).length ch.2.2.2.1.2 (RdS Y133 ch.2.2.2.1.1 ((ST37.un r).2.2.2.1)), .one (.int .i64 ((ST37.un r).2.2.2.2.1)), .sl ch.2.2.2.2.2.1.1 ((ST37.un r).2.2.2.2.2.1).length ch.2.2.2.2.2.1.2 (RdS Y100 ch.2.2.2.2.2.1.1 ((ST37.un r).2.2.2.2.2.1)), .one (.bool ((ST37.un r).2.2.2.2.2.2.1)), .sl ch.2.2.2.2.2.2.2.1 ((ST37.un r).2.2.2.2.2.2.2).length ch.2.2.2.2.2.2.2.2 (SR37 ch.2.2.2.2.2.2.2.1 ((ST37.un r).2.2.2.2.2.2.2))]) : D)) (fun (ch : W21) => []) w0)
def smithyref14_State_Add.f (x1 : ST37) (x2 : Int) : Option ST37 := (smithyref14_State_keep.f x1).bind fun t1 => (some (ST37.mk ((ST37.un t1).1, (ST37.un t1).2.1, (ST37.un t1).2.2.1, (ST37.un t1).2.2.2.1, wr .i64 (((ST37.un t1).2.2.2.2.1) + x2), (ST37.un t1).2.2.2.2.2.1, (ST37.un t1).2.2.2.2.2.2.1, (ST37.un t1).2.2.2.2.2.2.2)))
theorem smithyref14_State_Add.ok : smithyref14_State_Add.Ctr (smithyref14_State_Add.f) := by
 intro x1 x2 ch_0_0 r h0 mi w0 ok hm
 delta smithyref14_State_Add.f at h0
 refine c_enterX (n := 13) [(.agg [.sl ch_0_0.1.1 ((ST37.un x1).1).length ch_0_0.1.2 (RdS Y71 ch_0_0.1.1 ((ST37.un x1).1)), .sl ch_0_0.2.1.1 ((ST37.un x1).2.1).length ch_0_0.2.1.2 (RdS Y122 ch_0_0.2.1.1 ((ST37.un x1).2.1)), .sl ch_0_0.2.2.1.1 ((ST37.un x1).2.2.1).length ch_0_0.2.2.1.2 (RdS (Ty.arr .u8 20) ch_0_0.2.2.1.1 ((ST37.un x1).2.2.1)), .sl ch_0_0.2.2.2.1.1 ((ST37.un x1).2.2.2.1).length ch_0_0.2.2.2.1.2 (RdS Y133 ch_0_0.2.2.2.1.1 ((ST37.un x1).2.2.2.1)), .one (.int .i64 ((ST37.un x1).2.2.2.2.1)), .sl ch_0_0.2.2.2.2.2.1.1 ((ST37.un x1).2.2.2.2.2.1).length ch_0_0.2.2.2.2.2.1.2 (RdS Y100 ch_0_0.2.2.2.2.2.1.1 ((ST37.un x1).2.2.2.2.2.1)), .one (.bool ((ST37.un x1).2.2.2.2.2.2.1)), .sl ch_0_0.2.2.2.2.2.2.2.1 ((ST37.un x1).2.2.2.2.2.2.2).length ch_0_0.2.2.2.2.2.2.2.2 (SR37 ch_0_0.2.2.2.2.2.2.2.1 ((ST37.un x1).2.2.2.2.2.2.2))]), (.v (.int .i64 x2))] (l := [(0, (.agg [.sl ch_0_0.1.1 ((ST37.un x1).1).length ch_0_0.1.2 (RdS Y71 ch_0_0.1.1 ((ST37.un x1).1)), .sl ch_0_0.2.1.1 ((ST37.un x1).2.1).length ch_0_0.2.1.2 (RdS Y122 ch_0_0.2.1.1 ((ST37.un x1).2.1)), .sl ch_0_0.2.2.1.1 ((ST37.un x1).2.2.1).length ch_0_0.2.2.1.2 (RdS (Ty.arr .u8 20) ch_0_0.2.2.1.1 ((ST37.un x1).2.2.1)), .sl ch_0_0.2.2.2.1.1 ((ST37.un x1).2.2.2.1).length ch_0_0.2.2.2.1.2 (RdS Y133 ch_0_0.2.2.2.1.1 ((ST37.un x1).2.2.2.1)), .one (.int .i64 ((ST37.un x1).2.2.2.2.1)), .sl ch_0_0.2.2.2.2.2.1.1 ((ST37.un x1).2.2.2.2.2.1).length ch_0_0.2.2.2.2.2.1.2 (RdS Y100 ch_0_0.2.2.2.2.2.1.1 ((ST37.un x1).2.2.2.2.2.1)), .one (.bool ((ST37.un x1).2.2.2.2.2.2.1)), .sl ch_0_0.2.2.2.2.2.2.2.1 ((ST37.un x1).2.2.2.2.2.2.2).length ch_0_0.2.2.2.2.2.2.2.2 (SR37 ch_0_0.2.2.2.2.2.2.2.1 ((ST37.un x1).2.2.2.2.2.2.2))])), (1, (.v (.int .i64 x2)))]) Tryz.func47 rfl rfl rfl rfl ok hm ?_
 clear ok hm
 intro b0 hb a S
 refine c_region ?_
 refine s_box S rfl rfl rfl ?_; clear S a; intro g1 a w S
 refine s_alloc S Z37 rfl ⟨rfl, rfl, rfl, rfl, rfl, rfl, rfl, rfl, trivial⟩ rfl ?_; clear S a w; intro g2 a w S
 refine c_end ?_
 refine c_region ?_
 refine s_loada S rfl (.there .here) T37 (s' := [.sl ch_0_0.1.1 ((ST37.un x1).1).length ch_0_0.1.2 (RdS Y71 ch_0_0.1.1 ((ST37.un x1).1)), .sl ch_0_0.2.1.1 ((ST37.un x1).2.1).length ch_0_0.2.1.2 (RdS Y122 ch_0_0.2.1.1 ((ST37.un x1).2.1)), .sl ch_0_0.2.2.1.1 ((ST37.un x1).2.2.1).length ch_0_0.2.2.1.2 (RdS (Ty.arr .u8 20) ch_0_0.2.2.1.1 ((ST37.un x1).2.2.1)), .sl ch_0_0.2.2.2.1.1 ((ST37.un x1).2.2.2.1).length ch_0_0.2.2.2.1.2 (RdS Y133 ch_0_0.2.2.2.1.1 ((ST37.un x1).2.2.2.1)), .one (.int .i64 ((ST37.un x1).2.2.2.2.1)), .sl ch_0_0.2.2.2.2.2.1.1 ((ST37.un x1).2.2.2.2.2.1).length ch_0_0.2.2.2.2.2.1.2 (RdS Y100 ch_0_0.2.2.2.2.2.1.1 ((ST37.un x1).2.2.2.2.2.1)), .one (.bool ((ST37.un x1).2.2.2.2.2.2.1)), .sl ch_0_0.2.2.2.2.2.2.2.1 ((ST37.un x1).2.2.2.2.2.2.2).length ch_0_0.2.2.2.2.2.2.2.2 (SR37 ch_0_0.2.2.2.2.2.2.2.1 ((ST37.un x1).2.2.2.2.2.2.2))]) rfl rfl ?_; clear S a; intro a S
 obtain ⟨t1, et1, h1⟩ := bind_of h0; clear h0
 refine s_callP S (fun (ch : W21) => ((.agg [.sl ch.1.1 ((ST37.un t1).1).length ch.1.2 (RdS Y71 ch.1.1 ((ST37.un t1).1)), .sl ch.2.1.1 ((ST37.un t1).2.1).length ch.2.1.2 (RdS Y122 ch.2.1.1 ((ST37.un t1).2.1)), .sl ch.2.2.1.1 ((ST37.un t1).2.2.1).length ch.2.2.1.2 (RdS (Ty.arr .u8 20) ch.2.2.1.1 ((ST37.un t1).2.2.1)), .sl ch.2.2.2.1.1 ((ST37.un t1).2.2.2.1).length ch.2.2.2.1.2 (RdS Y133 ch.2.2.2.1.1 ((ST37.un t1).2.2.2.1)), .one (.int .i64 ((ST37.un t1).2.2.2.2.1)), .sl ch.2.2.2.2.2.1.1 ((ST37.un t1).2.2.2.2.2.1).length ch.2.2.2.2.2.1.2 (RdS Y100 ch.2.2.2.2.2.1.1 ((ST37.un t1).2.2.2.2.2.1)), .one (.bool ((ST37.un t1).2.2.2.2.2.2.1)), .sl ch.2.2.2.2.2.2.2.1 ((ST37.un t1).2.2.2.2.2.2.2).length ch.2.2.2.2.2.2.2.2 (SR37 ch.2.2.2.2.2.2.2.1 ((ST37.un t1).2.2.2.2.2.2.2))]) : D)) N81 rfl rfl (smithyref14_State_keep.ok x1 ((ch_0_0.1.1, ch_0_0.1.2), (ch_0_0.2.1.1, ch_0_0.2.1.2), (ch_0_0.2.2.1.1, ch_0_0.2.2.1.2), (ch_0_0.2.2.2.1.1, ch_0_0.2.2.2.1.2), (), (ch_0_0.2.2.2.2.2.1.1, ch_0_0.2.2.2.2.2.1.2), (), (ch_0_0.2.2.2.2.2.2.2.1, ch_0_0.2.2.2.2.2.2.2.2)) t1 et1 _ _) ?_; clear S a w; intro ch1 m le1 a w S
 refine s_store S rfl rfl rfl (s' := [.sl ch1.1.1 ((ST37.un t1).1).length ch1.1.2 (RdS Y71 ch1.1.1 ((ST37.un t1).1)), .sl ch1.2.1.1 ((ST37.un t1).2.1).length ch1.2.1.2 (RdS Y122 ch1.2.1.1 ((ST37.un t1).2.1)), .sl ch1.2.2.1.1 ((ST37.un t1).2.2.1).length ch1.2.2.1.2 (RdS (Ty.arr .u8 20) ch1.2.2.1.1 ((ST37.un t1).2.2.1)), .sl ch1.2.2.2.1.1 ((ST37.un t1).2.2.2.1).length ch1.2.2.2.1.2 (RdS Y133 ch1.2.2.2.1.1 ((ST37.un t1).2.2.2.1)), .one (.int .i64 ((ST37.un t1).2.2.2.2.1)), .sl ch1.2.2.2.2.2.1.1 ((ST37.un t1).2.2.2.2.2.1).length ch1.2.2.2.2.2.1.2 (RdS Y100 ch1.2.2.2.2.2.1.1 ((ST37.un t1).2.2.2.2.2.1)), .one (.bool ((ST37.un t1).2.2.2.2.2.2.1)), .sl ch1.2.2.2.2.2.2.2.1 ((ST37.un t1).2.2.2.2.2.2.2).length ch1.2.2.2.2.2.2.2.2 (SR37 ch1.2.2.2.2.2.2.2.1 ((ST37.un t1).2.2.2.2.2.2.2))]) (.there .here) T37 rfl rfl ?_; clear S w; intro w S
 refine c_end ?_
 refine c_region ?_
 refine s_fieldAddr S rfl I37_4 T2 (by decide) rfl rfl ?_; clear S a; intro a S
 refine s_load1 S rfl (.there .here) T2 (v := (.int .i64 ((ST37.un t1).2.2.2.2.1))) rfl rfl ?_; clear S a; intro a S
 refine s_move S rfl rfl ?_; clear S a; intro a S
 refine s_bin S rfl rfl rfl rfl ?_; clear S a; intro a S
 refine s_fieldAddr S rfl I37_4 T2 (by decide) rfl rfl ?_; clear S a; intro a S
 refine s_store S rfl rfl rfl (s' := [.sl ch1.1.1 ((ST37.un t1).1).length ch1.1.2 (RdS Y71 ch1.1.1 ((ST37.un t1).1)), .sl ch1.2.1.1 ((ST37.un t1).2.1).length ch1.2.1.2 (RdS Y122 ch1.2.1.1 ((ST37.un t1).2.1)), .sl ch1.2.2.1.1 ((ST37.un t1).2.2.1).length ch1.2.2.1.2 (RdS (Ty.arr .u8 20) ch1.2.2.1.1 ((ST37.un t1).2.2.1)), .sl ch1.2.2.2.1.1 ((ST37.un t1).2.2.2.1).length ch1.2.2.2.1.2 (RdS Y133 ch1.2.2.2.1.1 ((ST37.un t1).2.2.2.1)), .one (.int .i64 (wr .i64 (((ST37.un t1).2.2.2.2.1) + x2))), .sl ch1.2.2.2.2.2.1.1 ((ST37.un t1).2.2.2.2.2.1).length ch1.2.2.2.2.2.1.2 (RdS Y100 ch1.2.2.2.2.2.1.1 ((ST37.un t1).2.2.2.2.2.1)), .one (.bool ((ST37.un t1).2.2.2.2.2.2.1)), .sl ch1.2.2.2.2.2.2.2.1 ((ST37.un t1).2.2.2.2.2.2.2).length ch1.2.2.2.2.2.2.2.2 (SR37 ch1.2.2.2.2.2.2.2.1 ((ST37.un t1).2.2.2.2.2.2.2))]) (.there .here) T2 rfl rfl ?_; clear S w; intro w S
 refine c_end ?_
 refine c_region ?_
 refine s_loada S rfl (.there .here) T37 (s' := [.sl ch1.1.1 ((ST37.un t1).1).length ch1.1.2 (RdS Y71 ch1.1.1 ((ST37.un t1).1)), .sl ch1.2.1.1 ((ST37.un t1).2.1).length ch1.2.1.2 (RdS Y122 ch1.2.1.1 ((ST37.un t1).2.1)), .sl ch1.2.2.1.1 ((ST37.un t1).2.2.1).length ch1.2.2.1.2 (RdS (Ty.arr .u8 20) ch1.2.2.1.1 ((ST37.un t1).2.2.1)), .sl ch1.2.2.2.1.1 ((ST37.un t1).2.2.2.1).length ch1.2.2.2.1.2 (RdS Y133 ch1.2.2.2.1.1 ((ST37.un t1).2.2.2.1)), .one (.int .i64 (wr .i64 (((ST37.un t1).2.2.2.2.1) + x2))), .sl ch1.2.2.2.2.2.1.1 ((ST37.un t1).2.2.2.2.2.1).length ch1.2.2.2.2.2.1.2 (RdS Y100 ch1.2.2.2.2.2.1.1 ((ST37.un t1).2.2.2.2.2.1)), .one (.bool ((ST37.un t1).2.2.2.2.2.2.1)), .sl ch1.2.2.2.2.2.2.2.1 ((ST37.un t1).2.2.2.2.2.2.2).length ch1.2.2.2.2.2.2.2.2 (SR37 ch1.2.2.2.2.2.2.2.1 ((ST37.un t1).2.2.2.2.2.2.2))]) rfl rfl ?_; clear S a; intro a S
 refine s_store S rfl rfl rfl (s' := [.sl ch1.1.1 ((ST37.un t1).1).length ch1.1.2 (RdS Y71 ch1.1.1 ((ST37.un t1).1)), .sl ch1.2.1.1 ((ST37.un t1).2.1).length ch1.2.1.2 (RdS Y122 ch1.2.1.1 ((ST37.un t1).2.1)), .sl ch1.2.2.1.1 ((ST37.un t1).2.2.1).length ch1.2.2.1.2 (RdS (Ty.arr .u8 20) ch1.2.2.1.1 ((ST37.un t1).2.2.1)), .sl ch1.2.2.2.1.1 ((ST37.un t1).2.2.2.1).length ch1.2.2.2.1.2 (RdS Y133 ch1.2.2.2.1.1 ((ST37.un t1).2.2.2.1)), .one (.int .i64 (wr .i64 (((ST37.un t1).2.2.2.2.1) + x2))), .sl ch1.2.2.2.2.2.1.1 ((ST37.un t1).2.2.2.2.2.1).length ch1.2.2.2.2.2.1.2 (RdS Y100 ch1.2.2.2.2.2.1.1 ((ST37.un t1).2.2.2.2.2.1)), .one (.bool ((ST37.un t1).2.2.2.2.2.2.1)), .sl ch1.2.2.2.2.2.2.2.1 ((ST37.un t1).2.2.2.2.2.2.2).length ch1.2.2.2.2.2.2.2.2 (SR37 ch1.2.2.2.2.2.2.2.1 ((ST37.un t1).2.2.2.2.2.2.2))]) .here T37 rfl rfl ?_; clear S w; intro w S
 refine c_end ?_
 refine wp_ret ?_
 obtain rfl := Option.some.inj h1
 exact b_ret1 (d := (.agg [.sl ch1.1.1 ((ST37.un t1).1).length ch1.1.2 (RdS Y71 ch1.1.1 ((ST37.un t1).1)), .sl ch1.2.1.1 ((ST37.un t1).2.1).length ch1.2.1.2 (RdS Y122 ch1.2.1.1 ((ST37.un t1).2.1)), .sl ch1.2.2.1.1 ((ST37.un t1).2.2.1).length ch1.2.2.1.2 (RdS (Ty.arr .u8 20) ch1.2.2.1.1 ((ST37.un t1).2.2.1)), .sl ch1.2.2.2.1.1 ((ST37.un t1).2.2.2.1).length ch1.2.2.2.1.2 (RdS Y133 ch1.2.2.2.1.1 ((ST37.un t1).2.2.2.1)), .one (.int .i64 (wr .i64 (((ST37.un t1).2.2.2.2.1) + x2))), .sl ch1.2.2.2.2.2.1.1 ((ST37.un t1).2.2.2.2.2.1).length ch1.2.2.2.2.2.1.2 (RdS Y100 ch1.2.2.2.2.2.1.1 ((ST37.un t1).2.2.2.2.2.1)), .one (.bool ((ST37.un t1).2.2.2.2.2.2.1)), .sl ch1.2.2.2.2.2.2.2.1 ((ST37.un t1).2.2.2.2.2.2.2).length ch1.2.2.2.2.2.2.2.2 (SR37 ch1.2.2.2.2.2.2.2.1 ((ST37.un t1).2.2.2.2.2.2.2))])) S rfl (resD_cell rfl .here T37 rfl rfl) fun ok => S.retX (Hx := []) hb _ _ (((ch1.1.1, ch1.1.2), (ch1.2.1.1, ch1.2.1.2), (ch1.2.2.1.1, ch1.2.2.1.2), (ch1.2.2.2.1.1, ch1.2.2.2.1.2), (), (ch1.2.2.2.2.2.1.1, ch1.2.2.2.2.2.1.2), (), (ch1.2.2.2.2.2.2.2.1, ch1.2.2.2.2.2.2.2.2)) : W21) .nil ok
abbrev state_State_Log_0nil.Ty : Type := W22 → Option Unit
def state_State_Log_0nil.Ctr (s : state_State_Log_0nil.Ty) : Prop := ∀ (x1 : W22) (ch_1_0 : Option Addr) (ch_1_1 : Nat) (ch_1_2 : Option Addr) (ch_1_3 : Nat) (r : Unit) (h0 : s x1 = some r) (mi : Mem) (w0 : World), okL mi [(.v (.pointer none)), (.agg (Y100.segs x1 ((), (ch_1_0, ch_1_1), (ch_1_2, ch_1_3))))] → Pre mi [] w0 → Calls Tryz.prog 48 (([(.v (.pointer none)), (.agg (Y100.segs x1 ((), (ch_1_0, ch_1_1), (ch_1_2, ch_1_3))))] : List D).map D.val).toArray w0 (RetX mi [] (fun (ch : Unit) => ((.tup []) : D)) (fun (ch : Unit) => []) w0)
def state_State_Log_0nil.f (x1 : W22) : Option Unit := some ()
theorem state_State_Log_0nil.ok : state_State_Log_0nil.Ctr (state_State_Log_0nil.f) := by
 intro x1 ch_1_0 ch_1_1 ch_1_2 ch_1_3 r h0 mi w0 ok hm
 delta state_State_Log_0nil.f at h0
 refine c_enterX (n := 26) [(.v (.pointer none)), (.agg (Y100.segs x1 ((), (ch_1_0, ch_1_1), (ch_1_2, ch_1_3))))] (l := [(0, (.v (.pointer none))), (1, (.agg (Y100.segs x1 ((), (ch_1_0, ch_1_1), (ch_1_2, ch_1_3)))))]) Tryz.func48 rfl rfl rfl rfl ok hm ?_
 clear ok hm
 intro b0 hb a S
 refine c_region ?_
 refine s_box S rfl rfl rfl ?_; clear S a; intro g1 a w S
 refine s_box S rfl rfl rfl ?_; clear S a w; intro g2 a w S
 refine c_end ?_
 refine wp_seq ?_
 refine c_region ?_
 refine s_load1 S rfl (.there .here) T26 (v := (.pointer none)) rfl rfl ?_; clear S a; intro a S
 refine s_eqp S (b := true) rfl rfl Tryz.underlying26 rfl rfl ?_; clear S a; intro a S
 refine c_end ?_
 refine c_condT S rfl rfl ?_
 refine wp_ret ?_
 refine x_thenR ?_
 obtain rfl := Option.some.inj h0
 exact b_ret0 S rfl (S.retX (Hx := []) hb _ _ (() : Unit) .nil trivial)
abbrev smithyref14_State_Log.Ty : Type := ST37 → W22 → Option ST37
def smithyref14_State_Log.Ctr (s : smithyref14_State_Log.Ty) : Prop := ∀ (x1 : ST37) (x2 : W22) (ch_0_0 : (Option Addr × Nat) × (Option Addr × Nat) × (Option Addr × Nat) × (Option Addr × Nat) × Unit × (Option Addr × Nat) × Unit × (Option Addr × Nat)) (ch_1_0 : Option Addr) (ch_1_1 : Nat) (ch_1_2 : Option Addr) (ch_1_3 : Nat) (r : ST37) (h0 : s x1 x2 = some r) (mi : Mem) (w0 : World), okL mi [(.agg [.sl ch_0_0.1.1 ((ST37.un x1).1).length ch_0_0.1.2 (RdS Y71 ch_0_0.1.1 ((ST37.un x1).1)), .sl ch_0_0.2.1.1 ((ST37.un x1).2.1).length ch_0_0.2.1.2 (RdS Y122 ch_0_0.2.1.1 ((ST37.un x1).2.1)), .sl ch_0_0.2.2.1.1 ((ST37.un x1).2.2.1).length ch_0_0.2.2.1.2 (RdS (Ty.arr .u8 20) ch_0_0.2.2.1.1 ((ST37.un x1).2.2.1)), .sl ch_0_0.2.2.2.1.1 ((ST37.un x1).2.2.2.1).length ch_0_0.2.2.2.1.2 (RdS Y133 ch_0_0.2.2.2.1.1 ((ST37.un x1).2.2.2.1)), .one (.int .i64 ((ST37.un x1).2.2.2.2.1)), .sl ch_0_0.2.2.2.2.2.1.1 ((ST37.un x1).2.2.2.2.2.1).length ch_0_0.2.2.2.2.2.1.2 (RdS Y100 ch_0_0.2.2.2.2.2.1.1 ((ST37.un x1).2.2.2.2.2.1)), .one (.bool ((ST37.un x1).2.2.2.2.2.2.1)), .sl ch_0_0.2.2.2.2.2.2.2.1 ((ST37.un x1).2.2.2.2.2.2.2).length ch_0_0.2.2.2.2.2.2.2.2 (SR37 ch_0_0.2.2.2.2.2.2.2.1 ((ST37.un x1).2.2.2.2.2.2.2))]), (.agg (Y100.segs x2 ((), (ch_1_0, ch_1_1), (ch_1_2, ch_1_3))))] → Pre mi [] w0 → Calls Tryz.prog 49 (([(.agg [.sl ch_0_0.1.1 ((ST37.un x1).1).length ch_0_0.1.2 (RdS Y71 ch_0_0.1.1 ((ST37.un x1).1)), .sl ch_0_0.2.1.1 ((ST37.un x1).2.1).length ch_0_0.2.1.2 (RdS Y122 ch_0_0.2.1.1 ((ST37.un x1).2.1)), .sl ch_0_0.2.2.1.1 ((ST37.un x1).2.2.1).length ch_0_0.2.2.1.2 (RdS (Ty.arr .u8 20) ch_0_0.2.2.1.1 ((ST37.un x1).2.2.1)), .sl ch_0_0.2.2.2.1.1 ((ST37.un x1).2.2.2.1).length ch_0_0.2.2.2.1.2 (RdS Y133 ch_0_0.2.2.2.1.1 ((ST37.un x1).2.2.2.1)), .one (.int .i64 ((ST37.un x1).2.2.2.2.1)), .sl ch_0_0.2.2.2.2.2.1.1 ((ST37.un x1).2.2.2.2.2.1).length ch_0_0.2.2.2.2.2.1.2 (RdS Y100 ch_0_0.2.2.2.2.2.1.1 ((ST37.un x1).2.2.2.2.2.1)), .one (.bool ((ST37.un x1).2.2.2.2.2.2.1)), .sl ch_0_0.2.2.2.2.2.2.2.1 ((ST37.un x1).2.2.2.2.2.2.2).length ch_0_0.2.2.2.2.2.2.2.2 (SR37 ch_0_0.2.2.2.2.2.2.2.1 ((ST37.un x1).2.2.2.2.2.2.2))]), (.agg (Y100.segs x2 ((), (ch_1_0, ch_1_1), (ch_1_2, ch_1_3))))] : List D).map D.val).toArray w0 (RetX mi [] (fun (ch : W21) => ((.agg [.sl ch.1.1 ((ST37.un r).1).length ch.1.2 (RdS Y71 ch.1.1 ((ST37.un r).1)), .sl ch.2.1.1 ((ST37.un r).2.1).length ch.2.1.2 (RdS Y122 ch.2.1.1 ((ST37.un r).2.1)), .sl ch.2.2.1.1 ((ST37.un r).2.2.1).length ch.2.2.1.2 (RdS (Ty.arr .u8 20) ch.2.2.1.1 ((ST37.un r).2.2.1)), .sl ch.2.2.2.1.1 ((ST37.un r).2.2.2.1).length ch.2.2.2.1.2 (RdS Y133 ch.2.2.2.1.1 ((ST37.un r).2.2.2.1)), .one (.int .i64 ((ST37.un r).2.2.2.2.1)), .sl ch.2.2.2.2.2.1.1 ((ST37.un r).2.2.2.2.2.1).length ch.2.2.2.2.2.1.2 (RdS Y100 ch.2.2.2.2.2.1.1 ((ST37.un r).2.2.2.2.2.1)), .one (.bool ((ST37.un r).2.2.2.2.2.2.1)), .sl ch.2.2.2.2.2.2.2.1 ((ST37.un r).2.2.2.2.2.2.2).length ch.2.2.2.2.2.2.2.2 (SR37 ch.2.2.2.2.2.2.2.1 ((ST37.un r).2.2.2.2.2.2.2))]) : D)) (fun (ch : W21) => []) w0)
def smithyref14_State_Log.f (x1 : ST37) (x2 : W22) : Option ST37 := (smithyref14_State_keep.f x1).bind fun t1 => (if ((([] : List L100)).length + ((ST37.un t1).2.2.2.2.2.1).length) * 72 ≤ 140737488355328 then (if ((([] : List L100) ++ ((ST37.un t1).2.2.2.2.2.1)).length + ([x2]).length) * 72 ≤ 140737488355328 then (some (ST37.mk ((ST37.un t1).1, (ST37.un t1).2.1, (ST37.un t1).2.2.1, (ST37.un t1).2.2.2.1, (ST37.un t1).2.2.2.2.1, (([] : List L100) ++ ((ST37.un t1).2.2.2.2.2.1)) ++ [x2], (ST37.un t1).2.2.2.2.2.2.1, (ST37.un t1).2.2.2.2.2.2.2))) else none) else none)
theorem smithyref14_State_Log.ok : smithyref14_State_Log.Ctr (smithyref14_State_Log.f) := by
 intro x1 x2 ch_0_0 ch_1_0 ch_1_1 ch_1_2 ch_1_3 r h0 mi w0 ok hm
 delta smithyref14_State_Log.f at h0
 refine c_enterX (n := 20) [(.agg [.sl ch_0_0.1.1 ((ST37.un x1).1).length ch_0_0.1.2 (RdS Y71 ch_0_0.1.1 ((ST37.un x1).1)), .sl ch_0_0.2.1.1 ((ST37.un x1).2.1).length ch_0_0.2.1.2 (RdS Y122 ch_0_0.2.1.1 ((ST37.un x1).2.1)), .sl ch_0_0.2.2.1.1 ((ST37.un x1).2.2.1).length ch_0_0.2.2.1.2 (RdS (Ty.arr .u8 20) ch_0_0.2.2.1.1 ((ST37.un x1).2.2.1)), .sl ch_0_0.2.2.2.1.1 ((ST37.un x1).2.2.2.1).length ch_0_0.2.2.2.1.2 (RdS Y133 ch_0_0.2.2.2.1.1 ((ST37.un x1).2.2.2.1)), .one (.int .i64 ((ST37.un x1).2.2.2.2.1)), .sl ch_0_0.2.2.2.2.2.1.1 ((ST37.un x1).2.2.2.2.2.1).length ch_0_0.2.2.2.2.2.1.2 (RdS Y100 ch_0_0.2.2.2.2.2.1.1 ((ST37.un x1).2.2.2.2.2.1)), .one (.bool ((ST37.un x1).2.2.2.2.2.2.1)), .sl ch_0_0.2.2.2.2.2.2.2.1 ((ST37.un x1).2.2.2.2.2.2.2).length ch_0_0.2.2.2.2.2.2.2.2 (SR37 ch_0_0.2.2.2.2.2.2.2.1 ((ST37.un x1).2.2.2.2.2.2.2))]), (.agg (Y100.segs x2 ((), (ch_1_0, ch_1_1), (ch_1_2, ch_1_3))))] (l := [(0, (.agg [.sl ch_0_0.1.1 ((ST37.un x1).1).length ch_0_0.1.2 (RdS Y71 ch_0_0.1.1 ((ST37.un x1).1)), .sl ch_0_0.2.1.1 ((ST37.un x1).2.1).length ch_0_0.2.1.2 (RdS Y122 ch_0_0.2.1.1 ((ST37.un x1).2.1)), .sl ch_0_0.2.2.1.1 ((ST37.un x1).2.2.1).length ch_0_0.2.2.1.2 (RdS (Ty.arr .u8 20) ch_0_0.2.2.1.1 ((ST37.un x1).2.2.1)), .sl ch_0_0.2.2.2.1.1 ((ST37.un x1).2.2.2.1).length ch_0_0.2.2.2.1.2 (RdS Y133 ch_0_0.2.2.2.1.1 ((ST37.un x1).2.2.2.1)), .one (.int .i64 ((ST37.un x1).2.2.2.2.1)), .sl ch_0_0.2.2.2.2.2.1.1 ((ST37.un x1).2.2.2.2.2.1).length ch_0_0.2.2.2.2.2.1.2 (RdS Y100 ch_0_0.2.2.2.2.2.1.1 ((ST37.un x1).2.2.2.2.2.1)), .one (.bool ((ST37.un x1).2.2.2.2.2.2.1)), .sl ch_0_0.2.2.2.2.2.2.2.1 ((ST37.un x1).2.2.2.2.2.2.2).length ch_0_0.2.2.2.2.2.2.2.2 (SR37 ch_0_0.2.2.2.2.2.2.2.1 ((ST37.un x1).2.2.2.2.2.2.2))])), (1, (.agg (Y100.segs x2 ((), (ch_1_0, ch_1_1), (ch_1_2, ch_1_3)))))]) Tryz.func49 rfl rfl rfl rfl ok hm ?_
 clear ok hm
 intro b0 hb a S
 refine c_region ?_
 refine s_box S rfl rfl rfl ?_; clear S a; intro g1 a w S
 refine s_box S rfl rfl rfl ?_; clear S a w; intro g2 a w S
 refine s_alloc S Z37 rfl ⟨rfl, rfl, rfl, rfl, rfl, rfl, rfl, rfl, trivial⟩ rfl ?_; clear S a w; intro g3 a w S
 refine c_end ?_
 refine c_region ?_
 refine s_loada S rfl (.there (.there .here)) T37 (s' := [.sl ch_0_0.1.1 ((ST37.un x1).1).length ch_0_0.1.2 (RdS Y71 ch_0_0.1.1 ((ST37.un x1).1)), .sl ch_0_0.2.1.1 ((ST37.un x1).2.1).length ch_0_0.2.1.2 (RdS Y122 ch_0_0.2.1.1 ((ST37.un x1).2.1)), .sl ch_0_0.2.2.1.1 ((ST37.un x1).2.2.1).length ch_0_0.2.2.1.2 (RdS (Ty.arr .u8 20) ch_0_0.2.2.1.1 ((ST37.un x1).2.2.1)), .sl ch_0_0.2.2.2.1.1 ((ST37.un x1).2.2.2.1).length ch_0_0.2.2.2.1.2 (RdS Y133 ch_0_0.2.2.2.1.1 ((ST37.un x1).2.2.2.1)), .one (.int .i64 ((ST37.un x1).2.2.2.2.1)), .sl ch_0_0.2.2.2.2.2.1.1 ((ST37.un x1).2.2.2.2.2.1).length ch_0_0.2.2.2.2.2.1.2 (RdS Y100 ch_0_0.2.2.2.2.2.1.1 ((ST37.un x1).2.2.2.2.2.1)), .one (.bool ((ST37.un x1).2.2.2.2.2.2.1)), .sl ch_0_0.2.2.2.2.2.2.2.1 ((ST37.un x1).2.2.2.2.2.2.2).length ch_0_0.2.2.2.2.2.2.2.2 (SR37 ch_0_0.2.2.2.2.2.2.2.1 ((ST37.un x1).2.2.2.2.2.2.2))]) rfl rfl ?_; clear S a; intro a S
 obtain ⟨t1, et1, h1⟩ := bind_of h0; clear h0
 refine s_callP S (fun (ch : W21) => ((.agg [.sl ch.1.1 ((ST37.un t1).1).length ch.1.2 (RdS Y71 ch.1.1 ((ST37.un t1).1)), .sl ch.2.1.1 ((ST37.un t1).2.1).length ch.2.1.2 (RdS Y122 ch.2.1.1 ((ST37.un t1).2.1)), .sl ch.2.2.1.1 ((ST37.un t1).2.2.1).length ch.2.2.1.2 (RdS (Ty.arr .u8 20) ch.2.2.1.1 ((ST37.un t1).2.2.1)), .sl ch.2.2.2.1.1 ((ST37.un t1).2.2.2.1).length ch.2.2.2.1.2 (RdS Y133 ch.2.2.2.1.1 ((ST37.un t1).2.2.2.1)), .one (.int .i64 ((ST37.un t1).2.2.2.2.1)), .sl ch.2.2.2.2.2.1.1 ((ST37.un t1).2.2.2.2.2.1).length ch.2.2.2.2.2.1.2 (RdS Y100 ch.2.2.2.2.2.1.1 ((ST37.un t1).2.2.2.2.2.1)), .one (.bool ((ST37.un t1).2.2.2.2.2.2.1)), .sl ch.2.2.2.2.2.2.2.1 ((ST37.un t1).2.2.2.2.2.2.2).length ch.2.2.2.2.2.2.2.2 (SR37 ch.2.2.2.2.2.2.2.1 ((ST37.un t1).2.2.2.2.2.2.2))]) : D)) N81 rfl rfl (smithyref14_State_keep.ok x1 ((ch_0_0.1.1, ch_0_0.1.2), (ch_0_0.2.1.1, ch_0_0.2.1.2), (ch_0_0.2.2.1.1, ch_0_0.2.2.1.2), (ch_0_0.2.2.2.1.1, ch_0_0.2.2.2.1.2), (), (ch_0_0.2.2.2.2.2.1.1, ch_0_0.2.2.2.2.2.1.2), (), (ch_0_0.2.2.2.2.2.2.2.1, ch_0_0.2.2.2.2.2.2.2.2)) t1 et1 _ _) ?_; clear S a w; intro ch1 m le1 a w S
 refine s_store S rfl rfl rfl (s' := [.sl ch1.1.1 ((ST37.un t1).1).length ch1.1.2 (RdS Y71 ch1.1.1 ((ST37.un t1).1)), .sl ch1.2.1.1 ((ST37.un t1).2.1).length ch1.2.1.2 (RdS Y122 ch1.2.1.1 ((ST37.un t1).2.1)), .sl ch1.2.2.1.1 ((ST37.un t1).2.2.1).length ch1.2.2.1.2 (RdS (Ty.arr .u8 20) ch1.2.2.1.1 ((ST37.un t1).2.2.1)), .sl ch1.2.2.2.1.1 ((ST37.un t1).2.2.2.1).length ch1.2.2.2.1.2 (RdS Y133 ch1.2.2.2.1.1 ((ST37.un t1).2.2.2.1)), .one (.int .i64 ((ST37.un t1).2.2.2.2.1)), .sl ch1.2.2.2.2.2.1.1 ((ST37.un t1).2.2.2.2.2.1).length ch1.2.2.2.2.2.1.2 (RdS Y100 ch1.2.2.2.2.2.1.1 ((ST37.un t1).2.2.2.2.2.1)), .one (.bool ((ST37.un t1).2.2.2.2.2.2.1)), .sl ch1.2.2.2.2.2.2.2.1 ((ST37.un t1).2.2.2.2.2.2.2).length ch1.2.2.2.2.2.2.2.2 (SR37 ch1.2.2.2.2.2.2.2.1 ((ST37.un t1).2.2.2.2.2.2.2))]) (.there (.there .here)) T37 rfl rfl ?_; clear S w; intro w S
 refine c_end ?_
 refine c_region ?_
 refine s_bldSl S (ty' := Y100) (ds := []) (z := ([0, 0, 0, 0, 0, 0, 0, 0, 0, 0, 0, 0, 0, 0, 0, 0, 0, 0, 0, 0], ([] : List (List Int)), ([] : List Int))) (c0 := ((), (none, 0), (none, 0))) (ys := ([] : List L100)) (cs := []) rfl Tryz.underlying34 J100 Z100 rfl ⟨rfl, ⟨Nat.le_refl _, Nat.zero_le _, RdS.nil _ _ _, RdS.mono _ _ _⟩, ⟨Nat.le_refl _, Nat.zero_le _, RdS.nil _ _ _, RdS.mono _ _ _⟩, trivial⟩ rfl rfl rfl rfl rfl rfl ?_; clear S a w; intro g4 a w S
 refine s_assign S rfl rfl ?_; clear S a; intro a S
 refine c_end ?_
 refine c_region ?_
 refine s_move S rfl rfl ?_; clear S a; intro a S
 refine s_fieldAddr S rfl I37_5 T34 (by decide) rfl rfl ?_; clear S a; intro a S
 refine s_loadSl S rfl (.there (.there (.there .here))) T34 (A := ch1.2.2.2.2.2.1.1) (len := ((ST37.un t1).2.2.2.2.2.1).length) (cap := ch1.2.2.2.2.2.1.2) rfl rfl ?_; clear S a; intro a S
 obtain ⟨c1, h2⟩ := chk_of h1; clear h1
 refine s_app S (k2 := (((ST37.un t1).2.2.2.2.2.1).length)) (ys := ((ST37.un t1).2.2.2.2.2.1)) rfl (fun _ _ => .here) rfl rfl rfl (RdS.src (S.get 11 (.sl ch1.2.2.2.2.2.1.1 ((ST37.un t1).2.2.2.2.2.1).length ch1.2.2.2.2.2.1.2 (RdS Y100 ch1.2.2.2.2.2.1.1 ((ST37.un t1).2.2.2.2.2.1))) rfl).2.2.2.1 (by decide) S.frz) Tryz.underlying34 J100 c1 rfl ?_; clear S a w; intro A1 cp1 a w S
 refine s_assign S rfl rfl ?_; clear S a; intro a S
 refine c_end ?_
 refine c_region ?_
 refine s_move S rfl rfl ?_; clear S a; intro a S
 refine s_loada S rfl (.there (.there .here)) T100 (s' := (Y100.segs x2 ((), (ch_1_0, ch_1_1), (ch_1_2, ch_1_3)))) rfl rfl ?_; clear S a; intro a S
 refine s_bldSl S (ty' := Y100) (ds := [(0, (.agg (Y100.segs x2 ((), (ch_1_0, ch_1_1), (ch_1_2, ch_1_3)))))]) (z := ([0, 0, 0, 0, 0, 0, 0, 0, 0, 0, 0, 0, 0, 0, 0, 0, 0, 0, 0, 0], ([] : List (List Int)), ([] : List Int))) (c0 := ((), (none, 0), (none, 0))) (ys := [x2]) (cs := [((), (ch_1_0, ch_1_1), (ch_1_2, ch_1_3))]) rfl Tryz.underlying34 J100 Z100 rfl ⟨rfl, ⟨Nat.le_refl _, Nat.zero_le _, RdS.nil _ _ _, RdS.mono _ _ _⟩, ⟨Nat.le_refl _, Nat.zero_le _, RdS.nil _ _ _, RdS.mono _ _ _⟩, trivial⟩ rfl rfl rfl rfl rfl rfl ?_; clear S a w; intro g5 a w S
 obtain ⟨c2, h3⟩ := chk_of h2; clear h2
 refine s_app S (k2 := 1) (ys := [x2]) rfl (fun _ _ => (.there .here)) rfl rfl (S.holds _ (Pull.mem .here).1).1 (Res.row.src (S.holds _ (Pull.mem .here).1)) Tryz.underlying34 J100 c2 rfl ?_; clear S a w; intro A2 cp2 a w S
 refine s_assign S rfl rfl ?_; clear S a; intro a S
 refine c_end ?_
 refine c_region ?_
 refine s_move S rfl rfl ?_; clear S a; intro a S
 refine s_fieldAddr S rfl I37_5 T34 (by decide) rfl rfl ?_; clear S a; intro a S
 refine s_store S rfl rfl rfl (s' := [.sl ch1.1.1 ((ST37.un t1).1).length ch1.1.2 (RdS Y71 ch1.1.1 ((ST37.un t1).1)), .sl ch1.2.1.1 ((ST37.un t1).2.1).length ch1.2.1.2 (RdS Y122 ch1.2.1.1 ((ST37.un t1).2.1)), .sl ch1.2.2.1.1 ((ST37.un t1).2.2.1).length ch1.2.2.1.2 (RdS (Ty.arr .u8 20) ch1.2.2.1.1 ((ST37.un t1).2.2.1)), .sl ch1.2.2.2.1.1 ((ST37.un t1).2.2.2.1).length ch1.2.2.2.1.2 (RdS Y133 ch1.2.2.2.1.1 ((ST37.un t1).2.2.2.1)), .one (.int .i64 ((ST37.un t1).2.2.2.2.1)), .one (.slice A2 ((0 + (((ST37.un t1).2.2.2.2.2.1).length)) + 1) cp2), .one (.bool ((ST37.un t1).2.2.2.2.2.2.1)), .sl ch1.2.2.2.2.2.2.2.1 ((ST37.un t1).2.2.2.2.2.2.2).length ch1.2.2.2.2.2.2.2.2 (SR37 ch1.2.2.2.2.2.2.2.1 ((ST37.un t1).2.2.2.2.2.2.2))]) (.there (.there (.there (.there .here)))) T34 rfl rfl ?_; clear S w; intro w S
 refine c_end ?_
 refine c_region ?_
 refine s_loada S rfl (.there (.there (.there (.there .here)))) T37 (s' := [.sl ch1.1.1 ((ST37.un t1).1).length ch1.1.2 (RdS Y71 ch1.1.1 ((ST37.un t1).1)), .sl ch1.2.1.1 ((ST37.un t1).2.1).length ch1.2.1.2 (RdS Y122 ch1.2.1.1 ((ST37.un t1).2.1)), .sl ch1.2.2.1.1 ((ST37.un t1).2.2.1).length ch1.2.2.1.2 (RdS (Ty.arr .u8 20) ch1.2.2.1.1 ((ST37.un t1).2.2.1)), .sl ch1.2.2.2.1.1 ((ST37.un t1).2.2.2.1).length ch1.2.2.2.1.2 (RdS Y133 ch1.2.2.2.1.1 ((ST37.un t1).2.2.2.1)), .one (.int .i64 ((ST37.un t1).2.2.2.2.1)), .one (.slice A2 ((0 + (((ST37.un t1).2.2.2.2.2.1).length)) + 1) cp2), .one (.bool ((ST37.un t1).2.2.2.2.2.2.1)), .sl ch1.2.2.2.2.2.2.2.1 ((ST37.un t1).2.2.2.2.2.2.2).length ch1.2.2.2.2.2.2.2.2 (SR37 ch1.2.2.2.2.2.2.2.1 ((ST37.un t1).2.2.2.2.2.2.2))]) rfl rfl ?_; clear S a; intro a S
 refine s_store S rfl rfl rfl (s' := [.sl ch1.1.1 ((ST37.un t1).1).length ch1.1.2 (RdS Y71 ch1.1.1 ((ST37.un t1).1)), .sl ch1.2.1.1 ((ST37.un t1).2.1).length ch1.2.1.2 (RdS Y122 ch1.2.1.1 ((ST37.un t1).2.1)), .sl ch1.2.2.1.1 ((ST37.un t1).2.2.1).length ch1.2.2.1.2 (RdS (Ty.arr .u8 20) ch1.2.2.1.1 ((ST37.un t1).2.2.1)), .sl ch1.2.2.2.1.1 ((ST37.un t1).2.2.2.1).length ch1.2.2.2.1.2 (RdS Y133 ch1.2.2.2.1.1 ((ST37.un t1).2.2.2.1)), .one (.int .i64 ((ST37.un t1).2.2.2.2.1)), .one (.slice A2 ((0 + (((ST37.un t1).2.2.2.2.2.1).length)) + 1) cp2), .one (.bool ((ST37.un t1).2.2.2.2.2.2.1)), .sl ch1.2.2.2.2.2.2.2.1 ((ST37.un t1).2.2.2.2.2.2.2).length ch1.2.2.2.2.2.2.2.2 (SR37 ch1.2.2.2.2.2.2.2.1 ((ST37.un t1).2.2.2.2.2.2.2))]) (.there (.there .here)) T37 rfl rfl ?_; clear S w; intro w S
 refine c_end ?_
 refine wp_ret ?_
 replace S := S.rowfro (.there .here)
 obtain ⟨m, le1, S, hro⟩ := S
 replace S := S.slot (u := 19) (d' := (.agg [.sl ch1.1.1 ((ST37.un t1).1).length ch1.1.2 (RdS Y71 ch1.1.1 ((ST37.un t1).1)), .sl ch1.2.1.1 ((ST37.un t1).2.1).length ch1.2.1.2 (RdS Y122 ch1.2.1.1 ((ST37.un t1).2.1)), .sl ch1.2.2.1.1 ((ST37.un t1).2.2.1).length ch1.2.2.1.2 (RdS (Ty.arr .u8 20) ch1.2.2.1.1 ((ST37.un t1).2.2.1)), .sl ch1.2.2.2.1.1 ((ST37.un t1).2.2.2.1).length ch1.2.2.2.1.2 (RdS Y133 ch1.2.2.2.1.1 ((ST37.un t1).2.2.2.1)), .one (.int .i64 ((ST37.un t1).2.2.2.2.1)), .sl A2 ((([] : List L100) ++ ((ST37.un t1).2.2.2.2.2.1)) ++ [x2]).length cp2 (RdS Y100 A2 ((([] : List L100) ++ ((ST37.un t1).2.2.2.2.2.1)) ++ [x2])), .one (.bool ((ST37.un t1).2.2.2.2.2.2.1)), .sl ch1.2.2.2.2.2.2.2.1 ((ST37.un t1).2.2.2.2.2.2.2).length ch1.2.2.2.2.2.2.2.2 (SR37 ch1.2.2.2.2.2.2.2.1 ((ST37.un t1).2.2.2.2.2.2.2))])) rfl (by simp [D.val, pd, cellsOf, Seg.cells, hro.2.1]) (by have h := (S.get 19 (.agg [.sl ch1.1.1 ((ST37.un t1).1).length ch1.1.2 (RdS Y71 ch1.1.1 ((ST37.un t1).1)), .sl ch1.2.1.1 ((ST37.un t1).2.1).length ch1.2.1.2 (RdS Y122 ch1.2.1.1 ((ST37.un t1).2.1)), .sl ch1.2.2.1.1 ((ST37.un t1).2.2.1).length ch1.2.2.1.2 (RdS (Ty.arr .u8 20) ch1.2.2.1.1 ((ST37.un t1).2.2.1)), .sl ch1.2.2.2.1.1 ((ST37.un t1).2.2.2.1).length ch1.2.2.2.1.2 (RdS Y133 ch1.2.2.2.1.1 ((ST37.un t1).2.2.2.1)), .one (.int .i64 ((ST37.un t1).2.2.2.2.1)), .one (.slice A2 ((0 + (((ST37.un t1).2.2.2.2.2.1).length)) + 1) cp2), .one (.bool ((ST37.un t1).2.2.2.2.2.2.1)), .sl ch1.2.2.2.2.2.2.2.1 ((ST37.un t1).2.2.2.2.2.2.2).length ch1.2.2.2.2.2.2.2.2 (SR37 ch1.2.2.2.2.2.2.2.1 ((ST37.un t1).2.2.2.2.2.2.2))]) rfl).2; exact ⟨h.1, h.2.1, h.2.2.1, h.2.2.2.1, h.2.2.2.2.1, ⟨by have := hro.2.2.1; omega, hro.2.2.2, hro.1, RdS.mono _ _ _⟩, h.2.2.2.2.2.2.1, h.2.2.2.2.2.2.2.1, trivial⟩)
 replace S := S.slotro (u := 17) rfl hro
 replace S := S.slotro (u := 5) rfl hro
 replace S := S.slotro (u := 16) rfl hro
 replace S := S.cellro (s' := [.sl ch1.1.1 ((ST37.un t1).1).length ch1.1.2 (RdS Y71 ch1.1.1 ((ST37.un t1).1)), .sl ch1.2.1.1 ((ST37.un t1).2.1).length ch1.2.1.2 (RdS Y122 ch1.2.1.1 ((ST37.un t1).2.1)), .sl ch1.2.2.1.1 ((ST37.un t1).2.2.1).length ch1.2.2.1.2 (RdS (Ty.arr .u8 20) ch1.2.2.1.1 ((ST37.un t1).2.2.1)), .sl ch1.2.2.2.1.1 ((ST37.un t1).2.2.2.1).length ch1.2.2.2.1.2 (RdS Y133 ch1.2.2.2.1.1 ((ST37.un t1).2.2.2.1)), .one (.int .i64 ((ST37.un t1).2.2.2.2.1)), .sl A2 ((([] : List L100) ++ ((ST37.un t1).2.2.2.2.2.1)) ++ [x2]).length cp2 (RdS Y100 A2 ((([] : List L100) ++ ((ST37.un t1).2.2.2.2.2.1)) ++ [x2])), .one (.bool ((ST37.un t1).2.2.2.2.2.2.1)), .sl ch1.2.2.2.2.2.2.2.1 ((ST37.un t1).2.2.2.2.2.2.2).length ch1.2.2.2.2.2.2.2.2 (SR37 ch1.2.2.2.2.2.2.2.1 ((ST37.un t1).2.2.2.2.2.2.2))]) (.there .here) (by simp [cellsOf, Seg.cells, hro.2.1]) (fun h => ⟨h.1, h.2.1, h.2.2.1, h.2.2.2.1, h.2.2.2.2.1, ⟨by have := hro.2.2.1; omega, hro.2.2.2, hro.1, RdS.mono _ _ _⟩, h.2.2.2.2.2.2.1, h.2.2.2.2.2.2.2.1, trivial⟩)
 replace S := S.cellro (s' := [.sl ch1.1.1 ((ST37.un t1).1).length ch1.1.2 (RdS Y71 ch1.1.1 ((ST37.un t1).1)), .sl ch1.2.1.1 ((ST37.un t1).2.1).length ch1.2.1.2 (RdS Y122 ch1.2.1.1 ((ST37.un t1).2.1)), .sl ch1.2.2.1.1 ((ST37.un t1).2.2.1).length ch1.2.2.1.2 (RdS (Ty.arr .u8 20) ch1.2.2.1.1 ((ST37.un t1).2.2.1)), .sl ch1.2.2.2.1.1 ((ST37.un t1).2.2.2.1).length ch1.2.2.2.1.2 (RdS Y133 ch1.2.2.2.1.1 ((ST37.un t1).2.2.2.1)), .one (.int .i64 ((ST37.un t1).2.2.2.2.1)), .sl A2 ((([] : List L100) ++ ((ST37.un t1).2.2.2.2.2.1)) ++ [x2]).length cp2 (RdS Y100 A2 ((([] : List L100) ++ ((ST37.un t1).2.2.2.2.2.1)) ++ [x2])), .one (.bool ((ST37.un t1).2.2.2.2.2.2.1)), .sl ch1.2.2.2.2.2.2.2.1 ((ST37.un t1).2.2.2.2.2.2.2).length ch1.2.2.2.2.2.2.2.2 (SR37 ch1.2.2.2.2.2.2.2.1 ((ST37.un t1).2.2.2.2.2.2.2))]) (.there (.there (.there .here))) (by simp [cellsOf, Seg.cells, hro.2.1]) (fun h => ⟨h.1, h.2.1, h.2.2.1, h.2.2.2.1, h.2.2.2.2.1, ⟨by have := hro.2.2.1; omega, hro.2.2.2, hro.1, RdS.mono _ _ _⟩, h.2.2.2.2.2.2.1, h.2.2.2.2.2.2.2.1, trivial⟩)
 obtain rfl := Option.some.inj h3
 exact b_ret1 (d := (.agg [.sl ch1.1.1 ((ST37.un t1).1).length ch1.1.2 (RdS Y71 ch1.1.1 ((ST37.un t1).1)), .sl ch1.2.1.1 ((ST37.un t1).2.1).length ch1.2.1.2 (RdS Y122 ch1.2.1.1 ((ST37.un t1).2.1)), .sl ch1.2.2.1.1 ((ST37.un t1).2.2.1).length ch1.2.2.1.2 (RdS (Ty.arr .u8 20) ch1.2.2.1.1 ((ST37.un t1).2.2.1)), .sl ch1.2.2.2.1.1 ((ST37.un t1).2.2.2.1).length ch1.2.2.2.1.2 (RdS Y133 ch1.2.2.2.1.1 ((ST37.un t1).2.2.2.1)), .one (.int .i64 ((ST37.un t1).2.2.2.2.1)), .sl A2 ((([] : List L100) ++ ((ST37.un t1).2.2.2.2.2.1)) ++ [x2]).length cp2 (RdS Y100 A2 ((([] : List L100) ++ ((ST37.un t1).2.2.2.2.2.1)) ++ [x2])), .one (.bool ((ST37.un t1).2.2.2.2.2.2.1)), .sl ch1.2.2.2.2.2.2.2.1 ((ST37.un t1).2.2.2.2.2.2.2).length ch1.2.2.2.2.2.2.2.2 (SR37 ch1.2.2.2.2.2.2.2.1 ((ST37.un t1).2.2.2.2.2.2.2))])) S rfl (resD_cell rfl (.there .here) T37 rfl rfl) fun ok => S.retX (Hx := []) hb _ _ (((ch1.1.1, ch1.1.2), (ch1.2.1.1, ch1.2.1.2), (ch1.2.2.1.1, ch1.2.2.1.2), (ch1.2.2.2.1.1, ch1.2.2.2.1.2), (), (A2, cp2), (), (ch1.2.2.2.2.2.2.2.1, ch1.2.2.2.2.2.2.2.2)) : W21) .nil ok
abbrev state_State_Destroy_0nil.Ty : Type := (List Int) → Option Unit
def state_State_Destroy_0nil.Ctr (s : state_State_Destroy_0nil.Ty) : Prop := ∀ (x1 : List Int) (r : Unit) (h0 : s x1 = some r) (mi : Mem) (w0 : World), okL mi [(.v (.pointer none)), (.agg [.ints .u8 x1 20])] → Pre mi [] w0 → Calls Tryz.prog 50 (([(.v (.pointer none)), (.agg [.ints .u8 x1 20])] : List D).map D.val).toArray w0 (RetX mi [] (fun (ch : Unit) => ((.tup []) : D)) (fun (ch : Unit) => []) w0)
def state_State_Destroy_0nil.f (x1 : List Int) : Option Unit := some ()
theorem state_State_Destroy_0nil.ok : state_State_Destroy_0nil.Ctr (state_State_Destroy_0nil.f) := by
 intro x1 r h0 mi w0 ok hm
 delta state_State_Destroy_0nil.f at h0
 refine c_enterX (n := 21) [(.v (.pointer none)), (.agg [.ints .u8 x1 20])] (l := [(0, (.v (.pointer none))), (1, (.agg [.ints .u8 x1 20]))]) Tryz.func50 rfl rfl rfl rfl ok hm ?_
 clear ok hm
 intro b0 hb a S
 refine c_region ?_
 refine s_box S rfl rfl rfl ?_; clear S a; intro g1 a w S
 refine c_end ?_
 refine wp_seq ?_
 refine c_region ?_
 refine s_move S rfl rfl ?_; clear S a; intro a S
 refine s_eqp S (b := true) rfl rfl Tryz.underlying26 rfl rfl ?_; clear S a; intro a S
 refine c_end ?_
 refine c_condT S rfl rfl ?_
 refine wp_ret ?_
 refine x_thenR ?_
 obtain rfl := Option.some.inj h0
 exact b_ret0 S rfl (S.retX (Hx := []) hb _ _ (() : Unit) .nil trivial)
abbrev smithyref14_State_Destroy.Ty : Type := ST37 → (List Int) → Option ST37
def smithyref14_State_Destroy.Ctr (s : smithyref14_State_Destroy.Ty) : Prop := ∀ (x1 : ST37) (x2 : List Int) (ch_0_0 : (Option Addr × Nat) × (Option Addr × Nat) × (Option Addr × Nat) × (Option Addr × Nat) × Unit × (Option Addr × Nat) × Unit × (Option Addr × Nat)) (r : ST37) (h0 : s x1 x2 = some r) (mi : Mem) (w0 : World), okL mi [(.agg [.sl ch_0_0.1.1 ((ST37.un x1).1).length ch_0_0.1.2 (RdS Y71 ch_0_0.1.1 ((ST37.un x1).1)), .sl ch_0_0.2.1.1 ((ST37.un x1).2.1).length ch_0_0.2.1.2 (RdS Y122 ch_0_0.2.1.1 ((ST37.un x1).2.1)), .sl ch_0_0.2.2.1.1 ((ST37.un x1).2.2.1).length ch_0_0.2.2.1.2 (RdS (Ty.arr .u8 20) ch_0_0.2.2.1.1 ((ST37.un x1).2.2.1)), .sl ch_0_0.2.2.2.1.1 ((ST37.un x1).2.2.2.1).length ch_0_0.2.2.2.1.2 (RdS Y133 ch_0_0.2.2.2.1.1 ((ST37.un x1).2.2.2.1)), .one (.int .i64 ((ST37.un x1).2.2.2.2.1)), .sl ch_0_0.2.2.2.2.2.1.1 ((ST37.un x1).2.2.2.2.2.1).length ch_0_0.2.2.2.2.2.1.2 (RdS Y100 ch_0_0.2.2.2.2.2.1.1 ((ST37.un x1).2.2.2.2.2.1)), .one (.bool ((ST37.un x1).2.2.2.2.2.2.1)), .sl ch_0_0.2.2.2.2.2.2.2.1 ((ST37.un x1).2.2.2.2.2.2.2).length ch_0_0.2.2.2.2.2.2.2.2 (SR37 ch_0_0.2.2.2.2.2.2.2.1 ((ST37.un x1).2.2.2.2.2.2.2))]), (.agg [.ints .u8 x2 20])] → Pre mi [] w0 → Calls Tryz.prog 51 (([(.agg [.sl ch_0_0.1.1 ((ST37.un x1).1).length ch_0_0.1.2 (RdS Y71 ch_0_0.1.1 ((ST37.un x1).1)), .sl ch_0_0.2.1.1 ((ST37.un x1).2.1).length ch_0_0.2.1.2 (RdS Y122 ch_0_0.2.1.1 ((ST37.un x1).2.1)), .sl ch_0_0.2.2.1.1 ((ST37.un x1).2.2.1).length ch_0_0.2.2.1.2 (RdS (Ty.arr .u8 20) ch_0_0.2.2.1.1 ((ST37.un x1).2.2.1)), .sl ch_0_0.2.2.2.1.1 ((ST37.un x1).2.2.2.1).length ch_0_0.2.2.2.1.2 (RdS Y133 ch_0_0.2.2.2.1.1 ((ST37.un x1).2.2.2.1)), .one (.int .i64 ((ST37.un x1).2.2.2.2.1)), .sl ch_0_0.2.2.2.2.2.1.1 ((ST37.un x1).2.2.2.2.2.1).length ch_0_0.2.2.2.2.2.1.2 (RdS Y100 ch_0_0.2.2.2.2.2.1.1 ((ST37.un x1).2.2.2.2.2.1)), .one (.bool ((ST37.un x1).2.2.2.2.2.2.1)), .sl ch_0_0.2.2.2.2.2.2.2.1 ((ST37.un x1).2.2.2.2.2.2.2).length ch_0_0.2.2.2.2.2.2.2.2 (SR37 ch_0_0.2.2.2.2.2.2.2.1 ((ST37.un x1).2.2.2.2.2.2.2))]), (.agg [.ints .u8 x2 20])] : List D).map D.val).toArray w0 (RetX mi [] (fun (ch : W21) => ((.agg [.sl ch.1.1 ((ST37.un r).1).length ch.1.2 (RdS Y71 ch.1.1 ((ST37.un r).1)), .sl ch.2.1.1 ((ST37.un r).2.1).length ch.2.1.2 (RdS Y122 ch.2.1.1 ((ST37.un r).2.1)), .sl ch.2.2.1.1 ((ST37.un r).2.2.1).length ch.2.2.1.2 (RdS (Ty.arr .u8 20) ch.2.2.1.1 ((ST37.un r).2.2.1)), .sl ch.2.2.2.1.1 ((ST37.un r).2.2.2.1).length ch.2.2.2.1.2 (RdS Y133 ch.2.2.2.1.1 ((ST37.un r).2.2.2.1)), .one (.int .i64 ((ST37.un r).2.2.2.2.1)), .sl ch.2.2.2.2.2.1.1 ((ST37.un r).2.2.2.2.2.1).length ch.2.2.2.2.2.1.2 (RdS Y100 ch.2.2.2.2.2.1.1 ((ST37.un r).2.2.2.2.2.1)), .one (.bool ((ST37.un r).2.2.2.2.2.2.1)), .sl ch.2.2.2.2.2.2.2.1 ((ST37.un r).2.2.2.2.2.2.2).length ch.2.2.2.2.2.2.2.2 (SR37 ch.2.2.2.2.2.2.2.1 ((ST37.un r).2.2.2.2.2.2.2))]) : D)) (fun (ch : W21) => []) w0)
def smithyref14_State_Destroy.f (k : Nat) (x1 : ST37) (x2 : List Int) : Option ST37 := (smithyref14_State_At.f k x1 x2).bind fun t1 => ((smithyref14_State_With.f k x1 (t1.1, t1.2.1, true)).bind fun t2 => (some t2))
theorem smithyref14_State_Destroy.ok (k : Nat) : smithyref14_State_Destroy.Ctr (smithyref14_State_Destroy.f k) := by
 intro x1 x2 ch_0_0 r h0 mi w0 ok hm
 delta smithyref14_State_Destroy.f at h0
 refine c_enterX (n := 13) [(.agg [.sl ch_0_0.1.1 ((ST37.un x1).1).length ch_0_0.1.2 (RdS Y71 ch_0_0.1.1 ((ST37.un x1).1)), .sl ch_0_0.2.1.1 ((ST37.un x1).2.1).length ch_0_0.2.1.2 (RdS Y122 ch_0_0.2.1.1 ((ST37.un x1).2.1)), .sl ch_0_0.2.2.1.1 ((ST37.un x1).2.2.1).length ch_0_0.2.2.1.2 (RdS (Ty.arr .u8 20) ch_0_0.2.2.1.1 ((ST37.un x1).2.2.1)), .sl ch_0_0.2.2.2.1.1 ((ST37.un x1).2.2.2.1).length ch_0_0.2.2.2.1.2 (RdS Y133 ch_0_0.2.2.2.1.1 ((ST37.un x1).2.2.2.1)), .one (.int .i64 ((ST37.un x1).2.2.2.2.1)), .sl ch_0_0.2.2.2.2.2.1.1 ((ST37.un x1).2.2.2.2.2.1).length ch_0_0.2.2.2.2.2.1.2 (RdS Y100 ch_0_0.2.2.2.2.2.1.1 ((ST37.un x1).2.2.2.2.2.1)), .one (.bool ((ST37.un x1).2.2.2.2.2.2.1)), .sl ch_0_0.2.2.2.2.2.2.2.1 ((ST37.un x1).2.2.2.2.2.2.2).length ch_0_0.2.2.2.2.2.2.2.2 (SR37 ch_0_0.2.2.2.2.2.2.2.1 ((ST37.un x1).2.2.2.2.2.2.2))]), (.agg [.ints .u8 x2 20])] (l := [(0, (.agg [.sl ch_0_0.1.1 ((ST37.un x1).1).length ch_0_0.1.2 (RdS Y71 ch_0_0.1.1 ((ST37.un x1).1)), .sl ch_0_0.2.1.1 ((ST37.un x1).2.1).length ch_0_0.2.1.2 (RdS Y122 ch_0_0.2.1.1 ((ST37.un x1).2.1)), .sl ch_0_0.2.2.1.1 ((ST37.un x1).2.2.1).length ch_0_0.2.2.1.2 (RdS (Ty.arr .u8 20) ch_0_0.2.2.1.1 ((ST37.un x1).2.2.1)), .sl ch_0_0.2.2.2.1.1 ((ST37.un x1).2.2.2.1).length ch_0_0.2.2.2.1.2 (RdS Y133 ch_0_0.2.2.2.1.1 ((ST37.un x1).2.2.2.1)), .one (.int .i64 ((ST37.un x1).2.2.2.2.1)), .sl ch_0_0.2.2.2.2.2.1.1 ((ST37.un x1).2.2.2.2.2.1).length ch_0_0.2.2.2.2.2.1.2 (RdS Y100 ch_0_0.2.2.2.2.2.1.1 ((ST37.un x1).2.2.2.2.2.1)), .one (.bool ((ST37.un x1).2.2.2.2.2.2.1)), .sl ch_0_0.2.2.2.2.2.2.2.1 ((ST37.un x1).2.2.2.2.2.2.2).length ch_0_0.2.2.2.2.2.2.2.2 (SR37 ch_0_0.2.2.2.2.2.2.2.1 ((ST37.un x1).2.2.2.2.2.2.2))])), (1, (.agg [.ints .u8 x2 20]))]) Tryz.func51 rfl rfl rfl rfl ok hm ?_
 clear ok hm
 intro b0 hb a S
 refine c_region ?_
 refine s_box S rfl rfl rfl ?_; clear S a; intro g1 a w S
 refine s_box S rfl rfl rfl ?_; clear S a w; intro g2 a w S
 refine s_alloc S Z37 rfl ⟨rfl, rfl, rfl, rfl, rfl, rfl, rfl, rfl, trivial⟩ rfl ?_; clear S a w; intro g3 a w S
 refine c_end ?_
 refine c_region ?_
 refine s_loada S rfl (.there (.there .here)) T37 (s' := [.sl ch_0_0.1.1 ((ST37.un x1).1).length ch_0_0.1.2 (RdS Y71 ch_0_0.1.1 ((ST37.un x1).1)), .sl ch_0_0.2.1.1 ((ST37.un x1).2.1).length ch_0_0.2.1.2 (RdS Y122 ch_0_0.2.1.1 ((ST37.un x1).2.1)), .sl ch_0_0.2.2.1.1 ((ST37.un x1).2.2.1).length ch_0_0.2.2.1.2 (RdS (Ty.arr .u8 20) ch_0_0.2.2.1.1 ((ST37.un x1).2.2.1)), .sl ch_0_0.2.2.2.1.1 ((ST37.un x1).2.2.2.1).length ch_0_0.2.2.2.1.2 (RdS Y133 ch_0_0.2.2.2.1.1 ((ST37.un x1).2.2.2.1)), .one (.int .i64 ((ST37.un x1).2.2.2.2.1)), .sl ch_0_0.2.2.2.2.2.1.1 ((ST37.un x1).2.2.2.2.2.1).length ch_0_0.2.2.2.2.2.1.2 (RdS Y100 ch_0_0.2.2.2.2.2.1.1 ((ST37.un x1).2.2.2.2.2.1)), .one (.bool ((ST37.un x1).2.2.2.2.2.2.1)), .sl ch_0_0.2.2.2.2.2.2.2.1 ((ST37.un x1).2.2.2.2.2.2.2).length ch_0_0.2.2.2.2.2.2.2.2 (SR37 ch_0_0.2.2.2.2.2.2.2.1 ((ST37.un x1).2.2.2.2.2.2.2))]) rfl rfl ?_; clear S a; intro a S
 refine s_loada S rfl (.there .here) T40 (s' := [.ints .u8 x2 20]) rfl rfl ?_; clear S a; intro a S
 obtain ⟨t1, et1, h1⟩ := bind_of h0; clear h0
 refine s_callP S (fun (ch : W4) => ((.agg (Y122.segs t1 (((), (), (), (ch.1, ch.2.1), (ch.2.2.1, ch.2.2.2)), (), ()))) : D)) N64 rfl rfl (smithyref14_State_At.ok k x1 x2 ((ch_0_0.1.1, ch_0_0.1.2), (ch_0_0.2.1.1, ch_0_0.2.1.2), (ch_0_0.2.2.1.1, ch_0_0.2.2.1.2), (ch_0_0.2.2.2.1.1, ch_0_0.2.2.2.1.2), (), (ch_0_0.2.2.2.2.2.1.1, ch_0_0.2.2.2.2.2.1.2), (), (ch_0_0.2.2.2.2.2.2.2.1, ch_0_0.2.2.2.2.2.2.2.2)) t1 et1 _ _) ?_; clear S a w; intro ch1 m le1 a w S
 refine s_alloc S Z122 rfl ⟨rfl, rfl, rfl, rfl, rfl, rfl, rfl, trivial⟩ rfl ?_; clear S a w; intro g4 a w S
 refine s_store S rfl rfl rfl (s' := [.ints .u8 t1.1.1 20, .one (.int .u64 t1.1.2.1), .ints .u64 t1.1.2.2.1 4, .sl ch1.1 (t1.1.2.2.2.1).length ch1.2.1 (RdS (Ty.int .u8) ch1.1 t1.1.2.2.2.1), .sl ch1.2.2.1 (t1.1.2.2.2.2).length ch1.2.2.2 (RdS Y83 ch1.2.2.1 t1.1.2.2.2.2), .one (.bool t1.2.1), .one (.bool t1.2.2)]) .here T122 rfl rfl ?_; clear S w; intro w S
 refine c_end ?_
 refine c_region ?_
 refine s_fieldAddr S rfl I122_2 T4 (by decide) rfl rfl ?_; clear S a; intro a S
 refine s_store S rfl rfl rfl (s' := [.ints .u8 t1.1.1 20, .one (.int .u64 t1.1.2.1), .ints .u64 t1.1.2.2.1 4, .sl ch1.1 (t1.1.2.2.2.1).length ch1.2.1 (RdS (Ty.int .u8) ch1.1 t1.1.2.2.2.1), .sl ch1.2.2.1 (t1.1.2.2.2.2).length ch1.2.2.2 (RdS Y83 ch1.2.2.1 t1.1.2.2.2.2), .one (.bool t1.2.1), .one (.bool true)]) .here T4 rfl rfl ?_; clear S w; intro w S
 refine c_end ?_
 refine c_region ?_
 refine s_loada S rfl (.there (.there (.there .here))) T37 (s' := [.sl ch_0_0.1.1 ((ST37.un x1).1).length ch_0_0.1.2 (RdS Y71 ch_0_0.1.1 ((ST37.un x1).1)), .sl ch_0_0.2.1.1 ((ST37.un x1).2.1).length ch_0_0.2.1.2 (RdS Y122 ch_0_0.2.1.1 ((ST37.un x1).2.1)), .sl ch_0_0.2.2.1.1 ((ST37.un x1).2.2.1).length ch_0_0.2.2.1.2 (RdS (Ty.arr .u8 20) ch_0_0.2.2.1.1 ((ST37.un x1).2.2.1)), .sl ch_0_0.2.2.2.1.1 ((ST37.un x1).2.2.2.1).length ch_0_0.2.2.2.1.2 (RdS Y133 ch_0_0.2.2.2.1.1 ((ST37.un x1).2.2.2.1)), .one (.int .i64 ((ST37.un x1).2.2.2.2.1)), .sl ch_0_0.2.2.2.2.2.1.1 ((ST37.un x1).2.2.2.2.2.1).length ch_0_0.2.2.2.2.2.1.2 (RdS Y100 ch_0_0.2.2.2.2.2.1.1 ((ST37.un x1).2.2.2.2.2.1)), .one (.bool ((ST37.un x1).2.2.2.2.2.2.1)), .sl ch_0_0.2.2.2.2.2.2.2.1 ((ST37.un x1).2.2.2.2.2.2.2).length ch_0_0.2.2.2.2.2.2.2.2 (SR37 ch_0_0.2.2.2.2.2.2.2.1 ((ST37.un x1).2.2.2.2.2.2.2))]) rfl rfl ?_; clear S a; intro a S
 refine s_loada S rfl .here T122 (s' := [.ints .u8 t1.1.1 20, .one (.int .u64 t1.1.2.1), .ints .u64 t1.1.2.2.1 4, .sl ch1.1 (t1.1.2.2.2.1).length ch1.2.1 (RdS (Ty.int .u8) ch1.1 t1.1.2.2.2.1), .sl ch1.2.2.1 (t1.1.2.2.2.2).length ch1.2.2.2 (RdS Y83 ch1.2.2.1 t1.1.2.2.2.2), .one (.bool t1.2.1), .one (.bool true)]) rfl rfl ?_; clear S a; intro a S
 obtain ⟨t2, et2, h2⟩ := bind_of h1; clear h1
 refine s_callP S (fun (ch : W21) => ((.agg [.sl ch.1.1 ((ST37.un t2).1).length ch.1.2 (RdS Y71 ch.1.1 ((ST37.un t2).1)), .sl ch.2.1.1 ((ST37.un t2).2.1).length ch.2.1.2 (RdS Y122 ch.2.1.1 ((ST37.un t2).2.1)), .sl ch.2.2.1.1 ((ST37.un t2).2.2.1).length ch.2.2.1.2 (RdS (Ty.arr .u8 20) ch.2.2.1.1 ((ST37.un t2).2.2.1)), .sl ch.2.2.2.1.1 ((ST37.un t2).2.2.2.1).length ch.2.2.2.1.2 (RdS Y133 ch.2.2.2.1.1 ((ST37.un t2).2.2.2.1)), .one (.int .i64 ((ST37.un t2).2.2.2.2.1)), .sl ch.2.2.2.2.2.1.1 ((ST37.un t2).2.2.2.2.2.1).length ch.2.2.2.2.2.1.2 (RdS Y100 ch.2.2.2.2.2.1.1 ((ST37.un t2).2.2.2.2.2.1)), .one (.bool ((ST37.un t2).2.2.2.2.2.2.1)), .sl ch.2.2.2.2.2.2.2.1 ((ST37.un t2).2.2.2.2.2.2.2).length ch.2.2.2.2.2.2.2.2 (SR37 ch.2.2.2.2.2.2.2.1 ((ST37.un t2).2.2.2.2.2.2.2))]) : D)) N74 rfl rfl (smithyref14_State_With.ok k x1 (t1.1, t1.2.1, true) ((ch_0_0.1.1, ch_0_0.1.2), (ch_0_0.2.1.1, ch_0_0.2.1.2), (ch_0_0.2.2.1.1, ch_0_0.2.2.1.2), (ch_0_0.2.2.2.1.1, ch_0_0.2.2.2.1.2), (), (ch_0_0.2.2.2.2.2.1.1, ch_0_0.2.2.2.2.2.1.2), (), (ch_0_0.2.2.2.2.2.2.2.1, ch_0_0.2.2.2.2.2.2.2.2)) ch1.1 ch1.2.1 ch1.2.2.1 ch1.2.2.2 t2 et2 _ _) ?_; clear S a w; intro ch2 m le1 a w S
 refine s_store S rfl rfl rfl (s' := [.sl ch2.1.1 ((ST37.un t2).1).length ch2.1.2 (RdS Y71 ch2.1.1 ((ST37.un t2).1)), .sl ch2.2.1.1 ((ST37.un t2).2.1).length ch2.2.1.2 (RdS Y122 ch2.2.1.1 ((ST37.un t2).2.1)), .sl ch2.2.2.1.1 ((ST37.un t2).2.2.1).length ch2.2.2.1.2 (RdS (Ty.arr .u8 20) ch2.2.2.1.1 ((ST37.un t2).2.2.1)), .sl ch2.2.2.2.1.1 ((ST37.un t2).2.2.2.1).length ch2.2.2.2.1.2 (RdS Y133 ch2.2.2.2.1.1 ((ST37.un t2).2.2.2.1)), .one (.int .i64 ((ST37.un t2).2.2.2.2.1)), .sl ch2.2.2.2.2.2.1.1 ((ST37.un t2).2.2.2.2.2.1).length ch2.2.2.2.2.2.1.2 (RdS Y100 ch2.2.2.2.2.2.1.1 ((ST37.un t2).2.2.2.2.2.1)), .one (.bool ((ST37.un t2).2.2.2.2.2.2.1)), .sl ch2.2.2.2.2.2.2.2.1 ((ST37.un t2).2.2.2.2.2.2.2).length ch2.2.2.2.2.2.2.2.2 (SR37 ch2.2.2.2.2.2.2.2.1 ((ST37.un t2).2.2.2.2.2.2.2))]) (.there .here) T37 rfl rfl ?_; clear S w; intro w S
 refine c_end ?_
 refine wp_ret ?_
 obtain rfl := Option.some.inj h2
 exact b_ret1 (d := (.agg [.sl ch2.1.1 ((ST37.un t2).1).length ch2.1.2 (RdS Y71 ch2.1.1 ((ST37.un t2).1)), .sl ch2.2.1.1 ((ST37.un t2).2.1).length ch2.2.1.2 (RdS Y122 ch2.2.1.1 ((ST37.un t2).2.1)), .sl ch2.2.2.1.1 ((ST37.un t2).2.2.1).length ch2.2.2.1.2 (RdS (Ty.arr .u8 20) ch2.2.2.1.1 ((ST37.un t2).2.2.1)), .sl ch2.2.2.2.1.1 ((ST37.un t2).2.2.2.1).length ch2.2.2.2.1.2 (RdS Y133 ch2.2.2.2.1.1 ((ST37.un t2).2.2.2.1)), .one (.int .i64 ((ST37.un t2).2.2.2.2.1)), .sl ch2.2.2.2.2.2.1.1 ((ST37.un t2).2.2.2.2.2.1).length ch2.2.2.2.2.2.1.2 (RdS Y100 ch2.2.2.2.2.2.1.1 ((ST37.un t2).2.2.2.2.2.1)), .one (.bool ((ST37.un t2).2.2.2.2.2.2.1)), .sl ch2.2.2.2.2.2.2.2.1 ((ST37.un t2).2.2.2.2.2.2.2).length ch2.2.2.2.2.2.2.2.2 (SR37 ch2.2.2.2.2.2.2.2.1 ((ST37.un t2).2.2.2.2.2.2.2))])) S rfl (resD_cell rfl (.there .here) T37 rfl rfl) fun ok => S.retX (Hx := []) hb _ _ (((ch2.1.1, ch2.1.2), (ch2.2.1.1, ch2.2.1.2), (ch2.2.2.1.1, ch2.2.2.1.2), (ch2.2.2.2.1.1, ch2.2.2.2.1.2), (), (ch2.2.2.2.2.2.1.1, ch2.2.2.2.2.2.1.2), (), (ch2.2.2.2.2.2.2.2.1, ch2.2.2.2.2.2.2.2.2)) : W21) .nil ok
abbrev state_State_Mark_0nil.Ty : Type := Option Int
def state_State_Mark_0nil.Ctr (s : state_State_Mark_0nil.Ty) : Prop := ∀ (r : Int) (h0 : s = some r) (mi : Mem) (w0 : World), okL mi [(.v (.pointer none))] → Pre mi [] w0 → Calls Tryz.prog 13 (([(.v (.pointer none))] : List D).map D.val).toArray w0 (RetX mi [] (fun (ch : Unit) => ((.v (.int .i64 r)) : D)) (fun (ch : Unit) => []) w0)
def state_State_Mark_0nil.f : Option Int := some 0
theorem state_State_Mark_0nil.ok : state_State_Mark_0nil.Ctr (state_State_Mark_0nil.f) := by
 intro r h0 mi w0 ok hm
 delta state_State_Mark_0nil.f at h0
 refine c_enterX (n := 10) [(.v (.pointer none))] (l := [(0, (.v (.pointer none)))]) Tryz.func13 rfl rfl rfl rfl ok hm ?_
 clear ok hm
 intro b0 hb a S
 refine c_region ?_
 refine s_assign S rfl rfl ?_; clear S a; intro a S
 refine c_end ?_
 refine wp_seq ?_
 refine c_region ?_
 refine s_move S rfl rfl ?_; clear S a; intro a S
 refine s_eqp S (b := true) rfl rfl Tryz.underlying26 rfl rfl ?_; clear S a; intro a S
 refine c_end ?_
 refine c_condT S rfl rfl ?_
 refine c_region ?_
 refine s_assign S rfl rfl ?_; clear S a; intro a S
 refine c_end ?_
 refine wp_ret ?_
 refine x_thenR ?_
 obtain rfl := Option.some.inj h0
 exact b_ret1 (d := (.v (.int .i64 0))) S rfl rfl fun ok => S.retX (Hx := []) hb _ _ (() : Unit) .nil ok
abbrev state_State_Back_0nil.Ty : Type := Int → Option Unit
def state_State_Back_0nil.Ctr (s : state_State_Back_0nil.Ty) : Prop := ∀ (x1 : Int) (r : Unit) (h0 : s x1 = some r) (mi : Mem) (w0 : World), okL mi [(.v (.pointer none)), (.v (.int .i64 x1))] → Pre mi [] w0 → Calls Tryz.prog 14 (([(.v (.pointer none)), (.v (.int .i64 x1))] : List D).map D.val).toArray w0 (RetX mi [] (fun (ch : Unit) => ((.tup []) : D)) (fun (ch : Unit) => []) w0)
def state_State_Back_0nil.b1 (x1 : Int) (t1 : Int) (rec1 : Option Unit) : Option Unit := if (decide (x1 < t1)) = true then none else (some ())
def state_State_Back_0nil.l1 (x1 : Int) (t1 : Int) : Nat → Option Unit
  | 0 => none
  | q + 1 => state_State_Back_0nil.b1 x1 t1 (state_State_Back_0nil.l1 x1 t1 q)
def state_State_Back_0nil.f (k : Nat) (x1 : Int) : Option Unit := if (decide (x1 < 0)) = true then (some ()) else ((state_State_Mark_0nil.f).bind fun t1 => (state_State_Back_0nil.l1 x1 t1 k))
theorem state_State_Back_0nil.ok (k : Nat) : state_State_Back_0nil.Ctr (state_State_Back_0nil.f k) := by
 intro x1 r h0 mi w0 ok hm
 delta state_State_Back_0nil.f at h0
 refine c_enterX (n := 33) [(.v (.pointer none)), (.v (.int .i64 x1))] (l := [(0, (.v (.pointer none))), (1, (.v (.int .i64 x1)))]) Tryz.func14 rfl rfl rfl rfl ok hm ?_
 clear ok hm
 intro b0 hb a S
 refine wp_seq ?_
 refine c_region ?_
 refine s_move S rfl rfl ?_; clear S a; intro a S
 refine s_bin S rfl rfl rfl rfl ?_; clear S a; intro a S
 refine c_end ?_
 rcases ite_of h0 with ⟨c1, h1⟩ | ⟨c1, h1⟩ <;> clear h0
 ·refine c_condT S rfl c1 ?_
  refine wp_ret ?_
  refine x_thenR ?_
  obtain rfl := Option.some.inj h1
  exact b_ret0 S rfl (S.retX (Hx := []) hb _ _ (() : Unit) .nil trivial)
 ·refine c_condF S rfl c1 ?_
  refine wp_skip ?_
  refine x_thenN ?_
  refine c_region ?_
  refine s_move S rfl rfl ?_; clear S a; intro a S
  obtain ⟨t1, et1, h2⟩ := bind_of h1; clear h1
  refine s_callP S (fun (ch : Unit) => ((.v (.int .i64 t1)) : D)) N13 rfl rfl (state_State_Mark_0nil.ok t1 et1 _ _) ?_; clear S a; intro ch1 m le1 a w S
  refine s_assign S rfl rfl ?_; clear S a; intro a S
  refine c_end ?_
  refine wp_block ?_
  refine c_loop (fun q1 a w => ∃ (m : Mem), St 33 m b0 [(4, (.v (.int .i64 t1))), (0, (.v (.pointer none))), (1, (.v (.int .i64 x1)))] [] a w ∧ state_State_Back_0nil.l1 x1 t1 q1 = some r) ?_ ?_ (k := k) ⟨_, (S.sub (subR rfl) .nil), h2⟩
  ·rintro a w ⟨m, S, h0⟩
   exact (nomatch (show (none : Option Unit) = some r from h0))
  ·clear S h2
   rintro q1 a w ⟨m, S, h0⟩
   replace h0 : state_State_Back_0nil.b1 x1 t1 (state_State_Back_0nil.l1 x1 t1 q1) = some r := h0
   delta state_State_Back_0nil.b1 at h0
   refine wp_seq ?_
   refine c_region ?_
   refine s_move S rfl rfl ?_; clear S a; intro a S
   refine s_move S rfl rfl ?_; clear S a; intro a S
   refine s_bin S rfl rfl rfl rfl ?_; clear S a; intro a S
   refine c_end ?_
   rcases ite_of h0 with ⟨c2, h1⟩ | ⟨c2, h1⟩ <;> clear h0
   ·refine c_condT S rfl c2 ?_
    refine wp_skip ?_
    refine x_thenN ?_
    refine wp_seq ?_
    refine wp_block ?_
    refine c_region ?_
    refine s_move S rfl rfl ?_; clear S a; intro a S
    exact (nomatch h1)
   ·refine c_condF S rfl c2 ?_
    refine wp_exit ?_
    refine x_thenX ?_
    refine x_thenX ?_
    refine x_blockX ?_
    refine b_end ?_
    obtain rfl := Option.some.inj h1
    exact b_ret0 S rfl (S.retX (Hx := []) hb _ _ (() : Unit) .nil trivial)
abbrev smithyref14_State_Back.Ty : Type := ST37 → Int → Option ST37
def smithyref14_State_Back.Ctr (s : smithyref14_State_Back.Ty) : Prop := ∀ (x1 : ST37) (x2 : Int) (ch_0_0 : (Option Addr × Nat) × (Option Addr × Nat) × (Option Addr × Nat) × (Option Addr × Nat) × Unit × (Option Addr × Nat) × Unit × (Option Addr × Nat)) (r : ST37) (h0 : s x1 x2 = some r) (mi : Mem) (w0 : World), okL mi [(.agg [.sl ch_0_0.1.1 ((ST37.un x1).1).length ch_0_0.1.2 (RdS Y71 ch_0_0.1.1 ((ST37.un x1).1)), .sl ch_0_0.2.1.1 ((ST37.un x1).2.1).length ch_0_0.2.1.2 (RdS Y122 ch_0_0.2.1.1 ((ST37.un x1).2.1)), .sl ch_0_0.2.2.1.1 ((ST37.un x1).2.2.1).length ch_0_0.2.2.1.2 (RdS (Ty.arr .u8 20) ch_0_0.2.2.1.1 ((ST37.un x1).2.2.1)), .sl ch_0_0.2.2.2.1.1 ((ST37.un x1).2.2.2.1).length ch_0_0.2.2.2.1.2 (RdS Y133 ch_0_0.2.2.2.1.1 ((ST37.un x1).2.2.2.1)), .one (.int .i64 ((ST37.un x1).2.2.2.2.1)), .sl ch_0_0.2.2.2.2.2.1.1 ((ST37.un x1).2.2.2.2.2.1).length ch_0_0.2.2.2.2.2.1.2 (RdS Y100 ch_0_0.2.2.2.2.2.1.1 ((ST37.un x1).2.2.2.2.2.1)), .one (.bool ((ST37.un x1).2.2.2.2.2.2.1)), .sl ch_0_0.2.2.2.2.2.2.2.1 ((ST37.un x1).2.2.2.2.2.2.2).length ch_0_0.2.2.2.2.2.2.2.2 (SR37 ch_0_0.2.2.2.2.2.2.2.1 ((ST37.un x1).2.2.2.2.2.2.2))]), (.v (.int .i64 x2))] → Pre mi [] w0 → Calls Tryz.prog 52 (([(.agg [.sl ch_0_0.1.1 ((ST37.un x1).1).length ch_0_0.1.2 (RdS Y71 ch_0_0.1.1 ((ST37.un x1).1)), .sl ch_0_0.2.1.1 ((ST37.un x1).2.1).length ch_0_0.2.1.2 (RdS Y122 ch_0_0.2.1.1 ((ST37.un x1).2.1)), .sl ch_0_0.2.2.1.1 ((ST37.un x1).2.2.1).length ch_0_0.2.2.1.2 (RdS (Ty.arr .u8 20) ch_0_0.2.2.1.1 ((ST37.un x1).2.2.1)), .sl ch_0_0.2.2.2.1.1 ((ST37.un x1).2.2.2.1).length ch_0_0.2.2.2.1.2 (RdS Y133 ch_0_0.2.2.2.1.1 ((ST37.un x1).2.2.2.1)), .one (.int .i64 ((ST37.un x1).2.2.2.2.1)), .sl ch_0_0.2.2.2.2.2.1.1 ((ST37.un x1).2.2.2.2.2.1).length ch_0_0.2.2.2.2.2.1.2 (RdS Y100 ch_0_0.2.2.2.2.2.1.1 ((ST37.un x1).2.2.2.2.2.1)), .one (.bool ((ST37.un x1).2.2.2.2.2.2.1)), .sl ch_0_0.2.2.2.2.2.2.2.1 ((ST37.un x1).2.2.2.2.2.2.2).length ch_0_0.2.2.2.2.2.2.2.2 (SR37 ch_0_0.2.2.2.2.2.2.2.1 ((ST37.un x1).2.2.2.2.2.2.2))]), (.v (.int .i64 x2))] : List D).map D.val).toArray w0 (RetX mi [] (fun (ch : W21) => ((.agg [.sl ch.1.1 ((ST37.un r).1).length ch.1.2 (RdS Y71 ch.1.1 ((ST37.un r).1)), .sl ch.2.1.1 ((ST37.un r).2.1).length ch.2.1.2 (RdS Y122 ch.2.1.1 ((ST37.un r).2.1)), .sl ch.2.2.1.1 ((ST37.un r).2.2.1).length ch.2.2.1.2 (RdS (Ty.arr .u8 20) ch.2.2.1.1 ((ST37.un r).2.2.1)), .sl ch.2.2.2.1.1 ((ST37.un r).2.2.2.1).length ch.2.2.2.1.2 (RdS Y133 ch.2.2.2.1.1 ((ST37.un r).2.2.2.1)), .one (.int .i64 ((ST37.un r).2.2.2.2.1)), .sl ch.2.2.2.2.2.1.1 ((ST37.un r).2.2.2.2.2.1).length ch.2.2.2.2.2.1.2 (RdS Y100 ch.2.2.2.2.2.1.1 ((ST37.un r).2.2.2.2.2.1)), .one (.bool ((ST37.un r).2.2.2.2.2.2.1)), .sl ch.2.2.2.2.2.2.2.1 ((ST37.un r).2.2.2.2.2.2.2).length ch.2.2.2.2.2.2.2.2 (SR37 ch.2.2.2.2.2.2.2.1 ((ST37.un r).2.2.2.2.2.2.2))]) : D)) (fun (ch : W21) => []) w0)
def smithyref14_State_Back.j1 (x1 : ST37) (x2 : Int) (y1 : Bool) : Option ST37 := if y1 = true then (some x1) else (if (0 : Int) ≤ x2 ∧ x2 < (((ST37.un x1).2.2.2.2.2.2.2).length : Int) then (if (0 : Int) ≤ 0 ∧ (0 : Int) ≤ x2 ∧ x2 ≤ (((ST37.un x1).2.2.2.2.2.2.2).length : Int) then (if ((([] : List ST37)).length + (((ST37.un x1).2.2.2.2.2.2.2).take (Int.toNat x2)).length) * 160 ≤ 140737488355328 then (some (ST37.mk ((ST37.un (gt ((ST37.un x1).2.2.2.2.2.2.2) x2)).1, (ST37.un (gt ((ST37.un x1).2.2.2.2.2.2.2) x2)).2.1, (ST37.un (gt ((ST37.un x1).2.2.2.2.2.2.2) x2)).2.2.1, (ST37.un (gt ((ST37.un x1).2.2.2.2.2.2.2) x2)).2.2.2.1, (ST37.un (gt ((ST37.un x1).2.2.2.2.2.2.2) x2)).2.2.2.2.1, (ST37.un (gt ((ST37.un x1).2.2.2.2.2.2.2) x2)).2.2.2.2.2.1, (ST37.un (gt ((ST37.un x1).2.2.2.2.2.2.2) x2)).2.2.2.2.2.2.1, ([] : List ST37) ++ (((ST37.un x1).2.2.2.2.2.2.2).take (Int.toNat x2))))) else none) else none) else none)
def smithyref14_State_Back.f (x1 : ST37) (x2 : Int) : Option ST37 := if (decide (x2 < 0)) = true then (smithyref14_State_Back.j1 x1 x2 true) else (smithyref14_State_Back.j1 x1 x2 (decide ((((ST37.un x1).2.2.2.2.2.2.2).length : Int) ≤ x2)))
theorem smithyref14_State_Back.ok : smithyref14_State_Back.Ctr (smithyref14_State_Back.f) := by
 intro x1 x2 ch_0_0 r h0 mi w0 ok hm
 delta smithyref14_State_Back.f at h0
 refine c_enterX (n := 32) [(.agg [.sl ch_0_0.1.1 ((ST37.un x1).1).length ch_0_0.1.2 (RdS Y71 ch_0_0.1.1 ((ST37.un x1).1)), .sl ch_0_0.2.1.1 ((ST37.un x1).2.1).length ch_0_0.2.1.2 (RdS Y122 ch_0_0.2.1.1 ((ST37.un x1).2.1)), .sl ch_0_0.2.2.1.1 ((ST37.un x1).2.2.1).length ch_0_0.2.2.1.2 (RdS (Ty.arr .u8 20) ch_0_0.2.2.1.1 ((ST37.un x1).2.2.1)), .sl ch_0_0.2.2.2.1.1 ((ST37.un x1).2.2.2.1).length ch_0_0.2.2.2.1.2 (RdS Y133 ch_0_0.2.2.2.1.1 ((ST37.un x1).2.2.2.1)), .one (.int .i64 ((ST37.un x1).2.2.2.2.1)), .sl ch_0_0.2.2.2.2.2.1.1 ((ST37.un x1).2.2.2.2.2.1).length ch_0_0.2.2.2.2.2.1.2 (RdS Y100 ch_0_0.2.2.2.2.2.1.1 ((ST37.un x1).2.2.2.2.2.1)), .one (.bool ((ST37.un x1).2.2.2.2.2.2.1)), .sl ch_0_0.2.2.2.2.2.2.2.1 ((ST37.un x1).2.2.2.2.2.2.2).length ch_0_0.2.2.2.2.2.2.2.2 (SR37 ch_0_0.2.2.2.2.2.2.2.1 ((ST37.un x1).2.2.2.2.2.2.2))]), (.v (.int .i64 x2))] (l := [(0, (.agg [.sl ch_0_0.1.1 ((ST37.un x1).1).length ch_0_0.1.2 (RdS Y71 ch_0_0.1.1 ((ST37.un x1).1)), .sl ch_0_0.2.1.1 ((ST37.un x1).2.1).length ch_0_0.2.1.2 (RdS Y122 ch_0_0.2.1.1 ((ST37.un x1).2.1)), .sl ch_0_0.2.2.1.1 ((ST37.un x1).2.2.1).length ch_0_0.2.2.1.2 (RdS (Ty.arr .u8 20) ch_0_0.2.2.1.1 ((ST37.un x1).2.2.1)), .sl ch_0_0.2.2.2.1.1 ((ST37.un x1).2.2.2.1).length ch_0_0.2.2.2.1.2 (RdS Y133 ch_0_0.2.2.2.1.1 ((ST37.un x1).2.2.2.1)), .one (.int .i64 ((ST37.un x1).2.2.2.2.1)), .sl ch_0_0.2.2.2.2.2.1.1 ((ST37.un x1).2.2.2.2.2.1).length ch_0_0.2.2.2.2.2.1.2 (RdS Y100 ch_0_0.2.2.2.2.2.1.1 ((ST37.un x1).2.2.2.2.2.1)), .one (.bool ((ST37.un x1).2.2.2.2.2.2.1)), .sl ch_0_0.2.2.2.2.2.2.2.1 ((ST37.un x1).2.2.2.2.2.2.2).length ch_0_0.2.2.2.2.2.2.2.2 (SR37 ch_0_0.2.2.2.2.2.2.2.1 ((ST37.un x1).2.2.2.2.2.2.2))])), (1, (.v (.int .i64 x2)))]) Tryz.func52 rfl rfl rfl rfl ok hm ?_
 clear ok hm
 intro b0 hb a S
 refine c_region ?_
 refine s_box S rfl rfl rfl ?_; clear S a; intro g1 a w S
 refine s_alloc S Z37 rfl ⟨rfl, rfl, rfl, rfl, rfl, rfl, rfl, rfl, trivial⟩ rfl ?_; clear S a w; intro g2 a w S
 refine c_end ?_
 refine wp_seq ?_
 refine wp_seq_k ?_
 intro K1 hK1
 have j1 : ∀ (m : Mem) (y1 : Bool) (g3 : Nat) (g4 : Nat) (a : Act) (w : World), St 32 m b0 [(15, (.v (.bool y1))), (4, (.v (.pointer (some ⟨g3, 0, none⟩)))), (2, (.v (.pointer (some ⟨g4, 0, none⟩)))), (1, (.v (.int .i64 x2)))] [Res.cells g3 37 [.one (.slice none 0 0), .one (.slice none 0 0), .one (.slice none 0 0), .one (.slice none 0 0), .one (.int .i64 0), .one (.slice none 0 0), .one (.bool false), .one (.slice none 0 0)], Res.cells g4 37 [.sl ch_0_0.1.1 ((ST37.un x1).1).length ch_0_0.1.2 (RdS Y71 ch_0_0.1.1 ((ST37.un x1).1)), .sl ch_0_0.2.1.1 ((ST37.un x1).2.1).length ch_0_0.2.1.2 (RdS Y122 ch_0_0.2.1.1 ((ST37.un x1).2.1)), .sl ch_0_0.2.2.1.1 ((ST37.un x1).2.2.1).length ch_0_0.2.2.1.2 (RdS (Ty.arr .u8 20) ch_0_0.2.2.1.1 ((ST37.un x1).2.2.1)), .sl ch_0_0.2.2.2.1.1 ((ST37.un x1).2.2.2.1).length ch_0_0.2.2.2.1.2 (RdS Y133 ch_0_0.2.2.2.1.1 ((ST37.un x1).2.2.2.1)), .one (.int .i64 ((ST37.un x1).2.2.2.2.1)), .sl ch_0_0.2.2.2.2.2.1.1 ((ST37.un x1).2.2.2.2.2.1).length ch_0_0.2.2.2.2.2.1.2 (RdS Y100 ch_0_0.2.2.2.2.2.1.1 ((ST37.un x1).2.2.2.2.2.1)), .one (.bool ((ST37.un x1).2.2.2.2.2.2.1)), .sl ch_0_0.2.2.2.2.2.2.2.1 ((ST37.un x1).2.2.2.2.2.2.2).length ch_0_0.2.2.2.2.2.2.2.2 (SR37 ch_0_0.2.2.2.2.2.2.2.1 ((ST37.un x1).2.2.2.2.2.2.2))]] a w → smithyref14_State_Back.j1 x1 x2 y1 = some r → K1 a w := by
  intro m y1 g3 g4 a w S h0
  delta smithyref14_State_Back.j1 at h0
  refine hK1 a w ?_
  rcases ite_of h0 with ⟨c1, h1⟩ | ⟨c1, h1⟩ <;> clear h0
  ·refine c_condT S rfl c1 ?_
   refine c_region ?_
   refine s_loada S rfl (.there .here) T37 (s' := [.sl ch_0_0.1.1 ((ST37.un x1).1).length ch_0_0.1.2 (RdS Y71 ch_0_0.1.1 ((ST37.un x1).1)), .sl ch_0_0.2.1.1 ((ST37.un x1).2.1).length ch_0_0.2.1.2 (RdS Y122 ch_0_0.2.1.1 ((ST37.un x1).2.1)), .sl ch_0_0.2.2.1.1 ((ST37.un x1).2.2.1).length ch_0_0.2.2.1.2 (RdS (Ty.arr .u8 20) ch_0_0.2.2.1.1 ((ST37.un x1).2.2.1)), .sl ch_0_0.2.2.2.1.1 ((ST37.un x1).2.2.2.1).length ch_0_0.2.2.2.1.2 (RdS Y133 ch_0_0.2.2.2.1.1 ((ST37.un x1).2.2.2.1)), .one (.int .i64 ((ST37.un x1).2.2.2.2.1)), .sl ch_0_0.2.2.2.2.2.1.1 ((ST37.un x1).2.2.2.2.2.1).length ch_0_0.2.2.2.2.2.1.2 (RdS Y100 ch_0_0.2.2.2.2.2.1.1 ((ST37.un x1).2.2.2.2.2.1)), .one (.bool ((ST37.un x1).2.2.2.2.2.2.1)), .sl ch_0_0.2.2.2.2.2.2.2.1 ((ST37.un x1).2.2.2.2.2.2.2).length ch_0_0.2.2.2.2.2.2.2.2 (SR37 ch_0_0.2.2.2.2.2.2.2.1 ((ST37.un x1).2.2.2.2.2.2.2))]) rfl rfl ?_; clear S a; intro a S
   refine s_store S rfl rfl rfl (s' := [.sl ch_0_0.1.1 ((ST37.un x1).1).length ch_0_0.1.2 (RdS Y71 ch_0_0.1.1 ((ST37.un x1).1)), .sl ch_0_0.2.1.1 ((ST37.un x1).2.1).length ch_0_0.2.1.2 (RdS Y122 ch_0_0.2.1.1 ((ST37.un x1).2.1)), .sl ch_0_0.2.2.1.1 ((ST37.un x1).2.2.1).length ch_0_0.2.2.1.2 (RdS (Ty.arr .u8 20) ch_0_0.2.2.1.1 ((ST37.un x1).2.2.1)), .sl ch_0_0.2.2.2.1.1 ((ST37.un x1).2.2.2.1).length ch_0_0.2.2.2.1.2 (RdS Y133 ch_0_0.2.2.2.1.1 ((ST37.un x1).2.2.2.1)), .one (.int .i64 ((ST37.un x1).2.2.2.2.1)), .sl ch_0_0.2.2.2.2.2.1.1 ((ST37.un x1).2.2.2.2.2.1).length ch_0_0.2.2.2.2.2.1.2 (RdS Y100 ch_0_0.2.2.2.2.2.1.1 ((ST37.un x1).2.2.2.2.2.1)), .one (.bool ((ST37.un x1).2.2.2.2.2.2.1)), .sl ch_0_0.2.2.2.2.2.2.2.1 ((ST37.un x1).2.2.2.2.2.2.2).length ch_0_0.2.2.2.2.2.2.2.2 (SR37 ch_0_0.2.2.2.2.2.2.2.1 ((ST37.un x1).2.2.2.2.2.2.2))]) .here T37 rfl rfl ?_; clear S w; intro w S
   refine c_end ?_
   refine wp_ret ?_
   refine x_thenR ?_
   obtain rfl := Option.some.inj h1
   exact b_ret1 (d := (.agg [.sl ch_0_0.1.1 ((ST37.un x1).1).length ch_0_0.1.2 (RdS Y71 ch_0_0.1.1 ((ST37.un x1).1)), .sl ch_0_0.2.1.1 ((ST37.un x1).2.1).length ch_0_0.2.1.2 (RdS Y122 ch_0_0.2.1.1 ((ST37.un x1).2.1)), .sl ch_0_0.2.2.1.1 ((ST37.un x1).2.2.1).length ch_0_0.2.2.1.2 (RdS (Ty.arr .u8 20) ch_0_0.2.2.1.1 ((ST37.un x1).2.2.1)), .sl ch_0_0.2.2.2.1.1 ((ST37.un x1).2.2.2.1).length ch_0_0.2.2.2.1.2 (RdS Y133 ch_0_0.2.2.2.1.1 ((ST37.un x1).2.2.2.1)), .one (.int .i64 ((ST37.un x1).2.2.2.2.1)), .sl ch_0_0.2.2.2.2.2.1.1 ((ST37.un x1).2.2.2.2.2.1).length ch_0_0.2.2.2.2.2.1.2 (RdS Y100 ch_0_0.2.2.2.2.2.1.1 ((ST37.un x1).2.2.2.2.2.1)), .one (.bool ((ST37.un x1).2.2.2.2.2.2.1)), .sl ch_0_0.2.2.2.2.2.2.2.1 ((ST37.un x1).2.2.2.2.2.2.2).length ch_0_0.2.2.2.2.2.2.2.2 (SR37 ch_0_0.2.2.2.2.2.2.2.1 ((ST37.un x1).2.2.2.2.2.2.2))])) S rfl (resD_cell rfl .here T37 rfl rfl) fun ok => S.retX (Hx := []) hb _ _ (((ch_0_0.1.1, ch_0_0.1.2), (ch_0_0.2.1.1, ch_0_0.2.1.2), (ch_0_0.2.2.1.1, ch_0_0.2.2.1.2), (ch_0_0.2.2.2.1.1, ch_0_0.2.2.2.1.2), (), (ch_0_0.2.2.2.2.2.1.1, ch_0_0.2.2.2.2.2.1.2), (), (ch_0_0.2.2.2.2.2.2.2.1, ch_0_0.2.2.2.2.2.2.2.2)) : W21) .nil ok
  ·refine c_condF S rfl c1 ?_
   refine wp_skip ?_
   refine x_thenN ?_
   refine c_region ?_
   refine s_fieldAddr S rfl I37_7 T35 (by decide) rfl rfl ?_; clear S a; intro a S
   refine s_loadSl S rfl (.there .here) T35 (A := ch_0_0.2.2.2.2.2.2.2.1) (len := ((ST37.un x1).2.2.2.2.2.2.2).length) (cap := ch_0_0.2.2.2.2.2.2.2.2) rfl rfl ?_; clear S a; intro a S
   refine s_move S rfl rfl ?_; clear S a; intro a S
   obtain ⟨c2, h2⟩ := chk_of h1; clear h1
   simp only [SE37] at S
   refine s_iaddrS S rfl rfl rfl Tryz.underlying35 T37 c2.1 c2.2 rfl ?_; clear S a; intro p1 a S
   simp only [← SE37] at S
   refine s_ldA S (fun (c : (Option Addr × Nat) × (Option Addr × Nat) × (Option Addr × Nat) × (Option Addr × Nat) × Unit × (Option Addr × Nat) × Unit × (Option Addr × Nat)) => [.sl c.1.1 ((ST37.un (gt ((ST37.un x1).2.2.2.2.2.2.2) x2)).1).length c.1.2 (RdS Y71 c.1.1 ((ST37.un (gt ((ST37.un x1).2.2.2.2.2.2.2) x2)).1)), .sl c.2.1.1 ((ST37.un (gt ((ST37.un x1).2.2.2.2.2.2.2) x2)).2.1).length c.2.1.2 (RdS Y122 c.2.1.1 ((ST37.un (gt ((ST37.un x1).2.2.2.2.2.2.2) x2)).2.1)), .sl c.2.2.1.1 ((ST37.un (gt ((ST37.un x1).2.2.2.2.2.2.2) x2)).2.2.1).length c.2.2.1.2 (RdS (Ty.arr .u8 20) c.2.2.1.1 ((ST37.un (gt ((ST37.un x1).2.2.2.2.2.2.2) x2)).2.2.1)), .sl c.2.2.2.1.1 ((ST37.un (gt ((ST37.un x1).2.2.2.2.2.2.2) x2)).2.2.2.1).length c.2.2.2.1.2 (RdS Y133 c.2.2.2.1.1 ((ST37.un (gt ((ST37.un x1).2.2.2.2.2.2.2) x2)).2.2.2.1)), .one (.int .i64 ((ST37.un (gt ((ST37.un x1).2.2.2.2.2.2.2) x2)).2.2.2.2.1)), .sl c.2.2.2.2.2.1.1 ((ST37.un (gt ((ST37.un x1).2.2.2.2.2.2.2) x2)).2.2.2.2.2.1).length c.2.2.2.2.2.1.2 (RdS Y100 c.2.2.2.2.2.1.1 ((ST37.un (gt ((ST37.un x1).2.2.2.2.2.2.2) x2)).2.2.2.2.2.1)), .one (.bool ((ST37.un (gt ((ST37.un x1).2.2.2.2.2.2.2) x2)).2.2.2.2.2.2.1)), .sl c.2.2.2.2.2.2.2.1 ((ST37.un (gt ((ST37.un x1).2.2.2.2.2.2.2) x2)).2.2.2.2.2.2.2).length c.2.2.2.2.2.2.2.2 (SR37 c.2.2.2.2.2.2.2.1 ((ST37.un (gt ((ST37.un x1).2.2.2.2.2.2.2) x2)).2.2.2.2.2.2.2))]) rfl T37 (fun _ => rfl) rfl ?_; clear S a; intro ch1 a S
   refine s_alloc S Z37 rfl ⟨rfl, rfl, rfl, rfl, rfl, rfl, rfl, rfl, trivial⟩ rfl ?_; clear S a w; intro g5 a w S
   refine s_store S rfl rfl rfl (s' := [.sl ch1.1.1 ((ST37.un (gt ((ST37.un x1).2.2.2.2.2.2.2) x2)).1).length ch1.1.2 (RdS Y71 ch1.1.1 ((ST37.un (gt ((ST37.un x1).2.2.2.2.2.2.2) x2)).1)), .sl ch1.2.1.1 ((ST37.un (gt ((ST37.un x1).2.2.2.2.2.2.2) x2)).2.1).length ch1.2.1.2 (RdS Y122 ch1.2.1.1 ((ST37.un (gt ((ST37.un x1).2.2.2.2.2.2.2) x2)).2.1)), .sl ch1.2.2.1.1 ((ST37.un (gt ((ST37.un x1).2.2.2.2.2.2.2) x2)).2.2.1).length ch1.2.2.1.2 (RdS (Ty.arr .u8 20) ch1.2.2.1.1 ((ST37.un (gt ((ST37.un x1).2.2.2.2.2.2.2) x2)).2.2.1)), .sl ch1.2.2.2.1.1 ((ST37.un (gt ((ST37.un x1).2.2.2.2.2.2.2) x2)).2.2.2.1).length ch1.2.2.2.1.2 (RdS Y133 ch1.2.2.2.1.1 ((ST37.un (gt ((ST37.un x1).2.2.2.2.2.2.2) x2)).2.2.2.1)), .one (.int .i64 ((ST37.un (gt ((ST37.un x1).2.2.2.2.2.2.2) x2)).2.2.2.2.1)), .sl ch1.2.2.2.2.2.1.1 ((ST37.un (gt ((ST37.un x1).2.2.2.2.2.2.2) x2)).2.2.2.2.2.1).length ch1.2.2.2.2.2.1.2 (RdS Y100 ch1.2.2.2.2.2.1.1 ((ST37.un (gt ((ST37.un x1).2.2.2.2.2.2.2) x2)).2.2.2.2.2.1)), .one (.bool ((ST37.un (gt ((ST37.un x1).2.2.2.2.2.2.2) x2)).2.2.2.2.2.2.1)), .sl ch1.2.2.2.2.2.2.2.1 ((ST37.un (gt ((ST37.un x1).2.2.2.2.2.2.2) x2)).2.2.2.2.2.2.2).length ch1.2.2.2.2.2.2.2.2 (SR37 ch1.2.2.2.2.2.2.2.1 ((ST37.un (gt ((ST37.un x1).2.2.2.2.2.2.2) x2)).2.2.2.2.2.2.2))]) .here T37 rfl rfl ?_; clear S w; intro w S
   refine c_end ?_
   refine c_region ?_
   refine s_bldSl S (ty' := SY37) (ds := []) (z := (ST37.mk (([] : List L71), ([] : List (L71 × Bool × Bool)), ([] : List (List Int)), ([] : List ((List Int) × (List Int))), 0, ([] : List L100), false, ([] : List ST37)))) (c0 := ((none, 0), (none, 0), (none, 0), (none, 0), (), (none, 0), (), (none, 0))) (ys := ([] : List ST37)) (cs := []) rfl Tryz.underlying35 J37 Z37 rfl ⟨⟨Nat.le_refl _, Nat.zero_le _, RdS.nil _ _ _, RdS.mono _ _ _⟩, ⟨Nat.le_refl _, Nat.zero_le _, RdS.nil _ _ _, RdS.mono _ _ _⟩, ⟨Nat.le_refl _, Nat.zero_le _, RdS.nil _ _ _, RdS.mono _ _ _⟩, ⟨Nat.le_refl _, Nat.zero_le _, RdS.nil _ _ _, RdS.mono _ _ _⟩, rfl, ⟨Nat.le_refl _, Nat.zero_le _, RdS.nil _ _ _, RdS.mono _ _ _⟩, rfl, ⟨Nat.le_refl _, Nat.zero_le _, (SE37 _ _ ▸ RdS.nil _ _ _), SM37 _ _⟩, trivial⟩ rfl rfl rfl rfl rfl rfl ?_; clear S a w; intro g6 a w S
   refine s_assign S rfl rfl ?_; clear S a; intro a S
   refine c_end ?_
   refine c_region ?_
   refine s_move S rfl rfl ?_; clear S a; intro a S
   refine s_fieldAddr S rfl I37_7 T35 (by decide) rfl rfl ?_; clear S a; intro a S
   refine s_loadSl S rfl (.there (.there (.there .here))) T35 (A := ch_0_0.2.2.2.2.2.2.2.1) (len := ((ST37.un x1).2.2.2.2.2.2.2).length) (cap := ch_0_0.2.2.2.2.2.2.2.2) rfl rfl ?_; clear S a; intro a S
   refine s_move S rfl rfl ?_; clear S a; intro a S
   obtain ⟨c3, h3⟩ := chk_of h2; clear h2
   simp only [SE37] at S
   refine s_cutS S (i := 0) (j := x2) (ys := ((ST37.un x1).2.2.2.2.2.2.2).take (Int.toNat x2)) rfl rfl Tryz.underlying35 T37 (.inl ⟨rfl, rfl⟩) (.inr ⟨_, _, rfl, rfl⟩) c3 rfl (cut_pre rfl) ?_; clear S a; intro A1 cp1 a S
   simp only [← SE37] at S
   obtain ⟨c4, h4⟩ := chk_of h3; clear h3
   refine s_app S (k2 := ((((ST37.un x1).2.2.2.2.2.2.2).take (Int.toNat x2)).length)) (ys := (((ST37.un x1).2.2.2.2.2.2.2).take (Int.toNat x2))) rfl (fun _ _ => .here) rfl rfl rfl (RdS.src (SD37 (S.get 27 (.sl A1 (((ST37.un x1).2.2.2.2.2.2.2).take (Int.toNat x2)).length cp1 (SR37 A1 (((ST37.un x1).2.2.2.2.2.2.2).take (Int.toNat x2)))) rfl).2.2.2.1) (by decide) S.frz) Tryz.underlying35 J37 c4 rfl ?_; clear S a w; intro A2 cp2 a w S
   refine s_assign S rfl rfl ?_; clear S a; intro a S
   refine c_end ?_
   refine c_region ?_
   refine s_move S rfl rfl ?_; clear S a; intro a S
   refine s_fieldAddr S rfl I37_7 T35 (by decide) rfl rfl ?_; clear S a; intro a S
   refine s_store S rfl rfl rfl (s' := [.sl ch1.1.1 ((ST37.un (gt ((ST37.un x1).2.2.2.2.2.2.2) x2)).1).length ch1.1.2 (RdS Y71 ch1.1.1 ((ST37.un (gt ((ST37.un x1).2.2.2.2.2.2.2) x2)).1)), .sl ch1.2.1.1 ((ST37.un (gt ((ST37.un x1).2.2.2.2.2.2.2) x2)).2.1).length ch1.2.1.2 (RdS Y122 ch1.2.1.1 ((ST37.un (gt ((ST37.un x1).2.2.2.2.2.2.2) x2)).2.1)), .sl ch1.2.2.1.1 ((ST37.un (gt ((ST37.un x1).2.2.2.2.2.2.2) x2)).2.2.1).length ch1.2.2.1.2 (RdS (Ty.arr .u8 20) ch1.2.2.1.1 ((ST37.un (gt ((ST37.un x1).2.2.2.2.2.2.2) x2)).2.2.1)), .sl ch1.2.2.2.1.1 ((ST37.un (gt ((ST37.un x1).2.2.2.2.2.2.2) x2)).2.2.2.1).length ch1.2.2.2.1.2 (RdS Y133 ch1.2.2.2.1.1 ((ST37.un (gt ((ST37.un x1).2.2.2.2.2.2.2) x2)).2.2.2.1)), .one (.int .i64 ((ST37.un (gt ((ST37.un x1).2.2.2.2.2.2.2) x2)).2.2.2.2.1)), .sl ch1.2.2.2.2.2.1.1 ((ST37.un (gt ((ST37.un x1).2.2.2.2.2.2.2) x2)).2.2.2.2.2.1).length ch1.2.2.2.2.2.1.2 (RdS Y100 ch1.2.2.2.2.2.1.1 ((ST37.un (gt ((ST37.un x1).2.2.2.2.2.2.2) x2)).2.2.2.2.2.1)), .one (.bool ((ST37.un (gt ((ST37.un x1).2.2.2.2.2.2.2) x2)).2.2.2.2.2.2.1)), .one (.slice A2 (0 + ((((ST37.un x1).2.2.2.2.2.2.2).take (Int.toNat x2)).length)) cp2)]) (.there .here) T35 rfl rfl ?_; clear S w; intro w S
   refine c_end ?_
   refine c_region ?_
   refine s_loada S rfl (.there .here) T37 (s' := [.sl ch1.1.1 ((ST37.un (gt ((ST37.un x1).2.2.2.2.2.2.2) x2)).1).length ch1.1.2 (RdS Y71 ch1.1.1 ((ST37.un (gt ((ST37.un x1).2.2.2.2.2.2.2) x2)).1)), .sl ch1.2.1.1 ((ST37.un (gt ((ST37.un x1).2.2.2.2.2.2.2) x2)).2.1).length ch1.2.1.2 (RdS Y122 ch1.2.1.1 ((ST37.un (gt ((ST37.un x1).2.2.2.2.2.2.2) x2)).2.1)), .sl ch1.2.2.1.1 ((ST37.un (gt ((ST37.un x1).2.2.2.2.2.2.2) x2)).2.2.1).length ch1.2.2.1.2 (RdS (Ty.arr .u8 20) ch1.2.2.1.1 ((ST37.un (gt ((ST37.un x1).2.2.2.2.2.2.2) x2)).2.2.1)), .sl ch1.2.2.2.1.1 ((ST37.un (gt ((ST37.un x1).2.2.2.2.2.2.2) x2)).2.2.2.1).length ch1.2.2.2.1.2 (RdS Y133 ch1.2.2.2.1.1 ((ST37.un (gt ((ST37.un x1).2.2.2.2.2.2.2) x2)).2.2.2.1)), .one (.int .i64 ((ST37.un (gt ((ST37.un x1).2.2.2.2.2.2.2) x2)).2.2.2.2.1)), .sl ch1.2.2.2.2.2.1.1 ((ST37.un (gt ((ST37.un x1).2.2.2.2.2.2.2) x2)).2.2.2.2.2.1).length ch1.2.2.2.2.2.1.2 (RdS Y100 ch1.2.2.2.2.2.1.1 ((ST37.un (gt ((ST37.un x1).2.2.2.2.2.2.2) x2)).2.2.2.2.2.1)), .one (.bool ((ST37.un (gt ((ST37.un x1).2.2.2.2.2.2.2) x2)).2.2.2.2.2.2.1)), .one (.slice A2 (0 + ((((ST37.un x1).2.2.2.2.2.2.2).take (Int.toNat x2)).length)) cp2)]) rfl rfl ?_; clear S a; intro a S
   refine s_store S rfl rfl rfl (s' := [.sl ch1.1.1 ((ST37.un (gt ((ST37.un x1).2.2.2.2.2.2.2) x2)).1).length ch1.1.2 (RdS Y71 ch1.1.1 ((ST37.un (gt ((ST37.un x1).2.2.2.2.2.2.2) x2)).1)), .sl ch1.2.1.1 ((ST37.un (gt ((ST37.un x1).2.2.2.2.2.2.2) x2)).2.1).length ch1.2.1.2 (RdS Y122 ch1.2.1.1 ((ST37.un (gt ((ST37.un x1).2.2.2.2.2.2.2) x2)).2.1)), .sl ch1.2.2.1.1 ((ST37.un (gt ((ST37.un x1).2.2.2.2.2.2.2) x2)).2.2.1).length ch1.2.2.1.2 (RdS (Ty.arr .u8 20) ch1.2.2.1.1 ((ST37.un (gt ((ST37.un x1).2.2.2.2.2.2.2) x2)).2.2.1)), .sl ch1.2.2.2.1.1 ((ST37.un (gt ((ST37.un x1).2.2.2.2.2.2.2) x2)).2.2.2.1).length ch1.2.2.2.1.2 (RdS Y133 ch1.2.2.2.1.1 ((ST37.un (gt ((ST37.un x1).2.2.2.2.2.2.2) x2)).2.2.2.1)), .one (.int .i64 ((ST37.un (gt ((ST37.un x1).2.2.2.2.2.2.2) x2)).2.2.2.2.1)), .sl ch1.2.2.2.2.2.1.1 ((ST37.un (gt ((ST37.un x1).2.2.2.2.2.2.2) x2)).2.2.2.2.2.1).length ch1.2.2.2.2.2.1.2 (RdS Y100 ch1.2.2.2.2.2.1.1 ((ST37.un (gt ((ST37.un x1).2.2.2.2.2.2.2) x2)).2.2.2.2.2.1)), .one (.bool ((ST37.un (gt ((ST37.un x1).2.2.2.2.2.2.2) x2)).2.2.2.2.2.2.1)), .one (.slice A2 (0 + ((((ST37.un x1).2.2.2.2.2.2.2).take (Int.toNat x2)).length)) cp2)]) (.there (.there .here)) T37 rfl rfl ?_; clear S w; intro w S
   refine c_end ?_
   refine wp_ret ?_
   replace S := S.rowfro .here
   obtain ⟨m, le1, S, hro⟩ := S
   rw [← SE37] at hro
   replace S := S.slot (u := 31) (d' := (.agg [.sl ch1.1.1 ((ST37.un (gt ((ST37.un x1).2.2.2.2.2.2.2) x2)).1).length ch1.1.2 (RdS Y71 ch1.1.1 ((ST37.un (gt ((ST37.un x1).2.2.2.2.2.2.2) x2)).1)), .sl ch1.2.1.1 ((ST37.un (gt ((ST37.un x1).2.2.2.2.2.2.2) x2)).2.1).length ch1.2.1.2 (RdS Y122 ch1.2.1.1 ((ST37.un (gt ((ST37.un x1).2.2.2.2.2.2.2) x2)).2.1)), .sl ch1.2.2.1.1 ((ST37.un (gt ((ST37.un x1).2.2.2.2.2.2.2) x2)).2.2.1).length ch1.2.2.1.2 (RdS (Ty.arr .u8 20) ch1.2.2.1.1 ((ST37.un (gt ((ST37.un x1).2.2.2.2.2.2.2) x2)).2.2.1)), .sl ch1.2.2.2.1.1 ((ST37.un (gt ((ST37.un x1).2.2.2.2.2.2.2) x2)).2.2.2.1).length ch1.2.2.2.1.2 (RdS Y133 ch1.2.2.2.1.1 ((ST37.un (gt ((ST37.un x1).2.2.2.2.2.2.2) x2)).2.2.2.1)), .one (.int .i64 ((ST37.un (gt ((ST37.un x1).2.2.2.2.2.2.2) x2)).2.2.2.2.1)), .sl ch1.2.2.2.2.2.1.1 ((ST37.un (gt ((ST37.un x1).2.2.2.2.2.2.2) x2)).2.2.2.2.2.1).length ch1.2.2.2.2.2.1.2 (RdS Y100 ch1.2.2.2.2.2.1.1 ((ST37.un (gt ((ST37.un x1).2.2.2.2.2.2.2) x2)).2.2.2.2.2.1)), .one (.bool ((ST37.un (gt ((ST37.un x1).2.2.2.2.2.2.2) x2)).2.2.2.2.2.2.1)), .sl A2 (([] : List ST37) ++ (((ST37.un x1).2.2.2.2.2.2.2).take (Int.toNat x2))).length cp2 (SR37 A2 (([] : List ST37) ++ (((ST37.un x1).2.2.2.2.2.2.2).take (Int.toNat x2))))])) rfl (by simp [D.val, pd, cellsOf, Seg.cells, hro.2.1]) (by have h := (S.get 31 (.agg [.sl ch1.1.1 ((ST37.un (gt ((ST37.un x1).2.2.2.2.2.2.2) x2)).1).length ch1.1.2 (RdS Y71 ch1.1.1 ((ST37.un (gt ((ST37.un x1).2.2.2.2.2.2.2) x2)).1)), .sl ch1.2.1.1 ((ST37.un (gt ((ST37.un x1).2.2.2.2.2.2.2) x2)).2.1).length ch1.2.1.2 (RdS Y122 ch1.2.1.1 ((ST37.un (gt ((ST37.un x1).2.2.2.2.2.2.2) x2)).2.1)), .sl ch1.2.2.1.1 ((ST37.un (gt ((ST37.un x1).2.2.2.2.2.2.2) x2)).2.2.1).length ch1.2.2.1.2 (RdS (Ty.arr .u8 20) ch1.2.2.1.1 ((ST37.un (gt ((ST37.un x1).2.2.2.2.2.2.2) x2)).2.2.1)), .sl ch1.2.2.2.1.1 ((ST37.un (gt ((ST37.un x1).2.2.2.2.2.2.2) x2)).2.2.2.1).length ch1.2.2.2.1.2 (RdS Y133 ch1.2.2.2.1.1 ((ST37.un (gt ((ST37.un x1).2.2.2.2.2.2.2) x2)).2.2.2.1)), .one (.int .i64 ((ST37.un (gt ((ST37.un x1).2.2.2.2.2.2.2) x2)).2.2.2.2.1)), .sl ch1.2.2.2.2.2.1.1 ((ST37.un (gt ((ST37.un x1).2.2.2.2.2.2.2) x2)).2.2.2.2.2.1).length ch1.2.2.2.2.2.1.2 (RdS Y100 ch1.2.2.2.2.2.1.1 ((ST37.un (gt ((ST37.un x1).2.2.2.2.2.2.2) x2)).2.2.2.2.2.1)), .one (.bool ((ST37.un (gt ((ST37.un x1).2.2.2.2.2.2.2) x2)).2.2.2.2.2.2.1)), .one (.slice A2 (0 + ((((ST37.un x1).2.2.2.2.2.2.2).take (Int.toNat x2)).length)) cp2)]) rfl).2; exact ⟨h.1, h.2.1, h.2.2.1, h.2.2.2.1, h.2.2.2.2.1, h.2.2.2.2.2.1, h.2.2.2.2.2.2.1, ⟨by have := hro.2.2.1; omega, hro.2.2.2, hro.1, SM37 _ _⟩, trivial⟩)
   replace S := S.slotrR (u := 29) rfl hro (SM37 _ _)
   replace S := S.slotrR (u := 6) rfl hro (SM37 _ _)
   replace S := S.slotrR (u := 28) rfl hro (SM37 _ _)
   replace S := S.cellro (s' := [.sl ch1.1.1 ((ST37.un (gt ((ST37.un x1).2.2.2.2.2.2.2) x2)).1).length ch1.1.2 (RdS Y71 ch1.1.1 ((ST37.un (gt ((ST37.un x1).2.2.2.2.2.2.2) x2)).1)), .sl ch1.2.1.1 ((ST37.un (gt ((ST37.un x1).2.2.2.2.2.2.2) x2)).2.1).length ch1.2.1.2 (RdS Y122 ch1.2.1.1 ((ST37.un (gt ((ST37.un x1).2.2.2.2.2.2.2) x2)).2.1)), .sl ch1.2.2.1.1 ((ST37.un (gt ((ST37.un x1).2.2.2.2.2.2.2) x2)).2.2.1).length ch1.2.2.1.2 (RdS (Ty.arr .u8 20) ch1.2.2.1.1 ((ST37.un (gt ((ST37.un x1).2.2.2.2.2.2.2) x2)).2.2.1)), .sl ch1.2.2.2.1.1 ((ST37.un (gt ((ST37.un x1).2.2.2.2.2.2.2) x2)).2.2.2.1).length ch1.2.2.2.1.2 (RdS Y133 ch1.2.2.2.1.1 ((ST37.un (gt ((ST37.un x1).2.2.2.2.2.2.2) x2)).2.2.2.1)), .one (.int .i64 ((ST37.un (gt ((ST37.un x1).2.2.2.2.2.2.2) x2)).2.2.2.2.1)), .sl ch1.2.2.2.2.2.1.1 ((ST37.un (gt ((ST37.un x1).2.2.2.2.2.2.2) x2)).2.2.2.2.2.1).length ch1.2.2.2.2.2.1.2 (RdS Y100 ch1.2.2.2.2.2.1.1 ((ST37.un (gt ((ST37.un x1).2.2.2.2.2.2.2) x2)).2.2.2.2.2.1)), .one (.bool ((ST37.un (gt ((ST37.un x1).2.2.2.2.2.2.2) x2)).2.2.2.2.2.2.1)), .sl A2 (([] : List ST37) ++ (((ST37.un x1).2.2.2.2.2.2.2).take (Int.toNat x2))).length cp2 (SR37 A2 (([] : List ST37) ++ (((ST37.un x1).2.2.2.2.2.2.2).take (Int.toNat x2))))]) .here (by simp [cellsOf, Seg.cells, hro.2.1]) (fun h => ⟨h.1, h.2.1, h.2.2.1, h.2.2.2.1, h.2.2.2.2.1, h.2.2.2.2.2.1, h.2.2.2.2.2.2.1, ⟨by have := hro.2.2.1; omega, hro.2.2.2, hro.1, SM37 _ _⟩, trivial⟩)
   replace S := S.cellro (s' := [.sl ch1.1.1 ((ST37.un (gt ((ST37.un x1).2.2.2.2.2.2.2) x2)).1).length ch1.1.2 (RdS Y71 ch1.1.1 ((ST37.un (gt ((ST37.un x1).2.2.2.2.2.2.2) x2)).1)), .sl ch1.2.1.1 ((ST37.un (gt ((ST37.un x1).2.2.2.2.2.2.2) x2)).2.1).length ch1.2.1.2 (RdS Y122 ch1.2.1.1 ((ST37.un (gt ((ST37.un x1).2.2.2.2.2.2.2) x2)).2.1)), .sl ch1.2.2.1.1 ((ST37.un (gt ((ST37.un x1).2.2.2.2.2.2.2) x2)).2.2.1).length ch1.2.2.1.2 (RdS (Ty.arr .u8 20) ch1.2.2.1.1 ((ST37.un (gt ((ST37.un x1).2.2.2.2.2.2.2) x2)).2.2.1)), .sl ch1.2.2.2.1.1 ((ST37.un (gt ((ST37.un x1).2.2.2.2.2.2.2) x2)).2.2.2.1).length ch1.2.2.2.1.2 (RdS Y133 ch1.2.2.2.1.1 ((ST37.un (gt ((ST37.un x1).2.2.2.2.2.2.2) x2)).2.2.2.1)), .one (.int .i64 ((ST37.un (gt ((ST37.un x1).2.2.2.2.2.2.2) x2)).2.2.2.2.1)), .sl ch1.2.2.2.2.2.1.1 ((ST37.un (gt ((ST37.un x1).2.2.2.2.2.2.2) x2)).2.2.2.2.2.1).length ch1.2.2.2.2.2.1.2 (RdS Y100 ch1.2.2.2.2.2.1.1 ((ST37.un (gt ((ST37.un x1).2.2.2.2.2.2.2) x2)).2.2.2.2.2.1)), .one (.bool ((ST37.un (gt ((ST37.un x1).2.2.2.2.2.2.2) x2)).2.2.2.2.2.2.1)), .sl A2 (([] : List ST37) ++ (((ST37.un x1).2.2.2.2.2.2.2).take (Int.toNat x2))).length cp2 (SR37 A2 (([] : List ST37) ++ (((ST37.un x1).2.2.2.2.2.2.2).take (Int.toNat x2))))]) (.there .here) (by simp [cellsOf, Seg.cells, hro.2.1]) (fun h => ⟨h.1, h.2.1, h.2.2.1, h.2.2.2.1, h.2.2.2.2.1, h.2.2.2.2.2.1, h.2.2.2.2.2.2.1, ⟨by have := hro.2.2.1; omega, hro.2.2.2, hro.1, SM37 _ _⟩, trivial⟩)
   obtain rfl := Option.some.inj h4
   exact b_ret1 (d := (.agg [.sl ch1.1.1 ((ST37.un (gt ((ST37.un x1).2.2.2.2.2.2.2) x2)).1).length ch1.1.2 (RdS Y71 ch1.1.1 ((ST37.un (gt ((ST37.un x1).2.2.2.2.2.2.2) x2)).1)), .sl ch1.2.1.1 ((ST37.un (gt ((ST37.un x1).2.2.2.2.2.2.2) x2)).2.1).length ch1.2.1.2 (RdS Y122 ch1.2.1.1 ((ST37.un (gt ((ST37.un x1).2.2.2.2.2.2.2) x2)).2.1)), .sl ch1.2.2.1.1 ((ST37.un (gt ((ST37.un x1).2.2.2.2.2.2.2) x2)).2.2.1).length ch1.2.2.1.2 (RdS (Ty.arr .u8 20) ch1.2.2.1.1 ((ST37.un (gt ((ST37.un x1).2.2.2.2.2.2.2) x2)).2.2.1)), .sl ch1.2.2.2.1.1 ((ST37.un (gt ((ST37.un x1).2.2.2.2.2.2.2) x2)).2.2.2.1).length ch1.2.2.2.1.2 (RdS Y133 ch1.2.2.2.1.1 ((ST37.un (gt ((ST37.un x1).2.2.2.2.2.2.2) x2)).2.2.2.1)), .one (.int .i64 ((ST37.un (gt ((ST37.un x1).2.2.2.2.2.2.2) x2)).2.2.2.2.1)), .sl ch1.2.2.2.2.2.1.1 ((ST37.un (gt ((ST37.un x1).2.2.2.2.2.2.2) x2)).2.2.2.2.2.1).length ch1.2.2.2.2.2.1.2 (RdS Y100 ch1.2.2.2.2.2.1.1 ((ST37.un (gt ((ST37.un x1).2.2.2.2.2.2.2) x2)).2.2.2.2.2.1)), .one (.bool ((ST37.un (gt ((ST37.un x1).2.2.2.2.2.2.2) x2)).2.2.2.2.2.2.1)), .sl A2 (([] : List ST37) ++ (((ST37.un x1).2.2.2.2.2.2.2).take (Int.toNat x2))).length cp2 (SR37 A2 (([] : List ST37) ++ (((ST37.un x1).2.2.2.2.2.2.2).take (Int.toNat x2))))])) S rfl (resD_cell rfl (.there .here) T37 rfl rfl) fun ok => S.retX (Hx := []) hb _ _ (((ch1.1.1, ch1.1.2), (ch1.2.1.1, ch1.2.1.2), (ch1.2.2.1.1, ch1.2.2.1.2), (ch1.2.2.2.1.1, ch1.2.2.2.1.2), (), (ch1.2.2.2.2.2.1.1, ch1.2.2.2.2.2.1.2), (), (A2, cp2)) : W21) .nil ok
 refine c_region' ?_
 refine s_move S rfl rfl ?_; clear S a; intro a S
 refine s_bin S rfl rfl rfl rfl ?_; clear S a; intro a S
 refine s_move S rfl rfl ?_; clear S a; intro a S
 rcases ite_of h0 with ⟨c5, h1⟩ | ⟨c5, h1⟩ <;> clear h0
 ·refine s_gF S (b := (decide (x2 < 0))) rfl rfl c5 rfl ?_; clear S a; intro a S
  refine s_gF S (b := (decide (x2 < 0))) rfl rfl c5 rfl ?_; clear S a; intro a S
  refine s_gF S (b := (decide (x2 < 0))) rfl rfl c5 rfl ?_; clear S a; intro a S
  refine s_gF S (b := (decide (x2 < 0))) rfl rfl c5 rfl ?_; clear S a; intro a S
  refine s_gF S (b := (decide (x2 < 0))) rfl rfl c5 rfl ?_; clear S a; intro a S
  refine s_pick S (b := true) (hc_of rfl c5) rfl rfl ?_; clear S a; intro a S
  refine c_end' ?_
  refine x_thenN ?_
  exact j1 _ true g2 g1 a w (S.sub (subR rfl) (.cons .here (.cons .here .nil))) h1
 ·refine s_gT S (b := (decide (x2 < 0))) rfl rfl c5 ?_
  refine s_move S rfl rfl ?_; clear S a; intro a S
  refine s_gT S (b := (decide (x2 < 0))) rfl rfl c5 ?_
  refine s_fieldAddr S rfl I37_7 T35 (by decide) rfl rfl ?_; clear S a; intro a S
  refine s_gT S (b := (decide (x2 < 0))) rfl rfl c5 ?_
  refine s_loadSl S rfl (.there .here) T35 (A := ch_0_0.2.2.2.2.2.2.2.1) (len := ((ST37.un x1).2.2.2.2.2.2.2).length) (cap := ch_0_0.2.2.2.2.2.2.2.2) rfl rfl ?_; clear S a; intro a S
  refine s_gT S (b := (decide (x2 < 0))) rfl rfl c5 ?_
  refine s_lenS S rfl Tryz.underlying35 rfl ?_; clear S a; intro a S
  refine s_gT S (b := (decide (x2 < 0))) rfl rfl c5 ?_
  refine s_bin S rfl rfl rfl rfl ?_; clear S a; intro a S
  refine s_pick S (b := false) (hc_of rfl c5) rfl rfl ?_; clear S a; intro a S
  refine c_end' ?_
  refine x_thenN ?_
  exact j1 _ (decide ((((ST37.un x1).2.2.2.2.2.2.2).length : Int) ≤ x2)) g2 g1 a w (S.sub (subR rfl) (.cons .here (.cons .here .nil))) h1
end
end GW
