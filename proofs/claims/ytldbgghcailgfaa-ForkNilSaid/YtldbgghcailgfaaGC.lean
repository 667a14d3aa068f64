import Derived.Test.YtldbgghcailgfaaProg
import Derived.Test.YtldbgghcailgfaaGB
set_option linter.unusedVariables false
set_option linter.unusedSimpArgs false
set_option maxRecDepth 10000
set_option maxHeartbeats 4000000
namespace GW
open Go Go.RowKit Go.Proofs Go.Proofs.Try
noncomputable section
abbrev fork_Cache_Known_0nil.Ty : Type := Option ((List (List Int)))
def fork_Cache_Known_0nil.Ctr (s : fork_Cache_Known_0nil.Ty) : Prop := ∀ (r : (List (List Int))), Ct (C := ((Option Addr) × Nat)) Try.prog 26 (s = some r) [] [(.v (.pointer none))] (fun ch => (.q (Ty.arr .u8 20) ch.1 ch.2 r)) fun _ => []
def fork_Cache_Known_0nil.f : Option ((List (List Int))) := some ([] : List (List Int))
theorem fork_Cache_Known_0nil.ok : fork_Cache_Known_0nil.Ctr (fork_Cache_Known_0nil.f) := by
 intro r h0 mi w0 ok hm
 delta fork_Cache_Known_0nil.f at h0
 refine c_enterZ (n := 24) ok hm func26 rfl rfl rfl fun b0 hb a S => c_region (s_assign S rfl rfl fun a S => c_end (c_region (s_assign S rfl rfl fun a S => c_end (wp_seq (c_region (s_move S rfl rfl fun a S => s_eqp S (b := true) rfl rfl underlying36 rfl rfl fun a S => c_end (c_condT S rfl rfl (c_region (s_move S rfl rfl fun a S => s_assign S rfl rfl fun a S => c_end (wp_ret (x_thenR ?_)))))))))))
 replace S := S.slot (u := 2) (d' := (.q (Ty.arr .u8 20) none 0 ([] : List (List Int)))) rfl rfl ok_nil
 obtain rfl := Option.some.inj h0
 exact b_ret1 (d := (.q (Ty.arr .u8 20) none 0 ([] : List (List Int)))) S rfl rfl fun ok => S.retX (Hx := []) hb _ _ ((none, 0) : (Option Addr) × Nat) .nil ok
abbrev fork_Cache_Fetched_0nil.Ty : Type := Option ((List (List Int)))
def fork_Cache_Fetched_0nil.Ctr (s : fork_Cache_Fetched_0nil.Ty) : Prop := ∀ (r : (List (List Int))), Ct (C := ((Option Addr) × Nat)) Try.prog 27 (s = some r) [] [(.v (.pointer none))] (fun ch => (.q (Ty.arr .u8 20) ch.1 ch.2 r)) fun _ => []
def fork_Cache_Fetched_0nil.f : Option ((List (List Int))) := some ([] : List (List Int))
theorem fork_Cache_Fetched_0nil.ok : fork_Cache_Fetched_0nil.Ctr (fork_Cache_Fetched_0nil.f) := by
 intro r h0 mi w0 ok hm
 delta fork_Cache_Fetched_0nil.f at h0
 refine c_enterZ (n := 24) ok hm func27 rfl rfl rfl fun b0 hb a S => c_region (s_assign S rfl rfl fun a S => c_end (c_region (s_assign S rfl rfl fun a S => c_end (wp_seq (c_region (s_move S rfl rfl fun a S => s_eqp S (b := true) rfl rfl underlying36 rfl rfl fun a S => c_end (c_condT S rfl rfl (c_region (s_move S rfl rfl fun a S => s_assign S rfl rfl fun a S => c_end (wp_ret (x_thenR ?_)))))))))))
 replace S := S.slot (u := 2) (d' := (.q (Ty.arr .u8 20) none 0 ([] : List (List Int)))) rfl rfl ok_nil
 obtain rfl := Option.some.inj h0
 exact b_ret1 (d := (.q (Ty.arr .u8 20) none 0 ([] : List (List Int)))) S rfl rfl fun ok => S.retX (Hx := []) hb _ _ ((none, 0) : (Option Addr) × Nat) .nil ok
abbrev smithylaw15_ForkNil.Ty : Type := ((List Int) × Int × (List Int) × (List Int) × (List ((List Int) × (List Int)))) → Option Bool
def smithylaw15_ForkNil.Ctr (s : smithylaw15_ForkNil.Ty) : Prop := ∀ (x1 : (List Int) × Int × (List Int) × (List Int) × (List ((List Int) × (List Int)))) (ch_0_0 : Option Addr) (ch_0_1 : Nat) (ch_0_2 : Option Addr) (ch_0_3 : Nat) (r : Bool), Ct (C := Unit) Try.prog 6 (s x1 = some r) [] [(.agg [.b20 x1.1, .w x1.2.1, .w4 x1.2.2.1, .q yb ch_0_0 ch_0_1 x1.2.2.2.1, .q Y71 ch_0_2 ch_0_3 x1.2.2.2.2])] (fun _ => (.b r)) fun _ => []
def smithylaw15_ForkNil.f (k : Nat) (x1 : (List Int) × Int × (List Int) × (List Int) × (List ((List Int) × (List Int)))) : Option Bool := (smithyref13_Great.f k [x1]).bind fun t1 => (if t1 = true then ((smithylaw15_fixed.f k).bind fun t2 => (some t2)) else ((fork_Cache_Account_0nil.f x1.1).bind fun t3 => ((smithylaw15_fixed.f k).bind fun t4 => (if t4 = true then (if (!t3.2) = true then ((smithyref13_Same.f k t3.1 (x1.1, 0, [0, 0, 0, 0], ([] : List Int), ([] : List ((List Int) × (List Int))))).bind fun t5 => (if t5 = true then ((fork_Cache_Want_0nil.f x1.1).bind fun t6 => (if (t6 == 0) = true then ((fork_Cache_Fill_0nil.f x1).bind fun t7 => (if (!t7) = true then ((fork_Cache_Fail_0nil.f x1.1).bind fun t8 => (if (t8 == 0) = true then ((fork_Cache_Tries_0nil.f x1.1).bind fun t9 => (if (t9 == 0) = true then ((fork_Cache_Known_0nil.f).bind fun t10 => (if (((t10).length : Int) == 0) = true then ((fork_Cache_Fetched_0nil.f).bind fun t11 => (some (((t11).length : Int) == 0))) else (some false))) else (some false))) else (some false))) else (some false))) else (some false))) else (some false))) else (some false)) else (some false)))))
theorem smithylaw15_ForkNil.ok (k : Nat) : smithylaw15_ForkNil.Ctr (smithylaw15_ForkNil.f k) := by
 intro x1 ch_0_0 ch_0_1 ch_0_2 ch_0_3 r h0 mi w0 ok hm
 delta smithylaw15_ForkNil.f at h0
 refine c_enterZ (n := 68) ok hm func6 rfl rfl rfl fun b0 hb a S => c_region (s_box S rfl rfl rfl fun g1 a w S => s_assign S rfl rfl fun a S => c_end (wp_seq (c_region (s_loada S rfl .h T34 (s' := [.b20 x1.1, .w x1.2.1, .w4 x1.2.2.1, .q yb ch_0_0 ch_0_1 x1.2.2.2.1, .q Y71 ch_0_2 ch_0_3 x1.2.2.2.2]) rfl rfl fun a S => s_bldSl S (ty' := Y34) (ds := [(0, (.agg [.b20 x1.1, .w x1.2.1, .w4 x1.2.2.1, .q yb ch_0_0 ch_0_1 x1.2.2.2.1, .q Y71 ch_0_2 ch_0_3 x1.2.2.2.2]))]) (z := (z20, 0, [0, 0, 0, 0], ([] : List Int), ([] : List ((List Int) × (List Int))))) (c0 := ((), (), (), (none, 0), (none, 0))) (ys := [x1]) (cs := [((), (), (), (ch_0_0, ch_0_1), (ch_0_2, ch_0_3))]) rfl underlying22 J34 Z34 rfl ⟨rfl, rfl, rfl, ⟨Nat.le_refl _, Nat.zero_le _, RdS.nil _ _ _, RdS.mono _ _ _⟩, ⟨Nat.le_refl _, Nat.zero_le _, RdS.nil _ _ _, RdS.mono _ _ _⟩, trivial⟩ rfl rfl rfl rfl rfl rfl fun g2 a w S => ?_))))
 replace S := S.rowfro .h
 obtain ⟨m, le1, S, hro⟩ := S
 replace S := S.slotro (u := 7) rfl hro
 refine bindX h0 fun t1 et1 h1 => s_callP S _ N7 rfl rfl (smithyref13_Great.ok k [x1] (ad g2) 1 t1 et1 _ _) fun ch1 m le1 a w S => c_end ?_
 rcases ite_of h1 with ⟨c1, h2⟩ | ⟨c1, h2⟩
 ·refine c_condT S rfl c1 (c_region (bindX h2 fun t2 et2 h3 => s_callP S _ N8 rfl rfl (smithylaw15_fixed.ok k t2 et2 _ _) fun ch2 m le1 a w S => s_assign S rfl rfl fun a S => c_end (wp_ret (x_thenR ?_))))
  obtain rfl := Option.some.inj h3
  exact b_ret1 (d := (.b t2)) S rfl rfl (S.rt hb)
 ·refine c_condF S rfl c1 (wp_skip (x_thenN (c_region (s_assign S rfl rfl fun a S => c_end (c_region (s_move S rfl rfl fun a S => s_fieldAddr S rfl I34_0 T28 (by decide) rfl rfl fun a S => s_loada S rfl .h T28 (s' := [.b20 x1.1]) rfl rfl fun a S => bindX h2 fun t3 et3 h3 => s_callP S _ N15 rfl rfl (fork_Cache_Account_0nil.ok x1.1 t3 et3 _ _) fun ch3 m le1 a w S => s_move S rfl rfl fun a S => s_extract S rfl rfl rfl rfl fun a S => s_extract S rfl rfl rfl rfl fun a S => s_alloc S Z34 rfl ⟨rfl, rfl, rfl, rfl, rfl, trivial⟩ rfl fun g3 a w S => s_store S rfl rfl rfl (s' := [.b20 t3.1.1, .w t3.1.2.1, .w4 t3.1.2.2.1, .q yb ch3.1 ch3.2.1 t3.1.2.2.2.1, .q Y71 ch3.2.2.1 ch3.2.2.2 t3.1.2.2.2.2]) .h T34 rfl rfl fun w S => s_assign S rfl rfl fun a S => c_end (c_region (bindX h3 fun t4 et4 h4 => s_callP S _ N8 rfl rfl (smithylaw15_fixed.ok k t4 et4 _ _) fun ch4 m le1 a w S => s_move S rfl rfl fun a S => ?_))))))))
  rcases ite_of h4 with ⟨c2, h5⟩ | ⟨c2, h5⟩
  ·refine s_gT S (b := t4) rfl rfl c2 (s_move S rfl rfl fun a S => s_gT S (b := t4) rfl rfl c2 (s_not S rfl rfl fun a S => s_pick S (b := true) (hc_of rfl c2) rfl rfl fun a S => s_move S rfl rfl fun a S => ?_))
   rcases ite_of h5 with ⟨c3, h6⟩ | ⟨c3, h6⟩
   ·refine s_gT S (b := (!t3.2)) rfl rfl c3 (s_loada S rfl .h T34 (s' := [.b20 t3.1.1, .w t3.1.2.1, .w4 t3.1.2.2.1, .q yb ch3.1 ch3.2.1 t3.1.2.2.2.1, .q Y71 ch3.2.2.1 ch3.2.2.2 t3.1.2.2.2.2]) rfl rfl fun a S => s_gT S (b := (!t3.2)) rfl rfl c3 (s_fieldAddr S rfl I34_0 T28 (by decide) rfl rfl fun a S => s_gT S (b := (!t3.2)) rfl rfl c3 (s_loada S rfl .h1 T28 (s' := [.b20 x1.1]) rfl rfl fun a S => s_gT S (b := (!t3.2)) rfl rfl c3 (s_bldS S (ds := [(0, (.agg [.b20 x1.1]))]) (zs := [.b20 z20, .w 0, .w4 [0, 0, 0, 0], .s none 0 0, .s none 0 0]) (s' := [.b20 x1.1, .w 0, .w4 [0, 0, 0, 0], .s none 0 0, .s none 0 0]) rfl underlying34 P34 Z34 ⟨rfl, rfl, rfl, rfl, rfl, trivial⟩ rfl rfl fun a S => s_gT S (b := (!t3.2)) rfl rfl c3 ?_))))
    replace S := S.slot (u := 26) (d' := (.agg [.b20 x1.1, .w 0, .w4 [0, 0, 0, 0], .q yb none 0 ([] : List Int), .q Y71 none 0 ([] : List ((List Int) × (List Int)))])) rfl rfl (by have h := (S.get 26 (.agg [.b20 x1.1, .w 0, .w4 [0, 0, 0, 0], .s none 0 0, .s none 0 0]) rfl).2; exact ⟨h.1, h.2.1, h.2.2.1, ok_nil, ok_nil, trivial⟩)
    refine bindX h6 fun t5 et5 h7 => s_callP S _ N16 rfl rfl (smithyref13_Same.ok k t3.1 (x1.1, 0, [0, 0, 0, 0], ([] : List Int), ([] : List ((List Int) × (List Int)))) ch3.1 ch3.2.1 ch3.2.2.1 ch3.2.2.2 none 0 none 0 t5 et5 _ _) fun ch5 m le1 a w S => s_pick S (b := true) (hc_of rfl c3) rfl rfl fun a S => s_move S rfl rfl fun a S => ?_
    rcases ite_of h7 with ⟨c4, h8⟩ | ⟨c4, h8⟩
    ·refine s_gT S (b := t5) rfl rfl c4 (s_move S rfl rfl fun a S => s_gT S (b := t5) rfl rfl c4 (s_fieldAddr S rfl I34_0 T28 (by decide) rfl rfl fun a S => s_gT S (b := t5) rfl rfl c4 (s_loada S rfl .h1 T28 (s' := [.b20 x1.1]) rfl rfl fun a S => s_gT S (b := t5) rfl rfl c4 (bindX h8 fun t6 et6 h9 => s_callP S _ N12 rfl rfl (fork_Cache_Want_0nil.ok x1.1 t6 et6 _ _) fun ch6 m le1 a w S => s_gT S (b := t5) rfl rfl c4 (s_bin S rfl rfl rfl rfl fun a S => s_pick S (b := true) (hc_of rfl c4) rfl rfl fun a S => s_move S rfl rfl fun a S => ?_)))))
     rcases ite_of h9 with ⟨c5, h10⟩ | ⟨c5, h10⟩
     ·refine s_gT S (b := (t6 == 0)) rfl rfl c5 (s_move S rfl rfl fun a S => s_gT S (b := (t6 == 0)) rfl rfl c5 (s_loada S rfl .h1 T34 (s' := [.b20 x1.1, .w x1.2.1, .w4 x1.2.2.1, .q yb ch_0_0 ch_0_1 x1.2.2.2.1, .q Y71 ch_0_2 ch_0_3 x1.2.2.2.2]) rfl rfl fun a S => s_gT S (b := (t6 == 0)) rfl rfl c5 (bindX h10 fun t7 et7 h11 => s_callP S _ N14 rfl rfl (fork_Cache_Fill_0nil.ok x1 ch_0_0 ch_0_1 ch_0_2 ch_0_3 t7 et7 _ _) fun ch7 m le1 a w S => s_gT S (b := (t6 == 0)) rfl rfl c5 (s_not S rfl rfl fun a S => s_pick S (b := true) (hc_of rfl c5) rfl rfl fun a S => s_move S rfl rfl fun a S => ?_))))
      rcases ite_of h11 with ⟨c6, h12⟩ | ⟨c6, h12⟩
      ·refine s_gT S (b := (!t7)) rfl rfl c6 (s_move S rfl rfl fun a S => s_gT S (b := (!t7)) rfl rfl c6 (s_fieldAddr S rfl I34_0 T28 (by decide) rfl rfl fun a S => s_gT S (b := (!t7)) rfl rfl c6 (s_loada S rfl .h1 T28 (s' := [.b20 x1.1]) rfl rfl fun a S => s_gT S (b := (!t7)) rfl rfl c6 (bindX h12 fun t8 et8 h13 => s_callP S _ N13 rfl rfl (fork_Cache_Fail_0nil.ok x1.1 t8 et8 _ _) fun ch8 m le1 a w S => s_gT S (b := (!t7)) rfl rfl c6 (s_bin S rfl rfl rfl rfl fun a S => s_pick S (b := true) (hc_of rfl c6) rfl rfl fun a S => s_move S rfl rfl fun a S => ?_)))))
       rcases ite_of h13 with ⟨c7, h14⟩ | ⟨c7, h14⟩
       ·refine s_gT S (b := (t8 == 0)) rfl rfl c7 (s_move S rfl rfl fun a S => s_gT S (b := (t8 == 0)) rfl rfl c7 (s_fieldAddr S rfl I34_0 T28 (by decide) rfl rfl fun a S => s_gT S (b := (t8 == 0)) rfl rfl c7 (s_loada S rfl .h1 T28 (s' := [.b20 x1.1]) rfl rfl fun a S => s_gT S (b := (t8 == 0)) rfl rfl c7 (bindX h14 fun t9 et9 h15 => s_callP S _ N25 rfl rfl (fork_Cache_Tries_0nil.ok x1.1 t9 et9 _ _) fun ch9 m le1 a w S => s_gT S (b := (t8 == 0)) rfl rfl c7 (s_bin S rfl rfl rfl rfl fun a S => s_pick S (b := true) (hc_of rfl c7) rfl rfl fun a S => s_move S rfl rfl fun a S => ?_)))))
        rcases ite_of h15 with ⟨c8, h16⟩ | ⟨c8, h16⟩
        ·refine s_gT S (b := (t9 == 0)) rfl rfl c8 (s_move S rfl rfl fun a S => s_gT S (b := (t9 == 0)) rfl rfl c8 (bindX h16 fun t10 et10 h17 => s_callP S _ N26 rfl rfl (fork_Cache_Known_0nil.ok t10 et10 _ _) fun ch10 m le1 a w S => s_gT S (b := (t9 == 0)) rfl rfl c8 (s_lenS S rfl underlying23 rfl fun a S => s_gT S (b := (t9 == 0)) rfl rfl c8 (s_bin S rfl rfl rfl rfl fun a S => s_pick S (b := true) (hc_of rfl c8) rfl rfl fun a S => s_move S rfl rfl fun a S => ?_))))
         rcases ite_of h17 with ⟨c9, h18⟩ | ⟨c9, h18⟩
         ·refine s_gT S (b := (((t10).length : Int) == 0)) rfl rfl c9 (s_move S rfl rfl fun a S => s_gT S (b := (((t10).length : Int) == 0)) rfl rfl c9 (bindX h18 fun t11 et11 h19 => s_callP S _ N27 rfl rfl (fork_Cache_Fetched_0nil.ok t11 et11 _ _) fun ch11 m le1 a w S => s_gT S (b := (((t10).length : Int) == 0)) rfl rfl c9 (s_lenS S rfl underlying23 rfl fun a S => s_gT S (b := (((t10).length : Int) == 0)) rfl rfl c9 (s_bin S rfl rfl rfl rfl fun a S => s_pick S (b := true) (hc_of rfl c9) rfl rfl fun a S => s_assign S rfl rfl fun a S => c_end (wp_ret ?_)))))
          obtain rfl := Option.some.inj h19
          exact b_ret1 (d := (.b (((t11).length : Int) == 0))) S rfl rfl (S.rt hb)
         ·refine s_gF S (b := (((t10).length : Int) == 0)) rfl rfl c9 rfl fun a S => s_gF S (b := (((t10).length : Int) == 0)) rfl rfl c9 rfl fun a S => s_gF S (b := (((t10).length : Int) == 0)) rfl rfl c9 rfl fun a S => s_gF S (b := (((t10).length : Int) == 0)) rfl rfl c9 rfl fun a S => s_pick S (b := false) (hc_of rfl c9) rfl rfl fun a S => s_assign S rfl rfl fun a S => c_end (wp_ret ?_)
          obtain rfl := Option.some.inj h18
          exact b_ret1 (d := (.b false)) S rfl rfl (S.rt hb)
        ·refine s_gF S (b := (t9 == 0)) rfl rfl c8 rfl fun a S => s_gF S (b := (t9 == 0)) rfl rfl c8 rfl fun a S => s_gF S (b := (t9 == 0)) rfl rfl c8 rfl fun a S => s_gF S (b := (t9 == 0)) rfl rfl c8 rfl fun a S => s_pick S (b := false) (hc_of rfl c8) rfl rfl fun a S => s_move S rfl rfl fun a S => s_gF S (b := false) rfl rfl rfl rfl fun a S => s_gF S (b := false) rfl rfl rfl rfl fun a S => s_gF S (b := false) rfl rfl rfl rfl fun a S => s_gF S (b := false) rfl rfl rfl rfl fun a S => s_pick S (b := false) (hc_of rfl rfl) rfl rfl fun a S => s_assign S rfl rfl fun a S => c_end (wp_ret ?_)
         obtain rfl := Option.some.inj h16
         exact b_ret1 (d := (.b false)) S rfl rfl (S.rt hb)
       ·refine s_gF S (b := (t8 == 0)) rfl rfl c7 rfl fun a S => s_gF S (b := (t8 == 0)) rfl rfl c7 rfl fun a S => s_gF S (b := (t8 == 0)) rfl rfl c7 rfl fun a S => s_gF S (b := (t8 == 0)) rfl rfl c7 rfl fun a S => s_gF S (b := (t8 == 0)) rfl rfl c7 rfl fun a S => s_pick S (b := false) (hc_of rfl c7) rfl rfl fun a S => s_move S rfl rfl fun a S => s_gF S (b := false) rfl rfl rfl rfl fun a S => s_gF S (b := false) rfl rfl rfl rfl fun a S => s_gF S (b := false) rfl rfl rfl rfl fun a S => s_gF S (b := false) rfl rfl rfl rfl fun a S => s_pick S (b := false) (hc_of rfl rfl) rfl rfl fun a S => s_move S rfl rfl fun a S => s_gF S (b := false) rfl rfl rfl rfl fun a S => s_gF S (b := false) rfl rfl rfl rfl fun a S => s_gF S (b := false) rfl rfl rfl rfl fun a S => s_gF S (b := false) rfl rfl rfl rfl fun a S => s_pick S (b := false) (hc_of rfl rfl) rfl rfl fun a S => s_assign S rfl rfl fun a S => c_end (wp_ret ?_)
        obtain rfl := Option.some.inj h14
        exact b_ret1 (d := (.b false)) S rfl rfl (S.rt hb)
      ·refine s_gF S (b := (!t7)) rfl rfl c6 rfl fun a S => s_gF S (b := (!t7)) rfl rfl c6 rfl fun a S => s_gF S (b := (!t7)) rfl rfl c6 rfl fun a S => s_gF S (b := (!t7)) rfl rfl c6 rfl fun a S => s_gF S (b := (!t7)) rfl rfl c6 rfl fun a S => s_pick S (b := false) (hc_of rfl c6) rfl rfl fun a S => s_move S rfl rfl fun a S => s_gF S (b := false) rfl rfl rfl rfl fun a S => s_gF S (b := false) rfl rfl rfl rfl fun a S => s_gF S (b := false) rfl rfl rfl rfl fun a S => s_gF S (b := false) rfl rfl rfl rfl fun a S => s_gF S (b := false) rfl rfl rfl rfl fun a S => s_pick S (b := false) (hc_of rfl rfl) rfl rfl fun a S => s_move S rfl rfl fun a S => s_gF S (b := false) rfl rfl rfl rfl fun a S => s_gF S (b := false) rfl rfl rfl rfl fun a S => s_gF S (b := false) rfl rfl rfl rfl fun a S => s_gF S (b := false) rfl rfl rfl rfl fun a S => s_pick S (b := false) (hc_of rfl rfl) rfl rfl fun a S => s_move S rfl rfl fun a S => s_gF S (b := false) rfl rfl rfl rfl fun a S => s_gF S (b := false) rfl rfl rfl rfl fun a S => s_gF S (b := false) rfl rfl rfl rfl fun a S => s_gF S (b := false) rfl rfl rfl rfl fun a S => s_pick S (b := false) (hc_of rfl rfl) rfl rfl fun a S => s_assign S rfl rfl fun a S => c_end (wp_ret ?_)
       obtain rfl := Option.some.inj h12
       exact b_ret1 (d := (.b false)) S rfl rfl (S.rt hb)
     ·refine s_gF S (b := (t6 == 0)) rfl rfl c5 rfl fun a S => s_gF S (b := (t6 == 0)) rfl rfl c5 rfl fun a S => s_gF S (b := (t6 == 0)) rfl rfl c5 rfl fun a S => s_gF S (b := (t6 == 0)) rfl rfl c5 rfl fun a S => s_pick S (b := false) (hc_of rfl c5) rfl rfl fun a S => s_move S rfl rfl fun a S => s_gF S (b := false) rfl rfl rfl rfl fun a S => s_gF S (b := false) rfl rfl rfl rfl fun a S => s_gF S (b := false) rfl rfl rfl rfl fun a S => s_gF S (b := false) rfl rfl rfl rfl fun a S => s_gF S (b := false) rfl rfl rfl rfl fun a S => s_pick S (b := false) (hc_of rfl rfl) rfl rfl fun a S => s_move S rfl rfl fun a S => s_gF S (b := false) rfl rfl rfl rfl fun a S => s_gF S (b := false) rfl rfl rfl rfl fun a S => s_gF S (b := false) rfl rfl rfl rfl fun a S => s_gF S (b := false) rfl rfl rfl rfl fun a S => s_gF S (b := false) rfl rfl rfl rfl fun a S => s_pick S (b := false) (hc_of rfl rfl) rfl rfl fun a S => s_move S rfl rfl fun a S => s_gF S (b := false) rfl rfl rfl rfl fun a S => s_gF S (b := false) rfl rfl rfl rfl fun a S => s_gF S (b := false) rfl rfl rfl rfl fun a S => s_gF S (b := false) rfl rfl rfl rfl fun a S => s_pick S (b := false) (hc_of rfl rfl) rfl rfl fun a S => s_move S rfl rfl fun a S => s_gF S (b := false) rfl rfl rfl rfl fun a S => s_gF S (b := false) rfl rfl rfl rfl fun a S => s_gF S (b := false) rfl rfl rfl rfl fun a S => s_gF S (b := false) rfl rfl rfl rfl fun a S => s_pick S (b := false) (hc_of rfl rfl) rfl rfl fun a S => s_assign S rfl rfl fun a S => c_end (wp_ret ?_)
      obtain rfl := Option.some.inj h10
      exact b_ret1 (d := (.b false)) S rfl rfl (S.rt hb)
    ·refine s_gF S (b := t5) rfl rfl c4 rfl fun a S => s_gF S (b := t5) rfl rfl c4 rfl fun a S => s_gF S (b := t5) rfl rfl c4 rfl fun a S => s_gF S (b := t5) rfl rfl c4 rfl fun a S => s_gF S (b := t5) rfl rfl c4 rfl fun a S => s_pick S (b := false) (hc_of rfl c4) rfl rfl fun a S => s_move S rfl rfl fun a S => s_gF S (b := false) rfl rfl rfl rfl fun a S => s_gF S (b := false) rfl rfl rfl rfl fun a S => s_gF S (b := false) rfl rfl rfl rfl fun a S => s_gF S (b := false) rfl rfl rfl rfl fun a S => s_pick S (b := false) (hc_of rfl rfl) rfl rfl fun a S => s_move S rfl rfl fun a S => s_gF S (b := false) rfl rfl rfl rfl fun a S => s_gF S (b := false) rfl rfl rfl rfl fun a S => s_gF S (b := false) rfl rfl rfl rfl fun a S => s_gF S (b := false) rfl rfl rfl rfl fun a S => s_gF S (b := false) rfl rfl rfl rfl fun a S => s_pick S (b := false) (hc_of rfl rfl) rfl rfl fun a S => s_move S rfl rfl fun a S => s_gF S (b := false) rfl rfl rfl rfl fun a S => s_gF S (b := false) rfl rfl rfl rfl fun a S => s_gF S (b := false) rfl rfl rfl rfl fun a S => s_gF S (b := false) rfl rfl rfl rfl fun a S => s_gF S (b := false) rfl rfl rfl rfl fun a S => s_pick S (b := false) (hc_of rfl rfl) rfl rfl fun a S => s_move S rfl rfl fun a S => s_gF S (b := false) rfl rfl rfl rfl fun a S => s_gF S (b := false) rfl rfl rfl rfl fun a S => s_gF S (b := false) rfl rfl rfl rfl fun a S => s_gF S (b := false) rfl rfl rfl rfl fun a S => s_pick S (b := false) (hc_of rfl rfl) rfl rfl fun a S => s_move S rfl rfl fun a S => s_gF S (b := false) rfl rfl rfl rfl fun a S => s_gF S (b := false) rfl rfl rfl rfl fun a S => s_gF S (b := false) rfl rfl rfl rfl fun a S => s_gF S (b := false) rfl rfl rfl rfl fun a S => s_pick S (b := false) (hc_of rfl rfl) rfl rfl fun a S => s_assign S rfl rfl fun a S => c_end (wp_ret ?_)
     obtain rfl := Option.some.inj h8
     exact b_ret1 (d := (.b false)) S rfl rfl (S.rt hb)
   ·refine s_gF S (b := (!t3.2)) rfl rfl c3 rfl fun a S => s_gF S (b := (!t3.2)) rfl rfl c3 rfl fun a S => s_gF S (b := (!t3.2)) rfl rfl c3 rfl fun a S => s_gF S (b := (!t3.2)) rfl rfl c3 rfl fun a S => s_gF S (b := (!t3.2)) rfl rfl c3 rfl fun a S => s_pick S (b := false) (hc_of rfl c3) rfl rfl fun a S => s_move S rfl rfl fun a S => s_gF S (b := false) rfl rfl rfl rfl fun a S => s_gF S (b := false) rfl rfl rfl rfl fun a S => s_gF S (b := false) rfl rfl rfl rfl fun a S => s_gF S (b := false) rfl rfl rfl rfl fun a S => s_gF S (b := false) rfl rfl rfl rfl fun a S => s_pick S (b := false) (hc_of rfl rfl) rfl rfl fun a S => s_move S rfl rfl fun a S => s_gF S (b := false) rfl rfl rfl rfl fun a S => s_gF S (b := false) rfl rfl rfl rfl fun a S => s_gF S (b := false) rfl rfl rfl rfl fun a S => s_gF S (b := false) rfl rfl rfl rfl fun a S => s_pick S (b := false) (hc_of rfl rfl) rfl rfl fun a S => s_move S rfl rfl fun a S => s_gF S (b := false) rfl rfl rfl rfl fun a S => s_gF S (b := false) rfl rfl rfl rfl fun a S => s_gF S (b := false) rfl rfl rfl rfl fun a S => s_gF S (b := false) rfl rfl rfl rfl fun a S => s_gF S (b := false) rfl rfl rfl rfl fun a S => s_pick S (b := false) (hc_of rfl rfl) rfl rfl fun a S => s_move S rfl rfl fun a S => s_gF S (b := false) rfl rfl rfl rfl fun a S => s_gF S (b := false) rfl rfl rfl rfl fun a S => s_gF S (b := false) rfl rfl rfl rfl fun a S => s_gF S (b := false) rfl rfl rfl rfl fun a S => s_gF S (b := false) rfl rfl rfl rfl fun a S => s_pick S (b := false) (hc_of rfl rfl) rfl rfl fun a S => s_move S rfl rfl fun a S => s_gF S (b := false) rfl rfl rfl rfl fun a S => s_gF S (b := false) rfl rfl rfl rfl fun a S => s_gF S (b := false) rfl rfl rfl rfl fun a S => s_gF S (b := false) rfl rfl rfl rfl fun a S => s_pick S (b := false) (hc_of rfl rfl) rfl rfl fun a S => s_move S rfl rfl fun a S => s_gF S (b := false) rfl rfl rfl rfl fun a S => s_gF S (b := false) rfl rfl rfl rfl fun a S => s_gF S (b := false) rfl rfl rfl rfl fun a S => s_gF S (b := false) rfl rfl rfl rfl fun a S => s_pick S (b := false) (hc_of rfl rfl) rfl rfl fun a S => s_assign S rfl rfl fun a S => c_end (wp_ret ?_)
    obtain rfl := Option.some.inj h6
    exact b_ret1 (d := (.b false)) S rfl rfl (S.rt hb)
  ·refine s_gF S (b := t4) rfl rfl c2 rfl fun a S => s_gF S (b := t4) rfl rfl c2 rfl fun a S => s_pick S (b := false) (hc_of rfl c2) rfl rfl fun a S => s_move S rfl rfl fun a S => s_gF S (b := false) rfl rfl rfl rfl fun a S => s_gF S (b := false) rfl rfl rfl rfl fun a S => s_gF S (b := false) rfl rfl rfl rfl fun a S => s_gF S (b := false) rfl rfl rfl rfl fun a S => s_gF S (b := false) rfl rfl rfl rfl fun a S => s_pick S (b := false) (hc_of rfl rfl) rfl rfl fun a S => s_move S rfl rfl fun a S => s_gF S (b := false) rfl rfl rfl rfl fun a S => s_gF S (b := false) rfl rfl rfl rfl fun a S => s_gF S (b := false) rfl rfl rfl rfl fun a S => s_gF S (b := false) rfl rfl rfl rfl fun a S => s_gF S (b := false) rfl rfl rfl rfl fun a S => s_pick S (b := false) (hc_of rfl rfl) rfl rfl fun a S => s_move S rfl rfl fun a S => s_gF S (b := false) rfl rfl rfl rfl fun a S => s_gF S (b := false) rfl rfl rfl rfl fun a S => s_gF S (b := false) rfl rfl rfl rfl fun a S => s_gF S (b := false) rfl rfl rfl rfl fun a S => s_pick S (b := false) (hc_of rfl rfl) rfl rfl fun a S => s_move S rfl rfl fun a S => s_gF S (b := false) rfl rfl rfl rfl fun a S => s_gF S (b := false) rfl rfl rfl rfl fun a S => s_gF S (b := false) rfl rfl rfl rfl fun a S => s_gF S (b := false) rfl rfl rfl rfl fun a S => s_gF S (b := false) rfl rfl rfl rfl fun a S => s_pick S (b := false) (hc_of rfl rfl) rfl rfl fun a S => s_move S rfl rfl fun a S => s_gF S (b := false) rfl rfl rfl rfl fun a S => s_gF S (b := false) rfl rfl rfl rfl fun a S => s_gF S (b := false) rfl rfl rfl rfl fun a S => s_gF S (b := false) rfl rfl rfl rfl fun a S => s_gF S (b := false) rfl rfl rfl rfl fun a S => s_pick S (b := false) (hc_of rfl rfl) rfl rfl fun a S => s_move S rfl rfl fun a S => s_gF S (b := false) rfl rfl rfl rfl fun a S => s_gF S (b := false) rfl rfl rfl rfl fun a S => s_gF S (b := false) rfl rfl rfl rfl fun a S => s_gF S (b := false) rfl rfl rfl rfl fun a S => s_pick S (b := false) (hc_of rfl rfl) rfl rfl fun a S => s_move S rfl rfl fun a S => s_gF S (b := false) rfl rfl rfl rfl fun a S => s_gF S (b := false) rfl rfl rfl rfl fun a S => s_gF S (b := false) rfl rfl rfl rfl fun a S => s_gF S (b := false) rfl rfl rfl rfl fun a S => s_pick S (b := false) (hc_of rfl rfl) rfl rfl fun a S => s_assign S rfl rfl fun a S => c_end (wp_ret ?_)
   obtain rfl := Option.some.inj h5
   exact b_ret1 (d := (.b false)) S rfl rfl (S.rt hb)
abbrev bits_Len64.Ty : Type := Int → Option Int
def bits_Len64.Ctr (s : bits_Len64.Ty) : Prop := ∀ (x1 : Int) (r : Int), Ct (C := Unit) Try.prog 59 (s x1 = some r) [] [(.w x1)] (fun _ => (.i r)) fun _ => []
def bits_Len64.j3 (y5 : Int) (y6 : Int) : Option Int := if (0 : Int) ≤ (wr .u8 y6) ∧ (wr .u8 y6) < (txt0.size : Int) then (some (wr .i64 (y5 + (wr .i64 (bt txt0 (wr .u8 y6)))))) else none
def bits_Len64.j2 (y3 : Int) (y4 : Int) : Option Int := if (decide (256 ≤ y4)) = true then (bits_Len64.j3 (wr .i64 (y3 + 8)) (shr y4 8)) else (bits_Len64.j3 y3 y4)
def bits_Len64.j1 (y1 : Int) (y2 : Int) : Option Int := if (decide (65536 ≤ y2)) = true then (bits_Len64.j2 (wr .i64 (y1 + 16)) (shr y2 16)) else (bits_Len64.j2 y1 y2)
def bits_Len64.f (x1 : Int) : Option Int := if (decide (4294967296 ≤ x1)) = true then (bits_Len64.j1 32 (shr x1 32)) else (bits_Len64.j1 0 x1)
theorem bits_Len64.ok : bits_Len64.Ctr (bits_Len64.f) := by
 intro x1 r h0 mi w0 ok hm
 delta bits_Len64.f at h0
 refine c_enterZ (n := 25) ok hm func59 rfl rfl rfl fun b0 hb a S => c_region (s_assign S rfl rfl fun a S => c_end (wp_seq_k fun K1 hK1 => ?_))
 have j1 : ∀ m y1 y2 a w, St 25 m b0 [(2, (.i y1)), (0, (.w y2))] [] a w → bits_Len64.j1 y1 y2 = some r → K1 a w := by
  intro m y1 y2 a w S h0
  delta bits_Len64.j1 at h0
  refine hK1 a w (wp_seq_k fun K2 hK2 => ?_)
  have j2 : ∀ m y3 y4 a w, St 25 m b0 [(2, (.i y3)), (0, (.w y4))] [] a w → bits_Len64.j2 y3 y4 = some r → K2 a w := by
   intro m y3 y4 a w S h0
   delta bits_Len64.j2 at h0
   refine hK2 a w (wp_seq_k fun K3 hK3 => ?_)
   have j3 : ∀ m y5 y6 a w, St 25 m b0 [(2, (.i y5)), (0, (.w y6))] [] a w → bits_Len64.j3 y5 y6 = some r → K3 a w := by
    intro m y5 y6 a w S h0
    delta bits_Len64.j3 at h0
    refine hK3 a w (c_region (s_move S rfl rfl fun a S => s_move S rfl rfl fun a S => s_conv S rfl rfl underlying5 rfl fun a S => ?_))
    obtain ⟨c1, h1⟩ := chk_of h0; clear h0
    refine s_indexT S rfl rfl underlying9 c1.1 c1.2 rfl fun a S => s_conv S rfl rfl underlying3 rfl fun a S => s_bin S rfl rfl rfl rfl fun a S => s_assign S rfl rfl fun a S => c_end (wp_ret ?_)
    obtain rfl := Option.some.inj h1
    exact b_ret1 (d := (.i (wr .i64 (y5 + (wr .i64 (bt txt0 (wr .u8 y6))))))) S rfl rfl (S.rt hb)
   refine c_region (s_move S rfl rfl fun a S => s_bin S rfl rfl rfl rfl fun a S => c_end ?_)
   rcases ite_of h0 with ⟨c2, h1⟩ | ⟨c2, h1⟩
   ·refine c_condT S rfl c2 (c_region (s_move S rfl rfl fun a S => s_shr S (e := 8) rfl rfl (by decide) rfl rfl fun a S => s_assign S rfl rfl fun a S => c_end (c_region' (s_move S rfl rfl fun a S => s_bin S rfl rfl rfl rfl fun a S => s_assign S rfl rfl fun a S => c_end' (x_thenN ?_)))))
    exact j3 _ (wr .i64 (y3 + 8)) (shr y4 8) a w (S.sb rfl .nil) h1
   ·refine c_condF S rfl c2 (wp_skip (x_thenN ?_))
    exact j3 _ y3 y4 a w (S.sb rfl .nil) h1
  refine c_region (s_move S rfl rfl fun a S => s_bin S rfl rfl rfl rfl fun a S => c_end ?_)
  rcases ite_of h0 with ⟨c3, h1⟩ | ⟨c3, h1⟩
  ·refine c_condT S rfl c3 (c_region (s_move S rfl rfl fun a S => s_shr S (e := 16) rfl rfl (by decide) rfl rfl fun a S => s_assign S rfl rfl fun a S => c_end (c_region' (s_move S rfl rfl fun a S => s_bin S rfl rfl rfl rfl fun a S => s_assign S rfl rfl fun a S => c_end' (x_thenN ?_)))))
   exact j2 _ (wr .i64 (y1 + 16)) (shr y2 16) a w (S.sb rfl .nil) h1
  ·refine c_condF S rfl c3 (wp_skip (x_thenN ?_))
   exact j2 _ y1 y2 a w (S.sb rfl .nil) h1
 refine c_region (s_move S rfl rfl fun a S => s_bin S rfl rfl rfl rfl fun a S => c_end ?_)
 rcases ite_of h0 with ⟨c4, h1⟩ | ⟨c4, h1⟩
 ·refine c_condT S rfl c4 (c_region (s_move S rfl rfl fun a S => s_shr S (e := 32) rfl rfl (by decide) rfl rfl fun a S => s_assign S rfl rfl fun a S => c_end (c_region' (s_assign S rfl rfl fun a S => c_end' (x_thenN ?_)))))
  exact j1 _ 32 (shr x1 32) a w0 (S.sb rfl .nil) h1
 ·refine c_condF S rfl c4 (wp_skip (x_thenN ?_))
  exact j1 _ 0 x1 a w0 (S.sb rfl .nil) h1
abbrev bits_Len.Ty : Type := Int → Option Int
def bits_Len.Ctr (s : bits_Len.Ty) : Prop := ∀ (x1 : Int) (r : Int), Ct (C := Unit) Try.prog 48 (s x1 = some r) [] [(.w x1)] (fun _ => (.i r)) fun _ => []
def bits_Len.f (x1 : Int) : Option Int := (bits_Len64.f x1).bind fun t1 => (some t1)
theorem bits_Len.ok : bits_Len.Ctr (bits_Len.f) := by
 intro x1 r h0 mi w0 ok hm
 delta bits_Len.f at h0
 refine c_enterZ (n := 8) ok hm func48 rfl rfl rfl fun b0 hb a S => c_region (s_assign S rfl rfl fun a S => c_end (wp_seq (c_condF S rfl rfl (wp_skip (x_thenN (c_region (s_move S rfl rfl fun a S => bindX h0 fun t1 et1 h1 => s_callP S _ N59 rfl rfl (bits_Len64.ok x1 t1 et1 _ _) fun ch1 m le1 a w S => s_assign S rfl rfl fun a S => c_end (wp_ret ?_))))))))
 obtain rfl := Option.some.inj h1
 exact b_ret1 (d := (.i t1)) S rfl rfl (S.rt hb)
abbrev bytes_Compare.Ty : Type := (List Int) → (List Int) → Option Int
def bytes_Compare.Ctr (s : bytes_Compare.Ty) : Prop := ∀ (x1 : List Int) (x2 : List Int) (ch_0_0 : Option Addr) (ch_0_1 : Nat) (ch_1_0 : Option Addr) (ch_1_1 : Nat) (r : Int), Ct (C := Unit) Try.prog 49 (s x1 x2 = some r) [] [(.q yb ch_0_0 ch_0_1 x1), (.q yb ch_1_0 ch_1_1 x2)] (fun _ => (.i r)) fun _ => []
def bytes_Compare.f (x1 : List Int) (x2 : List Int) : Option Int := some (Lib.compareBytes (u8s x1) (u8s x2))
theorem bytes_Compare.ok : bytes_Compare.Ctr (bytes_Compare.f) := by
 intro x1 x2 ch_0_0 ch_0_1 ch_1_0 ch_1_1 r h0 mi w0 ok hm
 delta bytes_Compare.f at h0
 refine c_enterZ (n := 8) ok hm func49 rfl rfl rfl fun b0 hb a S => c_region (s_assign S rfl rfl fun a S => c_end (c_region (s_move S rfl rfl fun a S => s_move S rfl rfl fun a S => s_extCmp S X60 rfl rfl rfl fun a S => s_assign S rfl rfl fun a S => c_end (wp_ret ?_))))
 obtain rfl := Option.some.inj h0
 exact b_ret1 (d := (.i (Lib.compareBytes (u8s x1) (u8s x2)))) S rfl rfl (S.rt hb)
abbrev addr_Compare.Ty : Type := (List Int) → (List Int) → Option Int
def addr_Compare.Ctr (s : addr_Compare.Ty) : Prop := ∀ (x1 : List Int) (x2 : List Int) (r : Int), Ct (C := Unit) Try.prog 39 (s x1 x2 = some r) [] [(.agg [.b20 x1]), (.agg [.b20 x2])] (fun _ => (.i r)) fun _ => []
def addr_Compare.f (x1 : List Int) (x2 : List Int) : Option Int := (bytes_Compare.f (((x1).drop 0).take 20) (((x2).drop 0).take 20)).bind fun t1 => (some t1)
theorem addr_Compare.ok : addr_Compare.Ctr (addr_Compare.f) := by
 intro x1 x2 r h0 mi w0 ok hm
 delta addr_Compare.f at h0
 refine c_enterZ (n := 8) ok hm func39 rfl rfl rfl fun b0 hb a S => c_region (s_box S rfl rfl rfl fun g1 a w S => s_box S rfl rfl rfl fun g2 a w S => s_assign S rfl rfl fun a S => c_end ?_)
 replace S := S.freeze .h
 obtain ⟨m, le1, S⟩ := S
 replace S := S.freeze .h1
 obtain ⟨m, le1, S⟩ := S
 refine wp_seq (c_heldS S (.take 0 (.take 1 (.alts (.run 2 true (.take 3 .done) .nil)))) 4 [Res.fro g2 28 [.b20 x2], Res.fro g1 28 [.b20 x1]] (.c0 (.c0 .n)) ⟨Res.stay_fro, Res.stay_fro, trivial⟩ [(3, (.p g2)), (2, (.p g1))] (subR rfl) (by kernel_rfl) (by kernel_rfl) ?_); clear S; intro w S CL hw le
 refine h_sliceA S CL hw le (subR rfl) (i := 0) (j := 20) (o' := 0) (len := 20) (cap := 20) rfl underlying28 T5 (.inl ⟨rfl, rfl⟩) (.inl ⟨rfl, rfl⟩) (by decide) rfl rfl rfl rfl rfl trivial fun a S CL => h_sliceA S CL hw le (subR rfl) (i := 0) (j := 20) (o' := 0) (len := 20) (cap := 20) rfl underlying28 T5 (.inl ⟨rfl, rfl⟩) (.inl ⟨rfl, rfl⟩) (by decide) rfl rfl rfl rfl rfl trivial fun a S CL => h_run' S rfl trivial ?_
 replace S := (S.slup' (u := 5) (lo := 0) (c := 20) (ys := ((x1).drop 0).take 20) rfl (Pull.mem .h1).1 .h (.inl rfl) (by decide) (by decide) rfl).2
 replace S := (S.slup' (u := 6) (lo := 0) (c := 20) (ys := ((x2).drop 0).take 20) rfl (Pull.mem .h).1 .h (.inl rfl) (by decide) (by decide) rfl).2
 replace CL := CL.drop (lq' := [(3, (.p g2)), (2, (.p g1))]) (subR rfl)
 refine bindX h0 fun t1 et1 h1 => s_callP S _ N49 rfl rfl (bytes_Compare.ok (((x1).drop 0).take 20) (((x2).drop 0).take 20) (ad g1) 20 (ad g2) 20 t1 et1 _ _) fun ch1 m le1 a w S => ?_
 replace le := le.trans le1
 replace hw := CL.again hw S (.c0 (.c0 .n)) le
 refine h_back ⟨fun _ => hw, ?_⟩
 replace CL := CL.add (t := 7) (d := (.i t1)) S rfl rfl
 refine h_assign S CL hw le (subR rfl) rfl rfl rfl trivial fun a S CL => ?_
 refine h_done ?_; clear CL hw le
 refine x_thenN (wp_ret ?_)
 obtain rfl := Option.some.inj h1
 exact b_ret1 (d := (.i t1)) S rfl rfl (S.rt hb)
end
end GW
