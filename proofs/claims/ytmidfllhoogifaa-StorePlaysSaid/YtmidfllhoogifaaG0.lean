import Derived.Test.YtmidfllhoogifaaProg
import Derived.Test.YtmidfllhoogifaaGH
set_option linter.unusedVariables false
set_option linter.unusedSimpArgs false
set_option maxRecDepth 10000
set_option maxHeartbeats 4000000
namespace GW
open Go Go.RowKit Go.Proofs Go.Proofs.Try
noncomputable section
abbrev smithyref13_Empty.Ty : Type := (L30) → Option Bool
def smithyref13_Empty.Ctr (s : smithyref13_Empty.Ty) : Prop := ∀ (x1 : L30) (ch_0_0 : Option Addr) (ch_0_1 : Nat) (ch_0_2 : Option Addr) (ch_0_3 : Nat) (r : Bool), Ct (C := Unit) Try.prog 13 (s x1 = some r) [] [(.agg [.b20 x1.1, .w x1.2.1, .w4 x1.2.2.1, .q yb ch_0_0 ch_0_1 x1.2.2.2.1, .q Y66 ch_0_2 ch_0_3 x1.2.2.2.2])] (fun _ => (.b r)) fun _ => []
def smithyref13_Empty.f (x1 : L30) : Option Bool := if (x1.2.1 == 0) = true then (if (decide (x1.2.2.1 = [0, 0, 0, 0])) = true then (if (((x1.2.2.2.1).length : Int) == 0) = true then (some (((x1.2.2.2.2).length : Int) == 0)) else (some false)) else (some false)) else (some false)
theorem smithyref13_Empty.ok : smithyref13_Empty.Ctr (smithyref13_Empty.f) := by
 intro x1 ch_0_0 ch_0_1 ch_0_2 ch_0_3 r h0 mi w0 ok hm
 delta smithyref13_Empty.f at h0
 refine c_enterZ (n := 24) ok hm func13 rfl rfl rfl fun b0 hb a S => c_region (s_box S rfl rfl rfl fun g1 a w S => s_assign S rfl rfl fun a S => c_end (c_region (s_fieldAddr S rfl I30_1 T24 (by decide) rfl rfl fun a S => s_load1 S rfl .h T24 (v := (.int .u64 x1.2.1)) rfl rfl fun a S => s_bin S rfl rfl rfl rfl fun a S => s_move S rfl rfl fun a S => ?_)))
 rcases ite_of h0 with ⟨c1, h1⟩ | ⟨c1, h1⟩
 ·refine s_gT S (b := (x1.2.1 == 0)) rfl rfl c1 (s_fieldAddr S rfl I30_2 T26 (by decide) rfl rfl fun a S => s_gT S (b := (x1.2.1 == 0)) rfl rfl c1 (s_loada S rfl .h T26 (s' := [.w4 x1.2.2.1]) rfl rfl fun a S => s_gT S (b := (x1.2.1 == 0)) rfl rfl c1 (s_build S (ds := []) (dv := (.a4 [0, 0, 0, 0])) rfl (fun _ => by kernel_rfl) ⟨rfl, trivial⟩ rfl fun a S => s_gT S (b := (x1.2.1 == 0)) rfl rfl c1 (s_eqa S rfl rfl underlying26 underlying24 T24 Q26 rfl fun a S => s_pick S (b := true) (hc_of rfl c1) rfl rfl fun a S => s_move S rfl rfl fun a S => ?_))))
  rcases ite_of h1 with ⟨c2, h2⟩ | ⟨c2, h2⟩
  ·refine s_gT S (b := (decide (x1.2.2.1 = [0, 0, 0, 0]))) rfl rfl c2 (s_fieldAddr S rfl I30_3 T27 (by decide) rfl rfl fun a S => s_gT S (b := (decide (x1.2.2.1 = [0, 0, 0, 0]))) rfl rfl c2 (s_loadSl S rfl .h T27 (A := ch_0_0) (len := (x1.2.2.2.1).length) (cap := ch_0_1) rfl rfl fun a S => s_gT S (b := (decide (x1.2.2.1 = [0, 0, 0, 0]))) rfl rfl c2 (s_lenS S rfl underlying27 rfl fun a S => s_gT S (b := (decide (x1.2.2.1 = [0, 0, 0, 0]))) rfl rfl c2 (s_bin S rfl rfl rfl rfl fun a S => s_pick S (b := true) (hc_of rfl c2) rfl rfl fun a S => s_move S rfl rfl fun a S => ?_))))
   rcases ite_of h2 with ⟨c3, h3⟩ | ⟨c3, h3⟩
   ·refine s_gT S (b := (((x1.2.2.2.1).length : Int) == 0)) rfl rfl c3 (s_fieldAddr S rfl I30_4 T28 (by decide) rfl rfl fun a S => s_gT S (b := (((x1.2.2.2.1).length : Int) == 0)) rfl rfl c3 (s_loadSl S rfl .h T28 (A := ch_0_2) (len := (x1.2.2.2.2).length) (cap := ch_0_3) rfl rfl fun a S => s_gT S (b := (((x1.2.2.2.1).length : Int) == 0)) rfl rfl c3 (s_lenS S rfl underlying28 rfl fun a S => s_gT S (b := (((x1.2.2.2.1).length : Int) == 0)) rfl rfl c3 (s_bin S rfl rfl rfl rfl fun a S => s_pick S (b := true) (hc_of rfl c3) rfl rfl fun a S => s_assign S rfl rfl fun a S => c_end (wp_ret ?_)))))
    obtain rfl := Option.some.inj h3
    exact b_ret1 (d := (.b (((x1.2.2.2.2).length : Int) == 0))) S rfl rfl (S.rt hb)
   ·refine s_gF S (b := (((x1.2.2.2.1).length : Int) == 0)) rfl rfl c3 rfl fun a S => s_gF S (b := (((x1.2.2.2.1).length : Int) == 0)) rfl rfl c3 rfl fun a S => s_gF S (b := (((x1.2.2.2.1).length : Int) == 0)) rfl rfl c3 rfl fun a S => s_gF S (b := (((x1.2.2.2.1).length : Int) == 0)) rfl rfl c3 rfl fun a S => s_pick S (b := false) (hc_of rfl c3) rfl rfl fun a S => s_assign S rfl rfl fun a S => c_end (wp_ret ?_)
    obtain rfl := Option.some.inj h3
    exact b_ret1 (d := (.b false)) S rfl rfl (S.rt hb)
  ·refine s_gF S (b := (decide (x1.2.2.1 = [0, 0, 0, 0]))) rfl rfl c2 rfl fun a S => s_gF S (b := (decide (x1.2.2.1 = [0, 0, 0, 0]))) rfl rfl c2 rfl fun a S => s_gF S (b := (decide (x1.2.2.1 = [0, 0, 0, 0]))) rfl rfl c2 rfl fun a S => s_gF S (b := (decide (x1.2.2.1 = [0, 0, 0, 0]))) rfl rfl c2 rfl fun a S => s_pick S (b := false) (hc_of rfl c2) rfl rfl fun a S => s_move S rfl rfl fun a S => s_gF S (b := false) rfl rfl rfl rfl fun a S => s_gF S (b := false) rfl rfl rfl rfl fun a S => s_gF S (b := false) rfl rfl rfl rfl fun a S => s_gF S (b := false) rfl rfl rfl rfl fun a S => s_pick S (b := false) (hc_of rfl rfl) rfl rfl fun a S => s_assign S rfl rfl fun a S => c_end (wp_ret ?_)
   obtain rfl := Option.some.inj h2
   exact b_ret1 (d := (.b false)) S rfl rfl (S.rt hb)
 ·refine s_gF S (b := (x1.2.1 == 0)) rfl rfl c1 rfl fun a S => s_gF S (b := (x1.2.1 == 0)) rfl rfl c1 rfl fun a S => s_gF S (b := (x1.2.1 == 0)) rfl rfl c1 rfl fun a S => s_gF S (b := (x1.2.1 == 0)) rfl rfl c1 rfl fun a S => s_pick S (b := false) (hc_of rfl c1) rfl rfl fun a S => s_move S rfl rfl fun a S => s_gF S (b := false) rfl rfl rfl rfl fun a S => s_gF S (b := false) rfl rfl rfl rfl fun a S => s_gF S (b := false) rfl rfl rfl rfl fun a S => s_gF S (b := false) rfl rfl rfl rfl fun a S => s_pick S (b := false) (hc_of rfl rfl) rfl rfl fun a S => s_move S rfl rfl fun a S => s_gF S (b := false) rfl rfl rfl rfl fun a S => s_gF S (b := false) rfl rfl rfl rfl fun a S => s_gF S (b := false) rfl rfl rfl rfl fun a S => s_gF S (b := false) rfl rfl rfl rfl fun a S => s_pick S (b := false) (hc_of rfl rfl) rfl rfl fun a S => s_assign S rfl rfl fun a S => c_end (wp_ret ?_)
  obtain rfl := Option.some.inj h1
  exact b_ret1 (d := (.b false)) S rfl rfl (S.rt hb)
abbrev smithyref13_Some.Ty : Type := (List L30) → Option ((List L30))
def smithyref13_Some.Ctr (s : smithyref13_Some.Ty) : Prop := ∀ (x1 : List L30) (ch_0_0 : Option Addr) (ch_0_1 : Nat) (r : (List L30)), Ct (C := ((Option Addr) × Nat × Nat)) Try.prog 27 (s x1 = some r) [] [(.q Y30 ch_0_0 ch_0_1 x1)] (fun ch => (.s ch.1 ch.2.1 ch.2.2)) fun ch => [Res.row Y30 30 ch.1 ch.2.1 ch.2.2 r]
def smithyref13_Some.j1 (y1 : List L30) : Option ((List L30)) := some y1
def smithyref13_Some.j2 (y6 : Int) (rec1 : Int → (List L30) → Option ((List L30))) (y8 : List L30) : Option ((List L30)) := rec1 (wr .i64 (y6 + 1)) y8
def smithyref13_Some.b1 (x1 : List L30) (rec1 : Int → (List L30) → Option ((List L30))) (y6 : Int) (y7 : List L30) : Option ((List L30)) := if (decide (y6 < ((x1).length : Int))) = true then (if (0 : Int) ≤ y6 ∧ y6 < ((x1).length : Int) then ((smithyref13_Empty.f (gt x1 y6)).bind fun t1 => (if (!t1) = true then (if ((y7).length + ([gt x1 y6]).length) * 112 ≤ 140737488355328 then (smithyref13_Some.j2 y6 rec1 (y7 ++ [gt x1 y6])) else none) else (smithyref13_Some.j2 y6 rec1 y7))) else none) else (smithyref13_Some.j1 y7)
def smithyref13_Some.l1 (x1 : List L30) : Nat → Int → (List L30) → Option ((List L30))
  | 0, _, _ => none
  | q + 1, y6, y7 => smithyref13_Some.b1 x1 (smithyref13_Some.l1 x1 q) y6 y7
def smithyref13_Some.f (k : Nat) (x1 : List L30) : Option ((List L30)) := smithyref13_Some.l1 x1 k 0 ([] : List L30)
theorem smithyref13_Some.ok (k : Nat) : smithyref13_Some.Ctr (smithyref13_Some.f k) := by
 intro x1 ch_0_0 ch_0_1 r h0 mi w0 ok hm
 delta smithyref13_Some.f at h0
 refine c_enterZ (n := 26) ok hm func27 rfl rfl rfl fun b0 hb a S => c_region (s_assign S rfl rfl fun a S => c_end (c_region (s_bldSl S (ty' := Y30) (ds := []) (z := zt1) (c0 := ((), (), (), (none, 0), (none, 0))) (ys := ([] : List L30)) (cs := []) rfl underlying32 J30 Z30 rfl ⟨rfl, rfl, rfl, ⟨Nat.le_refl _, Nat.zero_le _, RdS.nil _ _ _, RdS.mono _ _ _⟩, ⟨Nat.le_refl _, Nat.zero_le _, RdS.nil _ _ _, RdS.mono _ _ _⟩, trivial⟩ rfl rfl rfl rfl rfl rfl fun g1 a w S => s_assign S rfl rfl fun a S => c_end (wp_seq_k fun K1 hK1 => ?_))))
 have j1 : ∀ m A1 nn1 cp1 y1 a w, St 26 m b0 [(3, (.s A1 nn1 cp1))] [Res.row Y30 30 A1 nn1 cp1 y1] a w → smithyref13_Some.j1 y1 = some r → K1 a w := by
  intro m A1 nn1 cp1 y1 a w S h0
  delta smithyref13_Some.j1 at h0
  refine hK1 a w (c_region (s_move S rfl rfl fun a S => s_assign S rfl rfl fun a S => c_end (wp_ret ?_)))
  obtain rfl := Option.some.inj h0
  exact b_ret1 (d := (.s A1 nn1 cp1)) S rfl rfl fun ok => S.retX (Hx := []) hb _ _ ((A1, nn1, cp1) : (Option Addr) × Nat × Nat) (.c0 .n) ok
 refine c_region (s_move S rfl rfl fun a S => s_lenS S rfl underlying32 rfl fun a S => s_move S rfl rfl fun a S => c_end (wp_block ?_))
 refine c_loop (fun q1 a w => ∃ m y6 A2 nn5 cp7 y7, St 26 m b0 [(8, (.i y6)), (7, (.i ((x1).length : Int))), (3, (.s A2 nn5 cp7)), (0, (.q Y30 ch_0_0 ch_0_1 x1))] [Res.row Y30 30 A2 nn5 cp7 y7] a w ∧ smithyref13_Some.l1 x1 q1 y6 y7 = some r) ?_ ?_ (k := k) ⟨_, 0, (ad g1), 0, 0, ([] : List L30), (S.sb rfl (.c0 .n)), h0⟩
 ·rintro a w ⟨m, y6, A2, nn5, cp7, y7, S, h0⟩
  exact (nomatch (show (none : Option ((List L30))) = some r from h0))
 ·clear S h0
  rintro q1 a w ⟨m, y6, A2, nn5, cp7, y7, S, h0⟩
  replace h0 : smithyref13_Some.b1 x1 (smithyref13_Some.l1 x1 q1) y6 y7 = some r := h0
  delta smithyref13_Some.b1 at h0
  refine c_region (s_bin S rfl rfl rfl rfl fun a S => c_end (wp_seq ?_))
  rcases ite_of h0 with ⟨c1, h1⟩ | ⟨c1, h1⟩
  ·refine c_condT S rfl c1 (wp_skip (x_thenN (wp_seq_k fun K2 hK2 => ?_)))
   have j2 : ∀ m A3 nn6 cp9 y8 a w, St 26 m b0 [(3, (.s A3 nn6 cp9)), (8, (.i y6)), (7, (.i ((x1).length : Int))), (0, (.q Y30 ch_0_0 ch_0_1 x1))] [Res.row Y30 30 A3 nn6 cp9 y8] a w → smithyref13_Some.j2 y6 (smithyref13_Some.l1 x1 q1) y8 = some r → K2 a w := by
    intro m A3 nn6 cp9 y8 a w S h0
    delta smithyref13_Some.j2 at h0
    refine hK2 a w (c_region' (s_bin S rfl rfl rfl rfl fun a S => s_move S rfl rfl fun a S => c_end' (x_thenN ?_)))
    exact ⟨_, (wr .i64 (y6 + 1)), A3, nn6, cp9, y8, (S.sb rfl (.c0 .n)), h0⟩
   refine wp_block (c_region (s_move S rfl rfl fun a S => s_assign S rfl rfl fun a S => c_end (c_region (s_move S rfl rfl fun a S => s_move S rfl rfl fun a S => ?_))))
   obtain ⟨c2, h2⟩ := chk_of h1; clear h1
   refine s_iaddrS S rfl rfl rfl underlying32 T30 c2.1 c2.2 rfl fun p1 a S => s_ldA S (fun (c : Unit × Unit × Unit × (Option Addr × Nat) × (Option Addr × Nat)) => [.b20 ((gt x1 y6).1), .w ((gt x1 y6).2.1), .w4 ((gt x1 y6).2.2.1), .q yb c.2.2.2.1.1 c.2.2.2.1.2 ((gt x1 y6).2.2.2.1), .q Y66 c.2.2.2.2.1 c.2.2.2.2.2 ((gt x1 y6).2.2.2.2)]) rfl T30 (fun _ => rfl) rfl fun ch1 a S => ?_
   refine bindX h2 fun t1 et1 h3 => s_callP S _ N13 rfl rfl (smithyref13_Empty.ok (gt x1 y6) ch1.2.2.2.1.1 ch1.2.2.2.1.2 ch1.2.2.2.2.1 ch1.2.2.2.2.2 t1 et1 _ _) fun ch2 m le1 a w S => s_not S rfl rfl fun a S => c_end ?_
   rcases ite_of h3 with ⟨c3, h4⟩ | ⟨c3, h4⟩
   ·refine c_condT S rfl c3 (c_region' (s_move S rfl rfl fun a S => s_move S rfl rfl fun a S => s_move S rfl rfl fun a S => s_iaddrS S rfl rfl rfl underlying32 T30 c2.1 c2.2 rfl fun p2 a S => s_ldA S (fun (c : Unit × Unit × Unit × (Option Addr × Nat) × (Option Addr × Nat)) => [.b20 ((gt x1 y6).1), .w ((gt x1 y6).2.1), .w4 ((gt x1 y6).2.2.1), .q yb c.2.2.2.1.1 c.2.2.2.1.2 ((gt x1 y6).2.2.2.1), .q Y66 c.2.2.2.2.1 c.2.2.2.2.2 ((gt x1 y6).2.2.2.2)]) rfl T30 (fun _ => rfl) rfl fun ch3 a S => ?_))
    refine s_bldSl S (ty' := Y30) (ds := [(0, (.agg [.b20 ((gt x1 y6).1), .w ((gt x1 y6).2.1), .w4 ((gt x1 y6).2.2.1), .q yb ch3.2.2.2.1.1 ch3.2.2.2.1.2 ((gt x1 y6).2.2.2.1), .q Y66 ch3.2.2.2.2.1 ch3.2.2.2.2.2 ((gt x1 y6).2.2.2.2)]))]) (z := zt1) (c0 := ((), (), (), (none, 0), (none, 0))) (ys := [gt x1 y6]) (cs := [((), (), (), (ch3.2.2.2.1.1, ch3.2.2.2.1.2), (ch3.2.2.2.2.1, ch3.2.2.2.2.2))]) rfl underlying32 J30 Z30 rfl ⟨rfl, rfl, rfl, ⟨Nat.le_refl _, Nat.zero_le _, RdS.nil _ _ _, RdS.mono _ _ _⟩, ⟨Nat.le_refl _, Nat.zero_le _, RdS.nil _ _ _, RdS.mono _ _ _⟩, trivial⟩ rfl rfl rfl rfl rfl rfl fun g3 a w S => ?_
    obtain ⟨c4, h5⟩ := chk_of h4; clear h4
    refine s_app S (k2 := 1) (ys := [gt x1 y6]) rfl (fun _ _ => .h1) rfl rfl (S.holds _ (Pull.mem .h).1).1 (Res.row.src (S.holds _ (Pull.mem .h).1)) underlying32 J30 c4 rfl fun A4 cp10 a w S => s_assign S rfl rfl fun a S => c_end' (x_blockN (x_thenN ?_))
    exact j2 _ A4 (nn5 + 1) cp10 (y7 ++ [gt x1 y6]) a w (S.sb rfl (.c1 .n)) h5
   ·refine c_condF S rfl c3 (wp_skip (x_blockN (x_thenN ?_)))
    exact j2 _ A2 nn5 cp7 y7 a w (S.sb rfl (.c0 .n)) h4
  ·refine c_condF S rfl c1 (wp_exit (x_thenX (x_thenX (x_blockX (x_thenN ?_)))))
   exact j1 _ A2 nn5 cp7 y7 a w (S.sub ⟨rfl, trivial⟩ (.c0 .n)) h1
abbrev smithylaw13_StorePlays.Ty : Type := (List (Int × (List L30))) → (List Int) → (List Int) → Option Bool
def smithylaw13_StorePlays.Ctr (s : smithylaw13_StorePlays.Ty) : Prop := ∀ (x1 : List (Int × (List L30))) (x2 : List Int) (x3 : List Int) (ch_0_0 : Option Addr) (ch_0_1 : Nat) (r : Bool), Ct (C := Unit) Try.prog 6 (s x1 x2 x3 = some r) [] [(.q Y40 ch_0_0 ch_0_1 x1), (.agg [.b20 x2]), (.a4 x3)] (fun _ => (.b r)) fun _ => []
def smithylaw13_StorePlays.j2 : Option Bool := some true
def smithylaw13_StorePlays.j3 (y6 : Int) (rec1 : Int → Option Bool) : Option Bool := rec1 (wr .i64 (y6 + 1))
def smithylaw13_StorePlays.j5 (y6 : Int) (rec1 : Int → Option Bool) (y17 : Bool) : Option Bool := if y17 = true then (some false) else (smithylaw13_StorePlays.j3 y6 rec1)
def smithylaw13_StorePlays.j7 (y6 : Int) (rec1 : Int → Option Bool) (y24 : Bool) : Option Bool := if y24 = true then (some false) else (smithylaw13_StorePlays.j3 y6 rec1)
def smithylaw13_StorePlays.j6 (k : Nat) (x2 : List Int) (x3 : List Int) (y1 : List (Int × (List L30))) (y2 : List (Int × (List ((List Int) × L30)))) (y6 : Int) (rec1 : Int → Option Bool) (t4 : (L30) × Bool) (t5 : Int × Bool) (y18 : Bool) (y19 : List Int) (y20 : Int) (y21 : List Int) (y22 : List Int) (y23 : List ((List Int) × (List Int))) : Option Bool := if (!(t4.2 == y18)) = true then (smithylaw13_StorePlays.j7 y6 rec1 true) else ((smithyref13_Same.f k t4.1 (y19, y20, y21, y22, y23)).bind fun t17 => (if (!t17) = true then (smithylaw13_StorePlays.j7 y6 rec1 true) else ((store_Store_Slot.f k (y2) y6 x2 x3).bind fun t18 => ((smithyref13_Slot.f k (y19, y20, y21, y22, y23) x3).bind fun t19 => (if (!(decide (t18 = t19))) = true then (smithylaw13_StorePlays.j7 y6 rec1 true) else (if (0 : Int) ≤ y6 ∧ y6 < ((y1).length : Int) then ((store_Store_All.f k (y2) y6).bind fun t20 => ((smithyref13_Some.f k ((gt y1 y6).2)).bind fun t21 => ((smithyref13_SameAll.f k t20 t21).bind fun t22 => (if (!t22) = true then (smithylaw13_StorePlays.j7 y6 rec1 true) else (if (!(t5.2 == (decide (0 < y6)))) = true then (smithylaw13_StorePlays.j7 y6 rec1 true) else (if t5.2 = true then (smithylaw13_StorePlays.j7 y6 rec1 (t5.1 != ((gt y1 y6).1))) else (smithylaw13_StorePlays.j7 y6 rec1 false))))))) else none))))))
def smithylaw13_StorePlays.j4 (k : Nat) (x2 : List Int) (x3 : List Int) (y1 : List (Int × (List L30))) (y2 : List (Int × (List ((List Int) × L30)))) (y6 : Int) (rec1 : Int → Option Bool) (t4 : (L30) × Bool) (t5 : Int × Bool) (y16 : Bool) : Option Bool := if y16 = true then (if t4.2 = true then (smithylaw13_StorePlays.j5 y6 rec1 true) else (if t5.2 = true then (smithylaw13_StorePlays.j5 y6 rec1 true) else ((store_Store_All.f k (y2) y6).bind fun t8 => (if (decide (0 < ((t8).length : Int))) = true then (smithylaw13_StorePlays.j5 y6 rec1 true) else ((store_Store_Slot.f k (y2) y6 x2 x3).bind fun t9 => (smithylaw13_StorePlays.j5 y6 rec1 (!(decide (t9 = [0, 0, 0, 0]))))))))) else (if (0 : Int) ≤ y6 ∧ y6 < ((y1).length : Int) then ((smithyref13_Find.f k ((gt y1 y6).2) x2).bind fun t23 => (smithylaw13_StorePlays.j6 k x2 x3 y1 y2 y6 rec1 t4 t5 t23.2 t23.1.1 t23.1.2.1 t23.1.2.2.1 t23.1.2.2.2.1 t23.1.2.2.2.2)) else none)
def smithylaw13_StorePlays.b1 (k : Nat) (x2 : List Int) (x3 : List Int) (y1 : List (Int × (List L30))) (y2 : List (Int × (List ((List Int) × L30)))) (rec1 : Int → Option Bool) (y6 : Int) : Option Bool := if (decide (y6 ≤ ((y1).length : Int))) = true then ((store_Store_Find.f k (y2) y6 x2).bind fun t4 => ((store_Store_Parent.f (y2) y6).bind fun t5 => (if (decide (y6 < 0)) = true then (smithylaw13_StorePlays.j4 k x2 x3 y1 y2 y6 rec1 t4 t5 true) else (smithylaw13_StorePlays.j4 k x2 x3 y1 y2 y6 rec1 t4 t5 (y6 == ((y1).length : Int)))))) else smithylaw13_StorePlays.j2
def smithylaw13_StorePlays.l1 (k : Nat) (x2 : List Int) (x3 : List Int) (y1 : List (Int × (List L30))) (y2 : List (Int × (List ((List Int) × L30)))) : Nat → Int → Option Bool
  | 0, _ => none
  | q + 1, y6 => smithylaw13_StorePlays.b1 k x2 x3 y1 y2 (smithylaw13_StorePlays.l1 k x2 x3 y1 y2 q) y6
def smithylaw13_StorePlays.j1 (k : Nat) (x2 : List Int) (x3 : List Int) (y1 : List (Int × (List L30))) (y2 : List (Int × (List ((List Int) × L30)))) : Option Bool := smithylaw13_StorePlays.l1 k x2 x3 y1 y2 k (-1)
def smithylaw13_StorePlays.j8 (y31 : Int) (rec2 : (List (Int × (List L30))) → Int → (List (Int × (List ((List Int) × L30)))) → Option Bool) (t29 : Int × Int × L72) (t30 : Int × Int × (List (Int × (List L30)))) (y33 : Bool) : Option Bool := if y33 = true then (some false) else (rec2 t30.2.2 (wr .i64 (y31 + 1)) t29.2.2)
def smithylaw13_StorePlays.b2 (k : Nat) (x2 : List Int) (x3 : List Int) (t24 : (List (Int × (List L30)))) (rec2 : (List (Int × (List L30))) → Int → (List (Int × (List ((List Int) × L30)))) → Option Bool) (y30 : List (Int × (List L30))) (y31 : Int) (y32 : List (Int × (List ((List Int) × L30)))) : Option Bool := if (decide (y31 < ((t24).length : Int))) = true then (if (0 : Int) ≤ y31 ∧ y31 < ((t24).length : Int) then ((store_Store_Commit.f k (y32) ((gt t24 y31).1) ((gt t24 y31).2)).bind fun t29 => ((smithyref13_Commit.f k y30 ((gt t24 y31).1) ((gt t24 y31).2)).bind fun t30 => (if (t29.1 != t30.1) = true then (smithylaw13_StorePlays.j8 y31 rec2 t29 t30 true) else (if (t29.2.1 != t30.2.1) = true then (smithylaw13_StorePlays.j8 y31 rec2 t29 t30 true) else ((store_Store_Len.f (t29.2.2)).bind fun t32 => (smithylaw13_StorePlays.j8 y31 rec2 t29 t30 (t32 != ((t30.2.2).length : Int)))))))) else none) else (smithylaw13_StorePlays.j1 k x2 x3 y30 y32)
def smithylaw13_StorePlays.l2 (k : Nat) (x2 : List Int) (x3 : List Int) (t24 : (List (Int × (List L30)))) : Nat → (List (Int × (List L30))) → Int → (List (Int × (List ((List Int) × L30)))) → Option Bool
  | 0, _, _, _ => none
  | q + 1, y30, y31, y32 => smithylaw13_StorePlays.b2 k x2 x3 t24 (smithylaw13_StorePlays.l2 k x2 x3 t24 q) y30 y31 y32
def smithylaw13_StorePlays.f (k : Nat) (x1 : List (Int × (List L30))) (x2 : List Int) (x3 : List Int) : Option Bool := (store_New.f).bind fun t1 => ((smithylaw13_fixed.f k).bind fun t2 => (if (!t2) = true then (some false) else ((smithylaw13_cut.f k x1).bind fun t24 => (smithylaw13_StorePlays.l2 k x2 x3 t24 k [((-1), ([] : List L30))] 0 t1))))
theorem smithylaw13_StorePlays.ok (k : Nat) : smithylaw13_StorePlays.Ctr (smithylaw13_StorePlays.f k) := by
 intro x1 x2 x3 ch_0_0 ch_0_1 r h0 mi w0 ok hm
 delta smithylaw13_StorePlays.f at h0
 refine c_enterZ (n := 183) ok hm func6 rfl rfl rfl fun b0 hb a S => c_region (s_box S rfl rfl rfl fun g1 a w S => s_box S rfl rfl rfl fun g2 a w S => s_assign S rfl rfl fun a S => c_end (c_region (bindX h0 fun t1 et1 h1 => s_callX S (ds' := []) (ds := []) [] [Res.cells g2 26 [.w4 x3], Res.cells g1 23 [.b20 x2]] (fun (ch : Nat × (Option Addr) × Nat × Nat) => ((.v (.pointer (some ⟨ch.1, 0, none⟩))) : D)) (fun (ch : Nat × (Option Addr) × Nat × Nat) => [Res.cells ch.1 74 [.s ch.2.1 ch.2.2.1 ch.2.2.2], Res.row (Ty.prod yi Y69) 71 ch.2.1 ch.2.2.1 ch.2.2.2 t1]) (fun (ch : Nat × (Option Addr) × Nat × Nat) => [Res.cells ch.1 74 [.s ch.2.1 ch.2.2.1 ch.2.2.2], Res.row (Ty.prod yi Y69) 71 ch.2.1 ch.2.2.1 ch.2.2.2 t1, Res.cells g2 26 [.w4 x3], Res.cells g1 23 [.b20 x2]]) (fun _ => rfl) N14 rfl rfl (fun ok => ok) (.c0 (.c0 .n)) rfl (store_New.ok t1 et1 _ _) fun ch1 m le1 a w S => s_assign S rfl rfl fun a S => c_end (c_region (s_bldS S (ds := [(0, (.i (-1)))]) (zs := [.i 0, .s none 0 0]) (s' := [.i (-1), .s none 0 0]) rfl underlying53 P53 Z53 ⟨rfl, rfl, trivial⟩ rfl rfl fun a S => ?_)))))
 replace S := S.slot (u := 24) (d' := (.agg [.i (-1), .q Y30 none 0 ([] : List L30)])) rfl rfl (by have h := (S.get 24 (.agg [.i (-1), .s none 0 0]) rfl).2; exact ⟨h.1, ok_nil, trivial⟩)
 refine s_bldSl S (ty' := Y53) (ds := [(0, (.agg [.i (-1), .q Y30 none 0 ([] : List L30)]))]) (z := (0, ([] : List L30))) (c0 := ((), (none, 0))) (ys := [((-1), ([] : List L30))]) (cs := [((), (none, 0))]) rfl underlying54 J53 Z53 rfl ⟨rfl, ⟨Nat.le_refl _, Nat.zero_le _, RdS.nil _ _ _, RdS.mono _ _ _⟩, trivial⟩ rfl rfl rfl rfl rfl rfl fun g3 a w S => s_assign S rfl rfl fun a S => c_end (wp_seq (c_region (s_move S rfl rfl fun a S => s_eqp S (b := false) rfl rfl underlying36 rfl rfl fun a S => s_move S rfl rfl fun a S => s_gT S (b := false) rfl rfl rfl (bindX h1 fun t2 et2 h2 => s_callP S _ N9 rfl rfl (smithylaw13_fixed.ok k t2 et2 _ _) fun ch2 m le1 a w S => s_gT S (b := false) rfl rfl rfl (s_not S rfl rfl fun a S => s_pick S (b := false) (hc_of rfl rfl) rfl rfl fun a S => c_end ?_)))))
 rcases ite_of h2 with ⟨c1, h3⟩ | ⟨c1, h3⟩
 ·refine c_condT S rfl c1 (c_region (s_assign S rfl rfl fun a S => c_end (wp_ret (x_thenR ?_))))
  obtain rfl := Option.some.inj h3
  exact b_ret1 (d := (.b false)) S rfl rfl (S.rt hb)
 ·refine c_condF S rfl c1 (wp_skip (x_thenN (wp_seq_k fun K1 hK1 => ?_)))
  have j1 : ∀ (m : Mem) (A1 : Option Addr) (cp1 : Nat) (y1 : List (Int × (List L30))) (g21 : Nat) (g22 : Nat) (g23 : Nat) (A2 : Option Addr) (nn1 : Nat) (cp2 : Nat) (y2 : List (Int × (List ((List Int) × L30)))) (a : Act) (w : World), St 183 m b0 [(8, (.q Y53 A1 cp1 y1)), (7, (.p g21)), (5, (.p g22)), (4, (.p g23))] [Res.cells g21 74 [.s A2 nn1 cp2], Res.row (Ty.prod yi Y69) 71 A2 nn1 cp2 y2, Res.cells g22 26 [.w4 x3], Res.cells g23 23 [.b20 x2]] a w → smithylaw13_StorePlays.j1 k x2 x3 y1 y2 = some r → K1 a w := by
   intro m A1 cp1 y1 g21 g22 g23 A2 nn1 cp2 y2 a w S h0
   delta smithylaw13_StorePlays.j1 at h0
   refine hK1 a w (wp_seq_k fun K2 hK2 => ?_)
   have j2 : ∀ m a w, St 183 m b0 [] [] a w → smithylaw13_StorePlays.j2 = some r → K2 a w := by
    intro m a w S h0
    delta smithylaw13_StorePlays.j2 at h0
    refine hK2 a w (c_region (s_assign S rfl rfl fun a S => c_end (wp_ret ?_)))
    obtain rfl := Option.some.inj h0
    exact b_ret1 (d := (.b true)) S rfl rfl (S.rt hb)
   refine c_region (s_assign S rfl rfl fun a S => c_end (wp_block ?_))
   refine c_loop (fun q1 a w => ∃ m y6 g93 g94 g95, St 183 m b0 [(16, (.i y6)), (8, (.q Y53 A1 cp1 y1)), (7, (.p g93)), (5, (.p g94)), (4, (.p g95))] [Res.cells g93 74 [.s A2 nn1 cp2], Res.row (Ty.prod yi Y69) 71 A2 nn1 cp2 y2, Res.cells g94 26 [.w4 x3], Res.cells g95 23 [.b20 x2]] a w ∧ smithylaw13_StorePlays.l1 k x2 x3 y1 y2 q1 y6 = some r) ?_ ?_ (k := k) ⟨_, (-1), g21, g22, g23, (S.sb rfl (.c0 (.c0 (.c0 (.c0 .n))))), h0⟩
   ·rintro a w ⟨m, y6, g93, g94, g95, S, h0⟩
    exact (nomatch (show (none : Option Bool) = some r from h0))
   ·clear S h0
    rintro q1 a w ⟨m, y6, g93, g94, g95, S, h0⟩
    replace h0 : smithylaw13_StorePlays.b1 k x2 x3 y1 y2 (smithylaw13_StorePlays.l1 k x2 x3 y1 y2 q1) y6 = some r := h0
    delta smithylaw13_StorePlays.b1 at h0
    refine wp_seq (c_region (s_move S rfl rfl fun a S => s_move S rfl rfl fun a S => s_lenS S rfl underlying54 rfl fun a S => s_bin S rfl rfl rfl rfl fun a S => c_end ?_))
    rcases ite_of h0 with ⟨c2, h1⟩ | ⟨c2, h1⟩
    ·refine c_condT S rfl c2 (wp_skip (x_thenN (wp_seq_k fun K3 hK3 => ?_)))
     have j3 : ∀ m g113 g114 g115 a w, St 183 m b0 [(16, (.i y6)), (8, (.q Y53 A1 cp1 y1)), (7, (.p g113)), (5, (.p g114)), (4, (.p g115))] [Res.cells g113 74 [.s A2 nn1 cp2], Res.row (Ty.prod yi Y69) 71 A2 nn1 cp2 y2, Res.cells g114 26 [.w4 x3], Res.cells g115 23 [.b20 x2]] a w → smithylaw13_StorePlays.j3 y6 (smithylaw13_StorePlays.l1 k x2 x3 y1 y2 q1) = some r → K3 a w := by
      intro m g113 g114 g115 a w S h0
      delta smithylaw13_StorePlays.j3 at h0
      refine hK3 a w (c_region' (s_move S rfl rfl fun a S => s_bin S rfl rfl rfl rfl fun a S => s_assign S rfl rfl fun a S => c_end' (x_thenN ?_)))
      exact ⟨_, (wr .i64 (y6 + 1)), g113, g114, g115, (S.sb rfl (.c0 (.c0 (.c0 (.c0 .n))))), h0⟩
     refine wp_block (c_region (s_move S rfl rfl fun a S => s_move S rfl rfl fun a S => s_loada S rfl .h3 T23 (s' := [.b20 x2]) rfl rfl fun a S => bindX h1 fun t4 et4 h2 => s_callX S (ds' := [(.p g93), (.i y6), (.agg [.b20 x2])]) (ds := [(.p g93), (.i y6), (.agg [.b20 x2])]) [Res.cells g93 74 [.s A2 nn1 cp2], Res.row (Ty.prod yi Y69) 71 A2 nn1 cp2 y2] [Res.cells g94 26 [.w4 x3], Res.cells g95 23 [.b20 x2]] (fun (ch : (Option Addr) × Nat × Nat × (Option Addr) × Nat × Nat) => ((.tup [(true, [.b20 t4.1.1, .w t4.1.2.1, .w4 t4.1.2.2.1, .s ch.1 ch.2.1 ch.2.2.1, .s ch.2.2.2.1 ch.2.2.2.2.1 ch.2.2.2.2.2]), (false, [.b t4.2])]) : D)) (fun (ch : (Option Addr) × Nat × Nat × (Option Addr) × Nat × Nat) => [Res.row yb 5 ch.1 ch.2.1 ch.2.2.1 t4.1.2.2.2.1, Res.row Y66 66 ch.2.2.2.1 ch.2.2.2.2.1 ch.2.2.2.2.2 t4.1.2.2.2.2, Res.cells g93 74 [.s A2 nn1 cp2], Res.row (Ty.prod yi Y69) 71 A2 nn1 cp2 y2]) (fun (ch : (Option Addr) × Nat × Nat × (Option Addr) × Nat × Nat) => [Res.row yb 5 ch.1 ch.2.1 ch.2.2.1 t4.1.2.2.2.1, Res.row Y66 66 ch.2.2.2.1 ch.2.2.2.2.1 ch.2.2.2.2.2 t4.1.2.2.2.2, Res.cells g93 74 [.s A2 nn1 cp2], Res.row (Ty.prod yi Y69) 71 A2 nn1 cp2 y2, Res.cells g94 26 [.w4 x3], Res.cells g95 23 [.b20 x2]]) (fun _ => rfl) N20 rfl rfl (fun ok => ok) (.c0 (.c0 (.c0 (.c0 .n)))) rfl (store_Store_Find.ok k (y2) y6 x2 g93 A2 nn1 cp2 t4 et4 _ _) fun ch3 m le1 a w S => s_move S rfl rfl fun a S => s_extract S rfl rfl rfl rfl fun a S => s_extract S rfl rfl rfl rfl fun a S => s_alloc S Z30 rfl ⟨rfl, rfl, rfl, rfl, rfl, trivial⟩ rfl fun g116 a w S => s_store S rfl rfl rfl (s' := [.b20 t4.1.1, .w t4.1.2.1, .w4 t4.1.2.2.1, .s ch3.1 ch3.2.1 ch3.2.2.1, .s ch3.2.2.2.1 ch3.2.2.2.2.1 ch3.2.2.2.2.2]) .h T30 rfl rfl fun w S => s_assign S rfl rfl fun a S => c_end (c_region (s_move S rfl rfl fun a S => s_move S rfl rfl fun a S => bindX h2 fun t5 et5 h3 => s_callX S (ds' := [(.p g93), (.i y6)]) (ds := [(.p g93), (.i y6)]) [Res.cells g93 74 [.s A2 nn1 cp2], Res.row (Ty.prod yi Y69) 71 A2 nn1 cp2 y2] [Res.cells g116 30 [.b20 t4.1.1, .w t4.1.2.1, .w4 t4.1.2.2.1, .s ch3.1 ch3.2.1 ch3.2.2.1, .s ch3.2.2.2.1 ch3.2.2.2.2.1 ch3.2.2.2.2.2], Res.row yb 5 ch3.1 ch3.2.1 ch3.2.2.1 t4.1.2.2.2.1, Res.row Y66 66 ch3.2.2.2.1 ch3.2.2.2.2.1 ch3.2.2.2.2.2 t4.1.2.2.2.2, Res.cells g94 26 [.w4 x3], Res.cells g95 23 [.b20 x2]] (fun (ch : Unit) => ((.tup [(false, [.i t5.1]), (false, [.b t5.2])]) : D)) (fun (ch : Unit) => [Res.cells g93 74 [.s A2 nn1 cp2], Res.row (Ty.prod yi Y69) 71 A2 nn1 cp2 y2]) (fun (ch : Unit) => [Res.cells g93 74 [.s A2 nn1 cp2], Res.row (Ty.prod yi Y69) 71 A2 nn1 cp2 y2, Res.cells g116 30 [.b20 t4.1.1, .w t4.1.2.1, .w4 t4.1.2.2.1, .s ch3.1 ch3.2.1 ch3.2.2.1, .s ch3.2.2.2.1 ch3.2.2.2.2.1 ch3.2.2.2.2.2], Res.row yb 5 ch3.1 ch3.2.1 ch3.2.2.1 t4.1.2.2.2.1, Res.row Y66 66 ch3.2.2.2.1 ch3.2.2.2.2.1 ch3.2.2.2.2.2 t4.1.2.2.2.2, Res.cells g94 26 [.w4 x3], Res.cells g95 23 [.b20 x2]]) (fun _ => rfl) N23 rfl rfl (fun ok => ok) (.c3 (.c3 (.c0 (.c0 (.c0 (.c0 (.c0 .n))))))) rfl (store_Store_Parent.ok (y2) y6 g93 A2 nn1 cp2 t5 et5 _ _) fun ch4 m le1 a w S => s_move S rfl rfl fun a S => s_extract S rfl rfl rfl rfl fun a S => s_extract S rfl rfl rfl rfl fun a S => s_assign S rfl rfl fun a S => s_assign S rfl rfl fun a S => c_end (wp_seq (wp_seq_k fun K4 hK4 => ?_))))))
     have j4 : ∀ m y16 g117 g118 g119 g120 A3 nn2 cp3 A4 nn3 cp4 a w, St 183 m b0 [(101, (.b y16)), (20, (.b t5.2)), (19, (.i t5.1)), (18, (.b t4.2)), (17, (.p g117)), (16, (.i y6)), (8, (.q Y53 A1 cp1 y1)), (7, (.p g118)), (5, (.p g119)), (4, (.p g120))] [Res.cells g118 74 [.s A2 nn1 cp2], Res.row (Ty.prod yi Y69) 71 A2 nn1 cp2 y2, Res.cells g117 30 [.b20 t4.1.1, .w t4.1.2.1, .w4 t4.1.2.2.1, .s A3 nn2 cp3, .s A4 nn3 cp4], Res.row yb 5 A3 nn2 cp3 t4.1.2.2.2.1, Res.row Y66 66 A4 nn3 cp4 t4.1.2.2.2.2, Res.cells g119 26 [.w4 x3], Res.cells g120 23 [.b20 x2]] a w → smithylaw13_StorePlays.j4 k x2 x3 y1 y2 y6 (smithylaw13_StorePlays.l1 k x2 x3 y1 y2 q1) t4 t5 y16 = some r → K4 a w := by
      intro m y16 g117 g118 g119 g120 A3 nn2 cp3 A4 nn3 cp4 a w S h0
      delta smithylaw13_StorePlays.j4 at h0
      refine hK4 a w ?_
      rcases ite_of h0 with ⟨c3, h1⟩ | ⟨c3, h1⟩
      ·refine c_condT S rfl c3 (wp_seq (wp_seq_k fun K5 hK5 => ?_))
       have j5 : ∀ m y17 g121 g122 g123 a w, St 183 m b0 [(121, (.b y17)), (16, (.i y6)), (8, (.q Y53 A1 cp1 y1)), (7, (.p g121)), (5, (.p g122)), (4, (.p g123))] [Res.cells g121 74 [.s A2 nn1 cp2], Res.row (Ty.prod yi Y69) 71 A2 nn1 cp2 y2, Res.cells g122 26 [.w4 x3], Res.cells g123 23 [.b20 x2]] a w → smithylaw13_StorePlays.j5 y6 (smithylaw13_StorePlays.l1 k x2 x3 y1 y2 q1) y17 = some r → K5 a w := by
        intro m y17 g121 g122 g123 a w S h0
        delta smithylaw13_StorePlays.j5 at h0
        refine hK5 a w ?_
        rcases ite_of h0 with ⟨c4, h1⟩ | ⟨c4, h1⟩
        ·refine c_condT S rfl c4 (c_region (s_assign S rfl rfl fun a S => c_end (wp_ret (x_thenR (x_thenR (x_blockR (x_thenR (x_thenR (x_blockR (x_thenR ?_))))))))))
         obtain rfl := Option.some.inj h1
         exact b_ret1 (d := (.b false)) S rfl rfl (S.rt hb)
        ·refine c_condF S rfl c4 (wp_skip (x_thenN (wp_exit (x_thenX (x_blockX (x_thenN ?_))))))
         exact j3 _ g121 g122 g123 a w (S.sb rfl (.c0 (.c0 (.c0 (.c0 .n))))) h1
       refine c_region' (s_move S rfl rfl fun a S => s_move S rfl rfl fun a S => ?_)
       rcases ite_of h1 with ⟨c5, h2⟩ | ⟨c5, h2⟩
       ·refine s_gF S (b := t4.2) rfl rfl c5 rfl fun a S => s_pick S (b := true) (hc_of rfl c5) rfl rfl fun a S => s_move S rfl rfl fun a S => s_gF S (b := true) rfl rfl rfl rfl fun a S => s_gF S (b := true) rfl rfl rfl rfl fun a S => s_gF S (b := true) rfl rfl rfl rfl fun a S => s_gF S (b := true) rfl rfl rfl rfl fun a S => s_gF S (b := true) rfl rfl rfl rfl fun a S => s_pick S (b := true) (hc_of rfl rfl) rfl rfl fun a S => s_move S rfl rfl fun a S => s_gF S (b := true) rfl rfl rfl rfl fun a S => s_gF S (b := true) rfl rfl rfl rfl fun a S => s_gF S (b := true) rfl rfl rfl rfl fun a S => s_gF S (b := true) rfl rfl rfl rfl fun a S => s_gF S (b := true) rfl rfl rfl rfl fun a S => s_gF S (b := true) rfl rfl rfl rfl fun a S => s_gF S (b := true) rfl rfl rfl rfl fun a S => s_pick S (b := true) (hc_of rfl rfl) rfl rfl fun a S => c_end' (x_thenN ?_)
        exact j5 _ true g118 g119 g120 a w (S.sb rfl (.c0 (.c0 (.c3 (.c3 .n))))) h2
       ·refine s_gT S (b := t4.2) rfl rfl c5 (s_move S rfl rfl fun a S => s_pick S (b := false) (hc_of rfl c5) rfl rfl fun a S => s_move S rfl rfl fun a S => ?_)
        rcases ite_of h2 with ⟨c6, h3⟩ | ⟨c6, h3⟩
        ·refine s_gF S (b := t5.2) rfl rfl c6 rfl fun a S => s_gF S (b := t5.2) rfl rfl c6 rfl fun a S => s_gF S (b := t5.2) rfl rfl c6 rfl fun a S => s_gF S (b := t5.2) rfl rfl c6 rfl fun a S => s_gF S (b := t5.2) rfl rfl c6 rfl fun a S => s_pick S (b := true) (hc_of rfl c6) rfl rfl fun a S => s_move S rfl rfl fun a S => s_gF S (b := true) rfl rfl rfl rfl fun a S => s_gF S (b := true) rfl rfl rfl rfl fun a S => s_gF S (b := true) rfl rfl rfl rfl fun a S => s_gF S (b := true) rfl rfl rfl rfl fun a S => s_gF S (b := true) rfl rfl rfl rfl fun a S => s_gF S (b := true) rfl rfl rfl rfl fun a S => s_gF S (b := true) rfl rfl rfl rfl fun a S => s_pick S (b := true) (hc_of rfl rfl) rfl rfl fun a S => c_end' (x_thenN ?_)
         exact j5 _ true g118 g119 g120 a w (S.sb rfl (.c0 (.c0 (.c3 (.c3 .n))))) h3
        ·refine s_gT S (b := t5.2) rfl rfl c6 (s_move S rfl rfl fun a S => s_gT S (b := t5.2) rfl rfl c6 (s_move S rfl rfl fun a S => s_gT S (b := t5.2) rfl rfl c6 (bindX h3 fun t8 et8 h4 => s_callX S (ds' := [(.p g118), (.i y6)]) (ds := [(.p g118), (.i y6)]) [Res.cells g118 74 [.s A2 nn1 cp2], Res.row (Ty.prod yi Y69) 71 A2 nn1 cp2 y2] [Res.cells g117 30 [.b20 t4.1.1, .w t4.1.2.1, .w4 t4.1.2.2.1, .s A3 nn2 cp3, .s A4 nn3 cp4], Res.row yb 5 A3 nn2 cp3 t4.1.2.2.2.1, Res.row Y66 66 A4 nn3 cp4 t4.1.2.2.2.2, Res.cells g119 26 [.w4 x3], Res.cells g120 23 [.b20 x2]] (fun (ch : (Option Addr) × Nat × Nat) => ((.s ch.1 ch.2.1 ch.2.2) : D)) (fun (ch : (Option Addr) × Nat × Nat) => [Res.row Y30 30 ch.1 ch.2.1 ch.2.2 t8, Res.cells g118 74 [.s A2 nn1 cp2], Res.row (Ty.prod yi Y69) 71 A2 nn1 cp2 y2]) (fun (ch : (Option Addr) × Nat × Nat) => [Res.row Y30 30 ch.1 ch.2.1 ch.2.2 t8, Res.cells g118 74 [.s A2 nn1 cp2], Res.row (Ty.prod yi Y69) 71 A2 nn1 cp2 y2, Res.cells g117 30 [.b20 t4.1.1, .w t4.1.2.1, .w4 t4.1.2.2.1, .s A3 nn2 cp3, .s A4 nn3 cp4], Res.row yb 5 A3 nn2 cp3 t4.1.2.2.2.1, Res.row Y66 66 A4 nn3 cp4 t4.1.2.2.2.2, Res.cells g119 26 [.w4 x3], Res.cells g120 23 [.b20 x2]]) (fun _ => rfl) N18 rfl rfl (fun ok => ok) (.c0 (.c0 (.c0 (.c0 (.c0 (.c0 (.c0 .n))))))) rfl (store_Store_All.ok k (y2) y6 g118 A2 nn1 cp2 t8 et8 _ _) fun ch6 m le1 a w S => s_gT S (b := t5.2) rfl rfl c6 (s_lenO S rfl .h underlying32 rfl fun a S => s_gT S (b := t5.2) rfl rfl c6 (s_bin S rfl rfl rfl rfl fun a S => s_pick S (b := false) (hc_of rfl c6) rfl rfl fun a S => s_move S rfl rfl fun a S => ?_)))))
         rcases ite_of h4 with ⟨c7, h5⟩ | ⟨c7, h5⟩
         ·refine s_gF S (b := (decide (0 < ((t8).length : Int)))) rfl rfl c7 rfl fun a S => s_gF S (b := (decide (0 < ((t8).length : Int)))) rfl rfl c7 rfl fun a S => s_gF S (b := (decide (0 < ((t8).length : Int)))) rfl rfl c7 rfl fun a S => s_gF S (b := (decide (0 < ((t8).length : Int)))) rfl rfl c7 rfl fun a S => s_gF S (b := (decide (0 < ((t8).length : Int)))) rfl rfl c7 rfl fun a S => s_gF S (b := (decide (0 < ((t8).length : Int)))) rfl rfl c7 rfl fun a S => s_gF S (b := (decide (0 < ((t8).length : Int)))) rfl rfl c7 rfl fun a S => s_pick S (b := true) (hc_of rfl c7) rfl rfl fun a S => c_end' (x_thenN ?_)
          exact j5 _ true g118 g119 g120 a w (S.sb rfl (.c1 (.c1 (.c4 (.c4 .n))))) h5
         ·refine s_gT S (b := (decide (0 < ((t8).length : Int)))) rfl rfl c7 (s_move S rfl rfl fun a S => s_gT S (b := (decide (0 < ((t8).length : Int)))) rfl rfl c7 (s_move S rfl rfl fun a S => s_gT S (b := (decide (0 < ((t8).length : Int)))) rfl rfl c7 (s_loada S rfl .h7 T23 (s' := [.b20 x2]) rfl rfl fun a S => s_gT S (b := (decide (0 < ((t8).length : Int)))) rfl rfl c7 (s_loada S rfl .h6 T26 (s' := [.w4 x3]) rfl rfl fun a S => s_gT S (b := (decide (0 < ((t8).length : Int)))) rfl rfl c7 (bindX h5 fun t9 et9 h6 => s_callX S (ds' := [(.p g118), (.i y6), (.agg [.b20 x2]), (.a4 x3)]) (ds := [(.p g118), (.i y6), (.agg [.b20 x2]), (.a4 x3)]) [Res.cells g118 74 [.s A2 nn1 cp2], Res.row (Ty.prod yi Y69) 71 A2 nn1 cp2 y2] [Res.row Y30 30 ch6.1 ch6.2.1 ch6.2.2 t8, Res.cells g117 30 [.b20 t4.1.1, .w t4.1.2.1, .w4 t4.1.2.2.1, .s A3 nn2 cp3, .s A4 nn3 cp4], Res.row yb 5 A3 nn2 cp3 t4.1.2.2.2.1, Res.row Y66 66 A4 nn3 cp4 t4.1.2.2.2.2, Res.cells g119 26 [.w4 x3], Res.cells g120 23 [.b20 x2]] (fun (ch : Unit) => ((.a4 t9) : D)) (fun (ch : Unit) => [Res.cells g118 74 [.s A2 nn1 cp2], Res.row (Ty.prod yi Y69) 71 A2 nn1 cp2 y2]) (fun (ch : Unit) => [Res.cells g118 74 [.s A2 nn1 cp2], Res.row (Ty.prod yi Y69) 71 A2 nn1 cp2 y2, Res.row Y30 30 ch6.1 ch6.2.1 ch6.2.2 t8, Res.cells g117 30 [.b20 t4.1.1, .w t4.1.2.1, .w4 t4.1.2.2.1, .s A3 nn2 cp3, .s A4 nn3 cp4], Res.row yb 5 A3 nn2 cp3 t4.1.2.2.2.1, Res.row Y66 66 A4 nn3 cp4 t4.1.2.2.2.2, Res.cells g119 26 [.w4 x3], Res.cells g120 23 [.b20 x2]]) (fun _ => rfl) N24 rfl rfl (fun ok => ok) (.c1 (.c1 (.c0 (.c0 (.c0 (.c0 (.c0 (.c0 .n)))))))) rfl (store_Store_Slot.ok k (y2) y6 x2 x3 g118 A2 nn1 cp2 t9 et9 _ _) fun ch7 m le1 a w S => s_gT S (b := (decide (0 < ((t8).length : Int)))) rfl rfl c7 (s_build S (ds := []) (dv := (.a4 [0, 0, 0, 0])) rfl (fun _ => by kernel_rfl) ⟨rfl, trivial⟩ rfl fun a S => s_gT S (b := (decide (0 < ((t8).length : Int)))) rfl rfl c7 (s_nea S rfl rfl underlying26 underlying24 T24 Q26 rfl fun a S => s_pick S (b := false) (hc_of rfl c7) rfl rfl fun a S => c_end' (x_thenN ?_))))))))
          exact j5 _ (!(decide (t9 = [0, 0, 0, 0]))) g118 g119 g120 a w (S.sb rfl (.c0 (.c0 (.c4 (.c4 .n))))) h6
      ·refine c_condF S rfl c3 (wp_skip (x_thenN (wp_seq_k fun K6 hK6 => ?_)))
       have j6 : ∀ m y18 g125 g126 g127 g128 g129 y19 y20 y21 A5 cp6 y22 A6 cp7 y23 a w, St 183 m b0 [(22, (.b y18)), (21, (.p g125)), (20, (.b t5.2)), (19, (.i t5.1)), (18, (.b t4.2)), (17, (.p g126)), (16, (.i y6)), (8, (.q Y53 A1 cp1 y1)), (7, (.p g127)), (5, (.p g128)), (4, (.p g129))] [Res.cells g125 30 [.b20 y19, .w y20, .w4 y21, .q yb A5 cp6 y22, .q Y66 A6 cp7 y23], Res.cells g127 74 [.s A2 nn1 cp2], Res.row (Ty.prod yi Y69) 71 A2 nn1 cp2 y2, Res.cells g126 30 [.b20 t4.1.1, .w t4.1.2.1, .w4 t4.1.2.2.1, .s A3 nn2 cp3, .s A4 nn3 cp4], Res.row yb 5 A3 nn2 cp3 t4.1.2.2.2.1, Res.row Y66 66 A4 nn3 cp4 t4.1.2.2.2.2, Res.cells g128 26 [.w4 x3], Res.cells g129 23 [.b20 x2]] a w → smithylaw13_StorePlays.j6 k x2 x3 y1 y2 y6 (smithylaw13_StorePlays.l1 k x2 x3 y1 y2 q1) t4 t5 y18 y19 y20 y21 y22 y23 = some r → K6 a w := by
        intro m y18 g125 g126 g127 g128 g129 y19 y20 y21 A5 cp6 y22 A6 cp7 y23 a w S h0
        delta smithylaw13_StorePlays.j6 at h0
        refine hK6 a w (wp_seq_k fun K7 hK7 => ?_)
        have j7 : ∀ m y24 g130 g131 g132 a w, St 183 m b0 [(182, (.b y24)), (16, (.i y6)), (8, (.q Y53 A1 cp1 y1)), (7, (.p g130)), (5, (.p g131)), (4, (.p g132))] [Res.cells g130 74 [.s A2 nn1 cp2], Res.row (Ty.prod yi Y69) 71 A2 nn1 cp2 y2, Res.cells g131 26 [.w4 x3], Res.cells g132 23 [.b20 x2]] a w → smithylaw13_StorePlays.j7 y6 (smithylaw13_StorePlays.l1 k x2 x3 y1 y2 q1) y24 = some r → K7 a w := by
         intro m y24 g130 g131 g132 a w S h0
         delta smithylaw13_StorePlays.j7 at h0
         refine hK7 a w ?_
         rcases ite_of h0 with ⟨c8, h1⟩ | ⟨c8, h1⟩
         ·refine c_condT S rfl c8 (c_region (s_assign S rfl rfl fun a S => c_end (wp_ret (x_blockR (x_thenR (x_thenR (x_blockR (x_thenR ?_))))))))
          obtain rfl := Option.some.inj h1
          exact b_ret1 (d := (.b false)) S rfl rfl (S.rt hb)
         ·refine c_condF S rfl c8 (wp_skip (x_blockN (x_thenN ?_)))
          exact j3 _ g130 g131 g132 a w (S.sb rfl (.c0 (.c0 (.c0 (.c0 .n))))) h1
        refine c_heldS S (.take 0 (.take 1 (.take 2 (.take 3 (.take 5 (.alts (.run 4 true (.alts (.run 6 true (.take 7 (.take 8 (.take 9 (.take 10 (.take 11 (.take 12 (.take 13 (.take 15 (.take 16 (.alts (.run 14 true (.alts (.run 17 true (.take 18 (.take 19 (.take 20 (.take 21 (.take 22 (.take 24 (.take 25 (.take 26 (.take 27 (.take 28 (.alts (.run 23 true (.alts (.run 29 true (.alts (.run 30 true (.take 31 (.take 32 (.take 33 (.take 34 (.take 35 (.take 36 (.take 37 (.take 38 (.take 39 (.take 40 (.take 41 (.take 42 (.take 43 (.take 44 (.take 45 (.take 46 (.take 47 (.take 48 (.take 49 (.take 50 .done)))))))))))))))))))) .nil)) .nil)) .nil)))))))))))) .nil)) .nil))))))))))) .nil)) .nil))))))) 51 [Res.cells g125 30 [.b20 y19, .w y20, .w4 y21, .q yb A5 cp6 y22, .q Y66 A6 cp7 y23], Res.cells g127 74 [.s A2 nn1 cp2], Res.cells g128 26 [.w4 x3], Res.cells g129 23 [.b20 x2]] (.c0 (.c0 (.c4 (.c4 .n)))) ⟨Res.stay_cells, Res.stay_cells, Res.stay_cells, Res.stay_cells, trivial⟩ [(22, (.b y18)), (21, (.p g125)), (20, (.b t5.2)), (19, (.i t5.1)), (18, (.b t4.2)), (16, (.i y6)), (8, (.q Y53 A1 cp1 y1)), (7, (.p g127)), (5, (.p g128)), (4, (.p g129))] (subR rfl) (by kernel_rfl) (by kernel_rfl) fun w S CL hw le => ?_
        refine h_move S CL hw le (subR rfl) rfl rfl rfl trivial fun a S CL => h_move S CL hw le (subR rfl) rfl rfl rfl trivial fun a S CL => h_neb S CL hw le (subR rfl) rfl rfl underlying4 rfl rfl trivial fun a S CL => h_move S CL hw le (subR rfl) rfl rfl rfl trivial fun a S CL => ?_
        rcases ite_of h0 with ⟨c9, h1⟩ | ⟨c9, h1⟩
        ·refine h_skip S CL rfl rfl rfl (ne_bool c9) rfl fun a S CL => h_skipRt S rfl rfl rfl (ne_bool c9) rfl fun a S => CL.bk hw S (.c0 (.c0 (.c4 (.c4 .n)))) le fun hw => h_skipRt S rfl rfl rfl (ne_bool c9) rfl fun a S => CL.bk hw S (.c0 (.c0 (.c4 (.c4 .n)))) le fun hw => ?_
         replace CL := CL.add (t := 138) (d := .u) S rfl rfl
         refine h_skip S CL rfl rfl rfl (ne_bool c9) rfl fun a S CL => h_pick S CL hw le (subR rfl) (b := true) (hc_of rfl c9) rfl rfl rfl trivial fun a S CL => h_move S CL hw le (subR rfl) rfl rfl rfl trivial fun a S CL => h_skip S CL rfl rfl rfl (ne_bool rfl) rfl fun a S CL => h_skip S CL rfl rfl rfl (ne_bool rfl) rfl fun a S CL => h_skip S CL rfl rfl rfl (ne_bool rfl) rfl fun a S CL => h_skip S CL rfl rfl rfl (ne_bool rfl) rfl fun a S CL => h_skip S CL rfl rfl rfl (ne_bool rfl) rfl fun a S CL => h_skip S CL rfl rfl rfl (ne_bool rfl) rfl fun a S CL => h_skipRt S rfl rfl rfl (ne_bool rfl) rfl fun a S => CL.bk hw S (.c0 (.c0 (.c4 (.c4 .n)))) le fun hw => ?_
         replace CL := CL.add (t := 146) (d := .u) S rfl rfl
         refine h_skipRt S rfl rfl rfl (ne_bool rfl) rfl fun a S => CL.bk hw S (.c0 (.c0 (.c4 (.c4 .n)))) le fun hw => ?_
         replace CL := CL.add (t := 149) (d := .u) S rfl rfl
         refine h_skip S CL rfl rfl rfl (ne_bool rfl) rfl fun a S CL => h_pick S CL hw le (subR rfl) (b := true) (hc_of rfl rfl) rfl rfl rfl trivial fun a S CL => h_move S CL hw le (subR rfl) rfl rfl rfl trivial fun a S CL => h_skip S CL rfl rfl rfl (ne_bool rfl) rfl fun a S CL => h_skip S CL rfl rfl rfl (ne_bool rfl) rfl fun a S CL => h_skip S CL rfl rfl rfl (ne_bool rfl) rfl fun a S CL => h_skip S CL rfl rfl rfl (ne_bool rfl) rfl fun a S CL => h_skip S CL rfl rfl rfl (ne_bool rfl) rfl fun a S CL => h_skip S CL rfl rfl rfl (ne_bool rfl) rfl fun a S CL => h_skip S CL rfl rfl rfl (ne_bool rfl) rfl fun a S CL => h_skipRt S rfl rfl rfl (ne_bool rfl) rfl fun a S => CL.bk hw S (.c0 (.c0 (.c4 (.c4 .n)))) le fun hw => h_skipRt S rfl rfl rfl (ne_bool rfl) rfl fun a S => CL.bk hw S (.c0 (.c0 (.c4 (.c4 .n)))) le fun hw => h_skipRt S rfl rfl rfl (ne_bool rfl) rfl fun a S => CL.bk hw S (.c0 (.c0 (.c4 (.c4 .n)))) le fun hw => ?_
         replace CL := CL.add (t := 162) (d := .u) S rfl rfl
         refine h_skip S CL rfl rfl rfl (ne_bool rfl) rfl fun a S CL => h_pick S CL hw le (subR rfl) (b := true) (hc_of rfl rfl) rfl rfl rfl trivial fun a S CL => h_move S CL hw le (subR rfl) rfl rfl rfl trivial fun a S CL => h_skip S CL rfl rfl rfl (ne_bool rfl) rfl fun a S CL => h_skip S CL rfl rfl rfl (ne_bool rfl) rfl fun a S CL => h_skip S CL rfl rfl rfl (ne_bool rfl) rfl fun a S CL => h_skip S CL rfl rfl rfl (ne_bool rfl) rfl fun a S CL => h_pick S CL hw le (subR rfl) (b := true) (hc_of rfl rfl) rfl rfl rfl trivial fun a S CL => h_move S CL hw le (subR rfl) rfl rfl rfl trivial fun a S CL => h_skip S CL rfl rfl rfl (ne_bool rfl) rfl fun a S CL => h_skip S CL rfl rfl rfl (ne_bool rfl) rfl fun a S CL => h_skip S CL rfl rfl rfl ne_undef rfl fun a S CL => h_skip S CL rfl rfl rfl ne_undef rfl fun a S CL => h_skip S CL rfl rfl rfl ne_undef rfl fun a S CL => h_skip S CL rfl rfl rfl ne_undef rfl fun a S CL => h_skip S CL rfl rfl rfl ne_undef rfl fun a S CL => h_skip S CL rfl rfl rfl ne_undef rfl fun a S CL => h_skip S CL rfl rfl rfl ne_undef rfl fun a S CL => h_skip S CL rfl rfl rfl (ne_bool rfl) rfl fun a S CL => h_pick S CL hw le (subR rfl) (b := true) (hc_of rfl rfl) rfl rfl rfl trivial fun a S CL => ?_
         refine h_done ?_; clear CL hw le
         refine x_thenN ?_
         exact j7 _ true g127 g128 g129 a w (S.sb rfl (.c1 (.c1 (.c4 (.c4 .n))))) h1
        ·refine h_loada S CL hw le (subR rfl) rfl .h T30 (s' := [.b20 y19, .w y20, .w4 y21, .q yb A5 cp6 y22, .q Y66 A6 cp7 y23]) rfl rfl rfl ⟨_, _, rfl, rfl, c9⟩ fun a S CL => h_run' S rfl ⟨_, _, rfl, rfl, c9⟩ (s_loada S rfl .h3 T30 (s' := [.b20 t4.1.1, .w t4.1.2.1, .w4 t4.1.2.2.1, .s A3 nn2 cp3, .s A4 nn3 cp4]) rfl rfl fun a S => CL.bk hw S (.c0 (.c0 (.c4 (.c4 .n)))) le fun hw => h_run' S rfl ⟨_, _, rfl, rfl, c9⟩ ?_)
         replace S := S.rowfro .h4
         obtain ⟨m, le1, S, hro⟩ := S
         replace le := le.trans le1
         replace S := S.slot (u := 136) (d' := (.agg [.b20 t4.1.1, .w t4.1.2.1, .w4 t4.1.2.2.1, .q yb A3 cp3 t4.1.2.2.2.1, .s A4 nn3 cp4])) rfl (by simp [D.val, pd, cellsOf, Seg.cells, hro.2.1]) (by have h := (S.get 136 (.agg [.b20 t4.1.1, .w t4.1.2.1, .w4 t4.1.2.2.1, .s A3 nn2 cp3, .s A4 nn3 cp4]) rfl).2; exact ⟨h.1, h.2.1, h.2.2.1, ⟨by have := hro.2.2.1; omega, hro.2.2.2, hro.1, RdS.mono _ _ _⟩, h.2.2.2.2.1, trivial⟩)
         replace S := S.cellro (s' := [.b20 t4.1.1, .w t4.1.2.1, .w4 t4.1.2.2.1, .q yb A3 cp3 t4.1.2.2.2.1, .s A4 nn3 cp4]) .h3 (by simp [cellsOf, Seg.cells, hro.2.1]) (fun h => ⟨h.1, h.2.1, h.2.2.1, ⟨by have := hro.2.2.1; omega, hro.2.2.2, hro.1, RdS.mono _ _ _⟩, h.2.2.2.2.1, trivial⟩)
         replace S := S.rowfro .h4
         obtain ⟨m, le1, S, hro⟩ := S
         replace le := le.trans le1
         replace S := S.slot (u := 136) (d' := (.agg [.b20 t4.1.1, .w t4.1.2.1, .w4 t4.1.2.2.1, .q yb A3 cp3 t4.1.2.2.2.1, .q Y66 A4 cp4 t4.1.2.2.2.2])) rfl (by simp [D.val, pd, cellsOf, Seg.cells, hro.2.1]) (by have h := (S.get 136 (.agg [.b20 t4.1.1, .w t4.1.2.1, .w4 t4.1.2.2.1, .q yb A3 cp3 t4.1.2.2.2.1, .s A4 nn3 cp4]) rfl).2; exact ⟨h.1, h.2.1, h.2.2.1, h.2.2.2.1, ⟨by have := hro.2.2.1; omega, hro.2.2.2, hro.1, RdS.mono _ _ _⟩, trivial⟩)
         replace S := S.cellro (s' := [.b20 t4.1.1, .w t4.1.2.1, .w4 t4.1.2.2.1, .q yb A3 cp3 t4.1.2.2.2.1, .q Y66 A4 cp4 t4.1.2.2.2.2]) .h3 (by simp [cellsOf, Seg.cells, hro.2.1]) (fun h => ⟨h.1, h.2.1, h.2.2.1, h.2.2.2.1, ⟨by have := hro.2.2.1; omega, hro.2.2.2, hro.1, RdS.mono _ _ _⟩, trivial⟩)
         refine bindX h1 fun t17 et17 h2 => s_callP S _ N21 rfl rfl (smithyref13_Same.ok k t4.1 (y19, y20, y21, y22, y23) A3 cp3 A4 cp4 A5 cp6 A6 cp7 t17 et17 _ _) fun ch14 m le1 a w S => ?_
         replace le := le.trans le1
         refine CL.bk hw S (.c0 (.c0 (.c2 (.c2 .n)))) le fun hw => ?_
         replace CL := CL.add (t := 138) (d := (.b t17)) S rfl rfl
         refine h_not S CL hw le (subR rfl) rfl rfl rfl ⟨_, _, rfl, rfl, c9⟩ fun a S CL => h_pick S CL hw le (subR rfl) (b := false) (hc_of rfl c9) rfl rfl rfl trivial fun a S CL => h_move S CL hw le (subR rfl) rfl rfl rfl trivial fun a S CL => ?_
         rcases ite_of h2 with ⟨c10, h3⟩ | ⟨c10, h3⟩
         ·refine h_skip S CL rfl rfl rfl (ne_bool c10) rfl fun a S CL => h_skip S CL rfl rfl rfl (ne_bool c10) rfl fun a S CL => h_skip S CL rfl rfl rfl (ne_bool c10) rfl fun a S CL => h_skip S CL rfl rfl rfl (ne_bool c10) rfl fun a S CL => h_skip S CL rfl rfl rfl (ne_bool c10) rfl fun a S CL => h_skip S CL rfl rfl rfl (ne_bool c10) rfl fun a S CL => h_skipRt S rfl rfl rfl (ne_bool c10) rfl fun a S => CL.bk hw S (.c0 (.c0 (.c2 (.c2 .n)))) le fun hw => ?_
          replace CL := CL.add (t := 146) (d := .u) S rfl rfl
          refine h_skipRt S rfl rfl rfl (ne_bool c10) rfl fun a S => CL.bk hw S (.c0 (.c0 (.c2 (.c2 .n)))) le fun hw => ?_
          replace CL := CL.add (t := 149) (d := .u) S rfl rfl
          refine h_skip S CL rfl rfl rfl (ne_bool c10) rfl fun a S CL => h_pick S CL hw le (subR rfl) (b := true) (hc_of rfl c10) rfl rfl rfl trivial fun a S CL => h_move S CL hw le (subR rfl) rfl rfl rfl trivial fun a S CL => h_skip S CL rfl rfl rfl (ne_bool rfl) rfl fun a S CL => h_skip S CL rfl rfl rfl (ne_bool rfl) rfl fun a S CL => h_skip S CL rfl rfl rfl (ne_bool rfl) rfl fun a S CL => h_skip S CL rfl rfl rfl (ne_bool rfl) rfl fun a S CL => h_skip S CL rfl rfl rfl (ne_bool rfl) rfl fun a S CL => h_skip S CL rfl rfl rfl (ne_bool rfl) rfl fun a S CL => h_skip S CL rfl rfl rfl (ne_bool rfl) rfl fun a S CL => h_skipRt S rfl rfl rfl (ne_bool rfl) rfl fun a S => CL.bk hw S (.c0 (.c0 (.c2 (.c2 .n)))) le fun hw => h_skipRt S rfl rfl rfl (ne_bool rfl) rfl fun a S => CL.bk hw S (.c0 (.c0 (.c2 (.c2 .n)))) le fun hw => h_skipRt S rfl rfl rfl (ne_bool rfl) rfl fun a S => CL.bk hw S (.c0 (.c0 (.c2 (.c2 .n)))) le fun hw => ?_
          replace CL := CL.add (t := 162) (d := .u) S rfl rfl
          refine h_skip S CL rfl rfl rfl (ne_bool rfl) rfl fun a S CL => h_pick S CL hw le (subR rfl) (b := true) (hc_of rfl rfl) rfl rfl rfl trivial fun a S CL => h_move S CL hw le (subR rfl) rfl rfl rfl trivial fun a S CL => h_skip S CL rfl rfl rfl (ne_bool rfl) rfl fun a S CL => h_skip S CL rfl rfl rfl (ne_bool rfl) rfl fun a S CL => h_skip S CL rfl rfl rfl (ne_bool rfl) rfl fun a S CL => h_skip S CL rfl rfl rfl (ne_bool rfl) rfl fun a S CL => h_pick S CL hw le (subR rfl) (b := true) (hc_of rfl rfl) rfl rfl rfl trivial fun a S CL => h_move S CL hw le (subR rfl) rfl rfl rfl trivial fun a S CL => h_skip S CL rfl rfl rfl (ne_bool rfl) rfl fun a S CL => h_skip S CL rfl rfl rfl (ne_bool rfl) rfl fun a S CL => h_skip S CL rfl rfl rfl ne_undef rfl fun a S CL => h_skip S CL rfl rfl rfl ne_undef rfl fun a S CL => h_skip S CL rfl rfl rfl ne_undef rfl fun a S CL => h_skip S CL rfl rfl rfl ne_undef rfl fun a S CL => h_skip S CL rfl rfl rfl ne_undef rfl fun a S CL => h_skip S CL rfl rfl rfl ne_undef rfl fun a S CL => h_skip S CL rfl rfl rfl ne_undef rfl fun a S CL => h_skip S CL rfl rfl rfl (ne_bool rfl) rfl fun a S CL => h_pick S CL hw le (subR rfl) (b := true) (hc_of rfl rfl) rfl rfl rfl trivial fun a S CL => ?_
          refine h_done ?_; clear CL hw le
          refine x_thenN ?_
          exact j7 _ true g127 g128 g129 a w (S.sb rfl (.c1 (.c1 (.c2 (.c2 .n))))) h3
         ·refine h_move S CL hw le (subR rfl) rfl rfl rfl ⟨_, _, rfl, rfl, c10⟩ fun a S CL => h_move S CL hw le (subR rfl) rfl rfl rfl ⟨_, _, rfl, rfl, c10⟩ fun a S CL => h_loada S CL hw le (subR rfl) rfl .h3 T23 (s' := [.b20 x2]) rfl rfl rfl ⟨_, _, rfl, rfl, c10⟩ fun a S CL => h_loada S CL hw le (subR rfl) rfl .h2 T26 (s' := [.w4 x3]) rfl rfl rfl ⟨_, _, rfl, rfl, c10⟩ fun a S CL => h_loada S CL hw le (subR rfl) rfl .h T30 (s' := [.b20 y19, .w y20, .w4 y21, .q yb A5 cp6 y22, .q Y66 A6 cp7 y23]) rfl rfl rfl ⟨_, _, rfl, rfl, c10⟩ fun a S CL => h_loada S CL hw le (subR rfl) rfl .h2 T26 (s' := [.w4 x3]) rfl rfl rfl ⟨_, _, rfl, rfl, c10⟩ fun a S CL => h_run' S rfl ⟨_, _, rfl, rfl, c10⟩ (bindX h3 fun t18 et18 h4 => s_callX S (ds' := [(.p g127), (.i y6), (.agg [.b20 x2]), (.a4 x3)]) (ds := [(.p g127), (.i y6), (.agg [.b20 x2]), (.a4 x3)]) [Res.cells g127 74 [.s A2 nn1 cp2], Res.row (Ty.prod yi Y69) 71 A2 nn1 cp2 y2] [Res.cells g125 30 [.b20 y19, .w y20, .w4 y21, .q yb A5 cp6 y22, .q Y66 A6 cp7 y23], Res.cells g126 30 [.b20 t4.1.1, .w t4.1.2.1, .w4 t4.1.2.2.1, .q yb A3 cp3 t4.1.2.2.2.1, .q Y66 A4 cp4 t4.1.2.2.2.2], Res.cells g128 26 [.w4 x3], Res.cells g129 23 [.b20 x2]] (fun (ch : Unit) => ((.a4 t18) : D)) (fun (ch : Unit) => [Res.cells g127 74 [.s A2 nn1 cp2], Res.row (Ty.prod yi Y69) 71 A2 nn1 cp2 y2]) (fun (ch : Unit) => [Res.cells g127 74 [.s A2 nn1 cp2], Res.row (Ty.prod yi Y69) 71 A2 nn1 cp2 y2, Res.cells g125 30 [.b20 y19, .w y20, .w4 y21, .q yb A5 cp6 y22, .q Y66 A6 cp7 y23], Res.cells g126 30 [.b20 t4.1.1, .w t4.1.2.1, .w4 t4.1.2.2.1, .q yb A3 cp3 t4.1.2.2.2.1, .q Y66 A4 cp4 t4.1.2.2.2.2], Res.cells g128 26 [.w4 x3], Res.cells g129 23 [.b20 x2]]) (fun _ => rfl) N24 rfl rfl (fun ok => ok) (.c1 (.c1 (.c0 (.c0 (.c0 (.c0 .n)))))) rfl (store_Store_Slot.ok k (y2) y6 x2 x3 g127 A2 nn1 cp2 t18 et18 _ _) fun ch15 m le1 a w S => ?_)
          replace le := le.trans le1
          refine CL.bk hw S (.c2 (.c0 (.c2 (.c2 .n)))) le fun hw => ?_
          replace CL := CL.add (t := 146) (d := (.a4 t18)) S rfl rfl
          refine h_run' S rfl ⟨_, _, rfl, rfl, c10⟩ (bindX h4 fun t19 et19 h5 => s_callP S _ N26 rfl rfl (smithyref13_Slot.ok k (y19, y20, y21, y22, y23) x3 A5 cp6 A6 cp7 t19 et19 _ _) fun ch16 m le1 a w S => ?_)
          replace le := le.trans le1
          refine CL.bk hw S (.c2 (.c0 (.c2 (.c2 .n)))) le fun hw => ?_
          replace CL := CL.add (t := 149) (d := (.a4 t19)) S rfl rfl
          refine h_nea S CL hw le (subR rfl) rfl rfl underlying26 underlying24 T24 Q26 rfl rfl ⟨_, _, rfl, rfl, c10⟩ fun a S CL => h_pick S CL hw le (subR rfl) (b := false) (hc_of rfl c10) rfl rfl rfl trivial fun a S CL => h_move S CL hw le (subR rfl) rfl rfl rfl trivial fun a S CL => ?_
          rcases ite_of h5 with ⟨c11, h6⟩ | ⟨c11, h6⟩
          ·refine h_skip S CL rfl rfl rfl (ne_bool c11) rfl fun a S CL => h_skip S CL rfl rfl rfl (ne_bool c11) rfl fun a S CL => h_skip S CL rfl rfl rfl (ne_bool c11) rfl fun a S CL => h_skip S CL rfl rfl rfl (ne_bool c11) rfl fun a S CL => h_skip S CL rfl rfl rfl (ne_bool c11) rfl fun a S CL => h_skip S CL rfl rfl rfl (ne_bool c11) rfl fun a S CL => h_skip S CL rfl rfl rfl (ne_bool c11) rfl fun a S CL => h_skipRt S rfl rfl rfl (ne_bool c11) rfl fun a S => CL.bk hw S (.c2 (.c0 (.c2 (.c2 .n)))) le fun hw => h_skipRt S rfl rfl rfl (ne_bool c11) rfl fun a S => CL.bk hw S (.c2 (.c0 (.c2 (.c2 .n)))) le fun hw => h_skipRt S rfl rfl rfl (ne_bool c11) rfl fun a S => CL.bk hw S (.c2 (.c0 (.c2 (.c2 .n)))) le fun hw => ?_
           replace CL := CL.add (t := 162) (d := .u) S rfl rfl
           refine h_skip S CL rfl rfl rfl (ne_bool c11) rfl fun a S CL => h_pick S CL hw le (subR rfl) (b := true) (hc_of rfl c11) rfl rfl rfl trivial fun a S CL => h_move S CL hw le (subR rfl) rfl rfl rfl trivial fun a S CL => h_skip S CL rfl rfl rfl (ne_bool rfl) rfl fun a S CL => h_skip S CL rfl rfl rfl (ne_bool rfl) rfl fun a S CL => h_skip S CL rfl rfl rfl (ne_bool rfl) rfl fun a S CL => h_skip S CL rfl rfl rfl (ne_bool rfl) rfl fun a S CL => h_pick S CL hw le (subR rfl) (b := true) (hc_of rfl rfl) rfl rfl rfl trivial fun a S CL => h_move S CL hw le (subR rfl) rfl rfl rfl trivial fun a S CL => h_skip S CL rfl rfl rfl (ne_bool rfl) rfl fun a S CL => h_skip S CL rfl rfl rfl (ne_bool rfl) rfl fun a S CL => h_skip S CL rfl rfl rfl ne_undef rfl fun a S CL => h_skip S CL rfl rfl rfl ne_undef rfl fun a S CL => h_skip S CL rfl rfl rfl ne_undef rfl fun a S CL => h_skip S CL rfl rfl rfl ne_undef rfl fun a S CL => h_skip S CL rfl rfl rfl ne_undef rfl fun a S CL => h_skip S CL rfl rfl rfl ne_undef rfl fun a S CL => h_skip S CL rfl rfl rfl ne_undef rfl fun a S CL => h_skip S CL rfl rfl rfl (ne_bool rfl) rfl fun a S CL => h_pick S CL hw le (subR rfl) (b := true) (hc_of rfl rfl) rfl rfl rfl trivial fun a S CL => ?_
           refine h_done ?_; clear CL hw le
           refine x_thenN ?_
           exact j7 _ true g127 g128 g129 a w (S.sb rfl (.c0 (.c0 (.c2 (.c2 .n))))) h6
          ·refine h_move S CL hw le (subR rfl) rfl rfl rfl ⟨_, _, rfl, rfl, c11⟩ fun a S CL => h_move S CL hw le (subR rfl) rfl rfl rfl ⟨_, _, rfl, rfl, c11⟩ fun a S CL => h_move S CL hw le (subR rfl) rfl rfl rfl ⟨_, _, rfl, rfl, c11⟩ fun a S CL => h_move S CL hw le (subR rfl) rfl rfl rfl ⟨_, _, rfl, rfl, c11⟩ fun a S CL => ?_
           obtain ⟨c12, h7⟩ := chk_of h6; clear h6
           refine h_iaddrS S CL hw le (subR rfl) rfl rfl rfl underlying54 T53 c12.1 c12.2 rfl rfl ⟨_, _, rfl, rfl, c11⟩ fun p1 a S CL => h_faddrP S CL hw le (subR rfl) (tF := (Ty.slice Y30)) (y := (gt y1 y6).2) rfl I53_1 T32 (by decide) (fun m h => (at_snd (at_0 h))) rfl rfl ⟨_, _, rfl, rfl, c11⟩ fun a S CL => h_ldS S CL hw le (subR rfl) (fun c => c) rfl T32 (fun _ => rfl) rfl rfl ⟨_, _, rfl, rfl, c11⟩ fun A7 cp9 a S CL => h_run' S rfl ⟨_, _, rfl, rfl, c11⟩ (bindX h7 fun t20 et20 h8 => s_callX S (ds' := [(.p g127), (.i y6)]) (ds := [(.p g127), (.i y6)]) [Res.cells g127 74 [.s A2 nn1 cp2], Res.row (Ty.prod yi Y69) 71 A2 nn1 cp2 y2] [Res.cells g125 30 [.b20 y19, .w y20, .w4 y21, .q yb A5 cp6 y22, .q Y66 A6 cp7 y23], Res.cells g126 30 [.b20 t4.1.1, .w t4.1.2.1, .w4 t4.1.2.2.1, .q yb A3 cp3 t4.1.2.2.2.1, .q Y66 A4 cp4 t4.1.2.2.2.2], Res.cells g128 26 [.w4 x3], Res.cells g129 23 [.b20 x2]] (fun (ch : (Option Addr) × Nat × Nat) => ((.s ch.1 ch.2.1 ch.2.2) : D)) (fun (ch : (Option Addr) × Nat × Nat) => [Res.row Y30 30 ch.1 ch.2.1 ch.2.2 t20, Res.cells g127 74 [.s A2 nn1 cp2], Res.row (Ty.prod yi Y69) 71 A2 nn1 cp2 y2]) (fun (ch : (Option Addr) × Nat × Nat) => [Res.row Y30 30 ch.1 ch.2.1 ch.2.2 t20, Res.cells g127 74 [.s A2 nn1 cp2], Res.row (Ty.prod yi Y69) 71 A2 nn1 cp2 y2, Res.cells g125 30 [.b20 y19, .w y20, .w4 y21, .q yb A5 cp6 y22, .q Y66 A6 cp7 y23], Res.cells g126 30 [.b20 t4.1.1, .w t4.1.2.1, .w4 t4.1.2.2.1, .q yb A3 cp3 t4.1.2.2.2.1, .q Y66 A4 cp4 t4.1.2.2.2.2], Res.cells g128 26 [.w4 x3], Res.cells g129 23 [.b20 x2]]) (fun _ => rfl) N18 rfl rfl (fun ok => ok) (.c0 (.c0 (.c0 (.c0 (.c0 (.c0 .n)))))) rfl (store_Store_All.ok k (y2) y6 g127 A2 nn1 cp2 t20 et20 _ _) fun ch17 m le1 a w S => ?_)
           replace le := le.trans le1
           refine CL.bk hw S (.c3 (.c1 (.c3 (.c3 .n)))) le fun hw => h_run' S rfl ⟨_, _, rfl, rfl, c11⟩ (bindX h8 fun t21 et21 h9 => s_callR S (fun (ch : (Option Addr) × Nat × Nat) => ((.s ch.1 ch.2.1 ch.2.2) : D)) (fun (ch : (Option Addr) × Nat × Nat) => Res.row Y30 30 ch.1 ch.2.1 ch.2.2 t21) N27 rfl rfl (smithyref13_Some.ok k ((gt y1 y6).2) A7 cp9 t21 et21 _ _) fun ch18 m le1 a w S => ?_)
           replace le := le.trans le1
           refine CL.bk hw S (.c4 (.c2 (.c4 (.c4 .n)))) le fun hw => h_run' S rfl ⟨_, _, rfl, rfl, c11⟩ ?_
           replace S := S.rowfro .h1
           obtain ⟨m, le1, S, hro⟩ := S
           replace le := le.trans le1
           replace S := S.slotro (u := 155) rfl hro
           replace S := S.rowfro .h
           obtain ⟨m, le1, S, hro⟩ := S
           replace le := le.trans le1
           replace S := S.slotro (u := 161) rfl hro
           refine bindX h9 fun t22 et22 h10 => s_callP S _ N19 rfl rfl (smithyref13_SameAll.ok k t20 t21 ch17.1 ch17.2.2 ch18.1 ch18.2.2 t22 et22 _ _) fun ch19 m le1 a w S => ?_
           replace le := le.trans le1
           refine CL.bk hw S (.c2 (.c0 (.c2 (.c2 .n)))) le fun hw => ?_
           replace CL := CL.add (t := 162) (d := (.b t22)) S rfl rfl
           refine h_not S CL hw le (subR rfl) rfl rfl rfl ⟨_, _, rfl, rfl, c11⟩ fun a S CL => h_pick S CL hw le (subR rfl) (b := false) (hc_of rfl c11) rfl rfl rfl trivial fun a S CL => h_move S CL hw le (subR rfl) rfl rfl rfl trivial fun a S CL => ?_
           rcases ite_of h10 with ⟨c13, h11⟩ | ⟨c13, h11⟩
           ·refine h_skip S CL rfl rfl rfl (ne_bool c13) rfl fun a S CL => h_skip S CL rfl rfl rfl (ne_bool c13) rfl fun a S CL => h_skip S CL rfl rfl rfl (ne_bool c13) rfl fun a S CL => h_skip S CL rfl rfl rfl (ne_bool c13) rfl fun a S CL => h_pick S CL hw le (subR rfl) (b := true) (hc_of rfl c13) rfl rfl rfl trivial fun a S CL => h_move S CL hw le (subR rfl) rfl rfl rfl trivial fun a S CL => h_skip S CL rfl rfl rfl (ne_bool rfl) rfl fun a S CL => h_skip S CL rfl rfl rfl (ne_bool rfl) rfl fun a S CL => h_skip S CL rfl rfl rfl ne_undef rfl fun a S CL => h_skip S CL rfl rfl rfl ne_undef rfl fun a S CL => h_skip S CL rfl rfl rfl ne_undef rfl fun a S CL => h_skip S CL rfl rfl rfl ne_undef rfl fun a S CL => h_skip S CL rfl rfl rfl ne_undef rfl fun a S CL => h_skip S CL rfl rfl rfl ne_undef rfl fun a S CL => h_skip S CL rfl rfl rfl ne_undef rfl fun a S CL => h_skip S CL rfl rfl rfl (ne_bool rfl) rfl fun a S CL => h_pick S CL hw le (subR rfl) (b := true) (hc_of rfl rfl) rfl rfl rfl trivial fun a S CL => ?_
            refine h_done ?_; clear CL hw le
            refine x_thenN ?_
            exact j7 _ true g127 g128 g129 a w (S.sb rfl (.c0 (.c0 (.c2 (.c2 .n))))) h11
           ·refine h_move S CL hw le (subR rfl) rfl rfl rfl ⟨_, _, rfl, rfl, c13⟩ fun a S CL => h_move S CL hw le (subR rfl) rfl rfl rfl ⟨_, _, rfl, rfl, c13⟩ fun a S CL => h_bin S CL hw le (subR rfl) rfl rfl rfl rfl rfl ⟨_, _, rfl, rfl, c13⟩ fun a S CL => h_neb S CL hw le (subR rfl) rfl rfl underlying4 rfl rfl ⟨_, _, rfl, rfl, c13⟩ fun a S CL => h_pick S CL hw le (subR rfl) (b := false) (hc_of rfl c13) rfl rfl rfl trivial fun a S CL => h_move S CL hw le (subR rfl) rfl rfl rfl trivial fun a S CL => ?_
            rcases ite_of h11 with ⟨c14, h12⟩ | ⟨c14, h12⟩
            ·refine h_skip S CL rfl rfl rfl (ne_bool c14) rfl fun a S CL => h_skip S CL rfl rfl rfl (ne_bool c14) rfl fun a S CL => h_skip S CL rfl rfl rfl ne_undef rfl fun a S CL => h_skip S CL rfl rfl rfl ne_undef rfl fun a S CL => h_skip S CL rfl rfl rfl ne_undef rfl fun a S CL => h_skip S CL rfl rfl rfl ne_undef rfl fun a S CL => h_skip S CL rfl rfl rfl ne_undef rfl fun a S CL => h_skip S CL rfl rfl rfl ne_undef rfl fun a S CL => h_skip S CL rfl rfl rfl ne_undef rfl fun a S CL => h_skip S CL rfl rfl rfl (ne_bool c14) rfl fun a S CL => h_pick S CL hw le (subR rfl) (b := true) (hc_of rfl c14) rfl rfl rfl trivial fun a S CL => ?_
             refine h_done ?_; clear CL hw le
             refine x_thenN ?_
             exact j7 _ true g127 g128 g129 a w (S.sb rfl (.c0 (.c0 (.c2 (.c2 .n))))) h12
            ·refine h_move S CL hw le (subR rfl) rfl rfl rfl ⟨_, _, rfl, rfl, c14⟩ fun a S CL => h_move S CL hw le (subR rfl) rfl rfl rfl ⟨_, _, rfl, rfl, c14⟩ fun a S CL => ?_
             rcases ite_of h12 with ⟨c15, h13⟩ | ⟨c15, h13⟩
             ·refine h_move S CL hw le (subR rfl) rfl rfl rfl ⟨_, _, rfl, rfl, c15⟩ fun a S CL => h_move S CL hw le (subR rfl) rfl rfl rfl ⟨_, _, rfl, rfl, c15⟩ fun a S CL => h_move S CL hw le (subR rfl) rfl rfl rfl ⟨_, _, rfl, rfl, c15⟩ fun a S CL => h_iaddrS S CL hw le (subR rfl) rfl rfl rfl underlying54 T53 c12.1 c12.2 rfl rfl ⟨_, _, rfl, rfl, c15⟩ fun p2 a S CL => h_faddrP S CL hw le (subR rfl) (tF := yi) (y := (gt y1 y6).1) rfl I53_0 T3 (by decide) (fun m h => (at_fst (at_0 h))) rfl rfl ⟨_, _, rfl, rfl, c15⟩ fun a S CL => h_ld1 S CL hw le (subR rfl) (v := (.int .i64 ((gt y1 y6).1))) rfl T3 (fun _ => rfl) rfl rfl ⟨_, _, rfl, rfl, c15⟩ fun a S CL => h_bin S CL hw le (subR rfl) rfl rfl rfl rfl rfl ⟨_, _, rfl, rfl, c15⟩ fun a S CL => h_pick S CL hw le (subR rfl) (b := true) (hc_of rfl c15) rfl rfl rfl ⟨_, _, rfl, rfl, c14⟩ fun a S CL => h_pick S CL hw le (subR rfl) (b := false) (hc_of rfl c14) rfl rfl rfl trivial fun a S CL => ?_
              refine h_done ?_; clear CL hw le
              refine x_thenN ?_
              exact j7 _ (t5.1 != ((gt y1 y6).1)) g127 g128 g129 a w (S.sb rfl (.c0 (.c0 (.c2 (.c2 .n))))) h13
             ·refine h_skip S CL rfl rfl rfl (ne_bool c15) rfl fun a S CL => h_skip S CL rfl rfl rfl (ne_bool c15) rfl fun a S CL => h_skip S CL rfl rfl rfl (ne_bool c15) rfl fun a S CL => h_skip S CL rfl rfl rfl (ne_bool c15) rfl fun a S CL => h_skip S CL rfl rfl rfl (ne_bool c15) rfl fun a S CL => h_skip S CL rfl rfl rfl (ne_bool c15) rfl fun a S CL => h_skip S CL rfl rfl rfl (ne_bool c15) rfl fun a S CL => h_pick S CL hw le (subR rfl) (b := false) (hc_of rfl c15) rfl rfl rfl ⟨_, _, rfl, rfl, c14⟩ fun a S CL => h_pick S CL hw le (subR rfl) (b := false) (hc_of rfl c14) rfl rfl rfl trivial fun a S CL => ?_
              refine h_done ?_; clear CL hw le
              refine x_thenN ?_
              exact j7 _ false g127 g128 g129 a w (S.sb rfl (.c0 (.c0 (.c2 (.c2 .n))))) h13
       refine c_heldS S (.take 0 (.take 1 (.take 2 (.take 3 (.take 4 (.take 5 (.alts (.run 6 true (.alts (.run 7 true (.alts (.run 8 true (.alts (.run 9 true (.alts (.run 10 true (.alts (.run 11 true (.take 12 .done) .nil)) .nil)) (.run 10 true (.alts (.run 9 true (.alts (.run 11 true (.take 12 .done) .nil)) (.run 11 true (.alts (.run 9 true (.take 12 .done) .nil)) .nil))) .nil))) (.run 9 true (.alts (.run 8 true (.alts (.run 10 true (.alts (.run 11 true (.take 12 .done) .nil)) .nil)) (.run 10 true (.alts (.run 8 true (.alts (.run 11 true (.take 12 .done) .nil)) .nil)) .nil))) (.run 10 true (.alts (.run 8 true (.alts (.run 9 true (.alts (.run 11 true (.take 12 .done) .nil)) (.run 11 true (.alts (.run 9 true (.take 12 .done) .nil)) .nil))) (.run 9 true (.alts (.run 8 true (.alts (.run 11 true (.take 12 .done) .nil)) .nil)) .nil))) .nil)))) (.run 10 true (.alts (.run 7 true (.alts (.run 8 true (.alts (.run 9 true (.alts (.run 11 true (.take 12 .done) .nil)) (.run 11 true (.alts (.run 9 true (.take 12 .done) .nil)) .nil))) (.run 9 true (.alts (.run 8 true (.alts (.run 11 true (.take 12 .done) .nil)) .nil)) .nil))) .nil)) .nil))) (.run 10 true (.alts (.run 6 true (.alts (.run 7 true (.alts (.run 8 true (.alts (.run 9 true (.alts (.run 11 true (.take 12 .done) .nil)) (.run 11 true (.alts (.run 9 true (.take 12 .done) .nil)) .nil))) (.run 9 true (.alts (.run 8 true (.alts (.run 11 true (.take 12 .done) .nil)) .nil)) .nil))) .nil)) .nil)) .nil))))))))) 13 [Res.cells g118 74 [.s A2 nn1 cp2], Res.cells g117 30 [.b20 t4.1.1, .w t4.1.2.1, .w4 t4.1.2.2.1, .s A3 nn2 cp3, .s A4 nn3 cp4], Res.row yb 5 A3 nn2 cp3 t4.1.2.2.2.1, Res.row Y66 66 A4 nn3 cp4 t4.1.2.2.2.2, Res.cells g119 26 [.w4 x3], Res.cells g120 23 [.b20 x2]] (.c0 (.c1 (.c1 (.c1 (.c1 (.c1 .n)))))) ⟨Res.stay_cells, Res.stay_cells, Res.stay_row flat_int, Res.stay_row (flat_prod flat_arr flat_arr), Res.stay_cells, Res.stay_cells, trivial⟩ [(16, (.i y6)), (8, (.q Y53 A1 cp1 y1)), (4, (.p g120))] (subR rfl) (by kernel_rfl) (by kernel_rfl) fun w S CL hw le => ?_
       refine h_move S CL hw le (subR rfl) rfl rfl rfl trivial fun a S CL => h_move S CL hw le (subR rfl) rfl rfl rfl trivial fun a S CL => ?_
       obtain ⟨c16, h2⟩ := chk_of h1; clear h1
       refine h_iaddrS S CL hw le (subR rfl) rfl rfl rfl underlying54 T53 c16.1 c16.2 rfl rfl trivial fun p3 a S CL => h_faddrP S CL hw le (subR rfl) (tF := (Ty.slice Y30)) (y := (gt y1 y6).2) rfl I53_1 T32 (by decide) (fun m h => (at_snd (at_0 h))) rfl rfl trivial fun a S CL => h_ldS S CL hw le (subR rfl) (fun c => c) rfl T32 (fun _ => rfl) rfl rfl trivial fun A8 cp10 a S CL => h_loada S CL hw le (subR rfl) rfl .h5 T23 (s' := [.b20 x2]) rfl rfl rfl trivial fun a S CL => bindX h2 fun t23 et23 h3 => h_alts ?_
       refine h_runO S rfl trivial ?_ ?_
       ·refine s_callP S _ N25 rfl rfl (smithyref13_Find.ok k ((gt y1 y6).2) x2 A8 cp10 t23 et23 _ _) fun ch20 m le1 a w S => ?_
        replace le := le.trans le1
        refine CL.bk hw S (.c0 (.c1 (.c1 (.c1 (.c1 (.c1 .n)))))) le fun hw => h_alts ?_
        refine h_runO S rfl trivial ?_ ?_
        ·refine s_move S rfl rfl fun a S => CL.bk hw S (.c0 (.c1 (.c1 (.c1 (.c1 (.c1 .n)))))) le fun hw => h_alts ?_
         refine h_runO S rfl trivial ?_ ?_
         ·refine s_extract S rfl rfl rfl rfl fun a S => CL.bk hw S (.c0 (.c1 (.c1 (.c1 (.c1 (.c1 .n)))))) le fun hw => h_alts ?_
          refine h_runO S rfl trivial ?_ ?_
          ·refine s_extract S rfl rfl rfl rfl fun a S => CL.bk hw S (.c0 (.c1 (.c1 (.c1 (.c1 (.c1 .n)))))) le fun hw => ?_
           replace CL := CL.add (t := 131) (d := (.b t23.2)) S rfl rfl
           refine h_run' S rfl trivial (s_alloc S Z30 rfl ⟨rfl, rfl, rfl, rfl, rfl, trivial⟩ rfl fun g133 a w S => CL.bk hw S (.c1 (.c2 (.c2 (.c2 (.c2 (.c2 .n)))))) le fun hw => h_run' S rfl trivial (s_store S rfl rfl rfl (s' := [.b20 t23.1.1, .w t23.1.2.1, .w4 t23.1.2.2.1, .q yb ch20.1 ch20.2.1 t23.1.2.2.2.1, .q Y66 ch20.2.2.1 ch20.2.2.2 t23.1.2.2.2.2]) .h T30 rfl rfl fun w S => CL.bk hw S (.c1 (.c2 (.c2 (.c2 (.c2 (.c2 .n)))))) le fun hw => h_assign S CL hw le (subR rfl) rfl rfl rfl trivial fun a S CL => ?_))
           refine h_done ?_; clear CL hw le
           refine x_thenN ?_
           exact j6 _ t23.2 g133 g117 g118 g119 g120 t23.1.1 t23.1.2.1 t23.1.2.2.1 ch20.1 ch20.2.1 t23.1.2.2.2.1 ch20.2.2.1 ch20.2.2.2 t23.1.2.2.2.2 a w (S.sb rfl (.c0 (.c0 (.c0 (.c0 (.c0 (.c0 (.c0 (.c0 .n))))))))) h3
          refine h_runO S rfl trivial ?_ ?_
          ·refine s_alloc S Z30 rfl ⟨rfl, rfl, rfl, rfl, rfl, trivial⟩ rfl fun g133 a w S => CL.bk hw S (.c1 (.c2 (.c2 (.c2 (.c2 (.c2 .n)))))) le fun hw => h_alts ?_
           refine h_runO S rfl trivial ?_ ?_
           ·refine s_extract S rfl rfl rfl rfl fun a S => CL.bk hw S (.c1 (.c2 (.c2 (.c2 (.c2 (.c2 .n)))))) le fun hw => ?_
            replace CL := CL.add (t := 131) (d := (.b t23.2)) S rfl rfl
            refine h_run' S rfl trivial (s_store S rfl rfl rfl (s' := [.b20 t23.1.1, .w t23.1.2.1, .w4 t23.1.2.2.1, .q yb ch20.1 ch20.2.1 t23.1.2.2.2.1, .q Y66 ch20.2.2.1 ch20.2.2.2 t23.1.2.2.2.2]) .h T30 rfl rfl fun w S => CL.bk hw S (.c1 (.c2 (.c2 (.c2 (.c2 (.c2 .n)))))) le fun hw => h_assign S CL hw le (subR rfl) rfl rfl rfl trivial fun a S CL => ?_)
            refine h_done ?_; clear CL hw le
            refine x_thenN ?_
            exact j6 _ t23.2 g133 g117 g118 g119 g120 t23.1.1 t23.1.2.1 t23.1.2.2.1 ch20.1 ch20.2.1 t23.1.2.2.2.1 ch20.2.2.1 ch20.2.2.2 t23.1.2.2.2.2 a w (S.sb rfl (.c0 (.c0 (.c0 (.c0 (.c0 (.c0 (.c0 (.c0 .n))))))))) h3
           refine h_runO S rfl trivial ?_ ?_
           ·refine s_store S rfl rfl rfl (s' := [.b20 t23.1.1, .w t23.1.2.1, .w4 t23.1.2.2.1, .q yb ch20.1 ch20.2.1 t23.1.2.2.2.1, .q Y66 ch20.2.2.1 ch20.2.2.2 t23.1.2.2.2.2]) .h T30 rfl rfl fun w S => CL.bk hw S (.c1 (.c2 (.c2 (.c2 (.c2 (.c2 .n)))))) le fun hw => h_run' S rfl trivial (s_extract S rfl rfl rfl rfl fun a S => CL.bk hw S (.c1 (.c2 (.c2 (.c2 (.c2 (.c2 .n)))))) le fun hw => ?_)
            replace CL := CL.add (t := 131) (d := (.b t23.2)) S rfl rfl
            refine h_assign S CL hw le (subR rfl) rfl rfl rfl trivial fun a S CL => ?_
            refine h_done ?_; clear CL hw le
            refine x_thenN ?_
            exact j6 _ t23.2 g133 g117 g118 g119 g120 t23.1.1 t23.1.2.1 t23.1.2.2.1 ch20.1 ch20.2.1 t23.1.2.2.2.1 ch20.2.2.1 ch20.2.2.2 t23.1.2.2.2.2 a w (S.sb rfl (.c0 (.c0 (.c0 (.c0 (.c0 (.c0 (.c0 (.c0 .n))))))))) h3
           exact h_nil
          exact h_nil
         refine h_runO S rfl trivial ?_ ?_
         ·refine s_extract S rfl rfl rfl rfl fun a S => CL.bk hw S (.c0 (.c1 (.c1 (.c1 (.c1 (.c1 .n)))))) le fun hw => ?_
          replace CL := CL.add (t := 131) (d := (.b t23.2)) S rfl rfl
          refine h_alts ?_
          refine h_runO S rfl trivial ?_ ?_
          ·refine s_extract S rfl rfl rfl rfl fun a S => CL.bk hw S (.c0 (.c1 (.c1 (.c1 (.c1 (.c1 .n)))))) le fun hw => h_run' S rfl trivial (s_alloc S Z30 rfl ⟨rfl, rfl, rfl, rfl, rfl, trivial⟩ rfl fun g133 a w S => CL.bk hw S (.c1 (.c2 (.c2 (.c2 (.c2 (.c2 .n)))))) le fun hw => h_run' S rfl trivial (s_store S rfl rfl rfl (s' := [.b20 t23.1.1, .w t23.1.2.1, .w4 t23.1.2.2.1, .q yb ch20.1 ch20.2.1 t23.1.2.2.2.1, .q Y66 ch20.2.2.1 ch20.2.2.2 t23.1.2.2.2.2]) .h T30 rfl rfl fun w S => CL.bk hw S (.c1 (.c2 (.c2 (.c2 (.c2 (.c2 .n)))))) le fun hw => h_assign S CL hw le (subR rfl) rfl rfl rfl trivial fun a S CL => ?_))
           refine h_done ?_; clear CL hw le
           refine x_thenN ?_
           exact j6 _ t23.2 g133 g117 g118 g119 g120 t23.1.1 t23.1.2.1 t23.1.2.2.1 ch20.1 ch20.2.1 t23.1.2.2.2.1 ch20.2.2.1 ch20.2.2.2 t23.1.2.2.2.2 a w (S.sb rfl (.c0 (.c0 (.c0 (.c0 (.c0 (.c0 (.c0 (.c0 .n))))))))) h3
          refine h_runO S rfl trivial ?_ ?_
          ·refine s_alloc S Z30 rfl ⟨rfl, rfl, rfl, rfl, rfl, trivial⟩ rfl fun g133 a w S => CL.bk hw S (.c1 (.c2 (.c2 (.c2 (.c2 (.c2 .n)))))) le fun hw => h_run' S rfl trivial (s_extract S rfl rfl rfl rfl fun a S => CL.bk hw S (.c1 (.c2 (.c2 (.c2 (.c2 (.c2 .n)))))) le fun hw => h_run' S rfl trivial (s_store S rfl rfl rfl (s' := [.b20 t23.1.1, .w t23.1.2.1, .w4 t23.1.2.2.1, .q yb ch20.1 ch20.2.1 t23.1.2.2.2.1, .q Y66 ch20.2.2.1 ch20.2.2.2 t23.1.2.2.2.2]) .h T30 rfl rfl fun w S => CL.bk hw S (.c1 (.c2 (.c2 (.c2 (.c2 (.c2 .n)))))) le fun hw => h_assign S CL hw le (subR rfl) rfl rfl rfl trivial fun a S CL => ?_))
           refine h_done ?_; clear CL hw le
           refine x_thenN ?_
           exact j6 _ t23.2 g133 g117 g118 g119 g120 t23.1.1 t23.1.2.1 t23.1.2.2.1 ch20.1 ch20.2.1 t23.1.2.2.2.1 ch20.2.2.1 ch20.2.2.2 t23.1.2.2.2.2 a w (S.sb rfl (.c0 (.c0 (.c0 (.c0 (.c0 (.c0 (.c0 (.c0 .n))))))))) h3
          exact h_nil
         refine h_runO S rfl trivial ?_ ?_
         ·refine s_alloc S Z30 rfl ⟨rfl, rfl, rfl, rfl, rfl, trivial⟩ rfl fun g133 a w S => CL.bk hw S (.c1 (.c2 (.c2 (.c2 (.c2 (.c2 .n)))))) le fun hw => h_alts ?_
          refine h_runO S rfl trivial ?_ ?_
          ·refine s_extract S rfl rfl rfl rfl fun a S => CL.bk hw S (.c1 (.c2 (.c2 (.c2 (.c2 (.c2 .n)))))) le fun hw => h_alts ?_
           refine h_runO S rfl trivial ?_ ?_
           ·refine s_extract S rfl rfl rfl rfl fun a S => CL.bk hw S (.c1 (.c2 (.c2 (.c2 (.c2 (.c2 .n)))))) le fun hw => ?_
            replace CL := CL.add (t := 131) (d := (.b t23.2)) S rfl rfl
            refine h_run' S rfl trivial (s_store S rfl rfl rfl (s' := [.b20 t23.1.1, .w t23.1.2.1, .w4 t23.1.2.2.1, .q yb ch20.1 ch20.2.1 t23.1.2.2.2.1, .q Y66 ch20.2.2.1 ch20.2.2.2 t23.1.2.2.2.2]) .h T30 rfl rfl fun w S => CL.bk hw S (.c1 (.c2 (.c2 (.c2 (.c2 (.c2 .n)))))) le fun hw => h_assign S CL hw le (subR rfl) rfl rfl rfl trivial fun a S CL => ?_)
            refine h_done ?_; clear CL hw le
            refine x_thenN ?_
            exact j6 _ t23.2 g133 g117 g118 g119 g120 t23.1.1 t23.1.2.1 t23.1.2.2.1 ch20.1 ch20.2.1 t23.1.2.2.2.1 ch20.2.2.1 ch20.2.2.2 t23.1.2.2.2.2 a w (S.sb rfl (.c0 (.c0 (.c0 (.c0 (.c0 (.c0 (.c0 (.c0 .n))))))))) h3
           refine h_runO S rfl trivial ?_ ?_
           ·refine s_store S rfl rfl rfl (s' := [.b20 t23.1.1, .w t23.1.2.1, .w4 t23.1.2.2.1, .q yb ch20.1 ch20.2.1 t23.1.2.2.2.1, .q Y66 ch20.2.2.1 ch20.2.2.2 t23.1.2.2.2.2]) .h T30 rfl rfl fun w S => CL.bk hw S (.c1 (.c2 (.c2 (.c2 (.c2 (.c2 .n)))))) le fun hw => h_run' S rfl trivial (s_extract S rfl rfl rfl rfl fun a S => CL.bk hw S (.c1 (.c2 (.c2 (.c2 (.c2 (.c2 .n)))))) le fun hw => ?_)
            replace CL := CL.add (t := 131) (d := (.b t23.2)) S rfl rfl
            refine h_assign S CL hw le (subR rfl) rfl rfl rfl trivial fun a S CL => ?_
            refine h_done ?_; clear CL hw le
            refine x_thenN ?_
            exact j6 _ t23.2 g133 g117 g118 g119 g120 t23.1.1 t23.1.2.1 t23.1.2.2.1 ch20.1 ch20.2.1 t23.1.2.2.2.1 ch20.2.2.1 ch20.2.2.2 t23.1.2.2.2.2 a w (S.sb rfl (.c0 (.c0 (.c0 (.c0 (.c0 (.c0 (.c0 (.c0 .n))))))))) h3
           exact h_nil
          refine h_runO S rfl trivial ?_ ?_
          ·refine s_extract S rfl rfl rfl rfl fun a S => CL.bk hw S (.c1 (.c2 (.c2 (.c2 (.c2 (.c2 .n)))))) le fun hw => ?_
           replace CL := CL.add (t := 131) (d := (.b t23.2)) S rfl rfl
           refine h_run' S rfl trivial (s_extract S rfl rfl rfl rfl fun a S => CL.bk hw S (.c1 (.c2 (.c2 (.c2 (.c2 (.c2 .n)))))) le fun hw => h_run' S rfl trivial (s_store S rfl rfl rfl (s' := [.b20 t23.1.1, .w t23.1.2.1, .w4 t23.1.2.2.1, .q yb ch20.1 ch20.2.1 t23.1.2.2.2.1, .q Y66 ch20.2.2.1 ch20.2.2.2 t23.1.2.2.2.2]) .h T30 rfl rfl fun w S => CL.bk hw S (.c1 (.c2 (.c2 (.c2 (.c2 (.c2 .n)))))) le fun hw => h_assign S CL hw le (subR rfl) rfl rfl rfl trivial fun a S CL => ?_))
           refine h_done ?_; clear CL hw le
           refine x_thenN ?_
           exact j6 _ t23.2 g133 g117 g118 g119 g120 t23.1.1 t23.1.2.1 t23.1.2.2.1 ch20.1 ch20.2.1 t23.1.2.2.2.1 ch20.2.2.1 ch20.2.2.2 t23.1.2.2.2.2 a w (S.sb rfl (.c0 (.c0 (.c0 (.c0 (.c0 (.c0 (.c0 (.c0 .n))))))))) h3
          exact h_nil
         exact h_nil
        refine h_runO S rfl trivial ?_ ?_
        ·refine s_alloc S Z30 rfl ⟨rfl, rfl, rfl, rfl, rfl, trivial⟩ rfl fun g133 a w S => CL.bk hw S (.c1 (.c2 (.c2 (.c2 (.c2 (.c2 .n)))))) le fun hw => h_run' S rfl trivial (s_move S rfl rfl fun a S => CL.bk hw S (.c1 (.c2 (.c2 (.c2 (.c2 (.c2 .n)))))) le fun hw => h_alts ?_)
         refine h_runO S rfl trivial ?_ ?_
         ·refine s_extract S rfl rfl rfl rfl fun a S => CL.bk hw S (.c1 (.c2 (.c2 (.c2 (.c2 (.c2 .n)))))) le fun hw => h_alts ?_
          refine h_runO S rfl trivial ?_ ?_
          ·refine s_extract S rfl rfl rfl rfl fun a S => CL.bk hw S (.c1 (.c2 (.c2 (.c2 (.c2 (.c2 .n)))))) le fun hw => ?_
           replace CL := CL.add (t := 131) (d := (.b t23.2)) S rfl rfl
           refine h_run' S rfl trivial (s_store S rfl rfl rfl (s' := [.b20 t23.1.1, .w t23.1.2.1, .w4 t23.1.2.2.1, .q yb ch20.1 ch20.2.1 t23.1.2.2.2.1, .q Y66 ch20.2.2.1 ch20.2.2.2 t23.1.2.2.2.2]) .h T30 rfl rfl fun w S => CL.bk hw S (.c1 (.c2 (.c2 (.c2 (.c2 (.c2 .n)))))) le fun hw => h_assign S CL hw le (subR rfl) rfl rfl rfl trivial fun a S CL => ?_)
           refine h_done ?_; clear CL hw le
           refine x_thenN ?_
           exact j6 _ t23.2 g133 g117 g118 g119 g120 t23.1.1 t23.1.2.1 t23.1.2.2.1 ch20.1 ch20.2.1 t23.1.2.2.2.1 ch20.2.2.1 ch20.2.2.2 t23.1.2.2.2.2 a w (S.sb rfl (.c0 (.c0 (.c0 (.c0 (.c0 (.c0 (.c0 (.c0 .n))))))))) h3
          refine h_runO S rfl trivial ?_ ?_
          ·refine s_store S rfl rfl rfl (s' := [.b20 t23.1.1, .w t23.1.2.1, .w4 t23.1.2.2.1, .q yb ch20.1 ch20.2.1 t23.1.2.2.2.1, .q Y66 ch20.2.2.1 ch20.2.2.2 t23.1.2.2.2.2]) .h T30 rfl rfl fun w S => CL.bk hw S (.c1 (.c2 (.c2 (.c2 (.c2 (.c2 .n)))))) le fun hw => h_run' S rfl trivial (s_extract S rfl rfl rfl rfl fun a S => CL.bk hw S (.c1 (.c2 (.c2 (.c2 (.c2 (.c2 .n)))))) le fun hw => ?_)
           replace CL := CL.add (t := 131) (d := (.b t23.2)) S rfl rfl
           refine h_assign S CL hw le (subR rfl) rfl rfl rfl trivial fun a S CL => ?_
           refine h_done ?_; clear CL hw le
           refine x_thenN ?_
           exact j6 _ t23.2 g133 g117 g118 g119 g120 t23.1.1 t23.1.2.1 t23.1.2.2.1 ch20.1 ch20.2.1 t23.1.2.2.2.1 ch20.2.2.1 ch20.2.2.2 t23.1.2.2.2.2 a w (S.sb rfl (.c0 (.c0 (.c0 (.c0 (.c0 (.c0 (.c0 (.c0 .n))))))))) h3
          exact h_nil
         refine h_runO S rfl trivial ?_ ?_
         ·refine s_extract S rfl rfl rfl rfl fun a S => CL.bk hw S (.c1 (.c2 (.c2 (.c2 (.c2 (.c2 .n)))))) le fun hw => ?_
          replace CL := CL.add (t := 131) (d := (.b t23.2)) S rfl rfl
          refine h_run' S rfl trivial (s_extract S rfl rfl rfl rfl fun a S => CL.bk hw S (.c1 (.c2 (.c2 (.c2 (.c2 (.c2 .n)))))) le fun hw => h_run' S rfl trivial (s_store S rfl rfl rfl (s' := [.b20 t23.1.1, .w t23.1.2.1, .w4 t23.1.2.2.1, .q yb ch20.1 ch20.2.1 t23.1.2.2.2.1, .q Y66 ch20.2.2.1 ch20.2.2.2 t23.1.2.2.2.2]) .h T30 rfl rfl fun w S => CL.bk hw S (.c1 (.c2 (.c2 (.c2 (.c2 (.c2 .n)))))) le fun hw => h_assign S CL hw le (subR rfl) rfl rfl rfl trivial fun a S CL => ?_))
          refine h_done ?_; clear CL hw le
          refine x_thenN ?_
          exact j6 _ t23.2 g133 g117 g118 g119 g120 t23.1.1 t23.1.2.1 t23.1.2.2.1 ch20.1 ch20.2.1 t23.1.2.2.2.1 ch20.2.2.1 ch20.2.2.2 t23.1.2.2.2.2 a w (S.sb rfl (.c0 (.c0 (.c0 (.c0 (.c0 (.c0 (.c0 (.c0 .n))))))))) h3
         exact h_nil
        exact h_nil
       refine h_runO S rfl trivial ?_ ?_
       ·refine s_alloc S Z30 rfl ⟨rfl, rfl, rfl, rfl, rfl, trivial⟩ rfl fun g133 a w S => CL.bk hw S (.c1 (.c2 (.c2 (.c2 (.c2 (.c2 .n)))))) le fun hw => h_run' S rfl trivial (s_callP S _ N25 rfl rfl (smithyref13_Find.ok k ((gt y1 y6).2) x2 A8 cp10 t23 et23 _ _) fun ch20 m le1 a w S => ?_)
        replace le := le.trans le1
        refine CL.bk hw S (.c1 (.c2 (.c2 (.c2 (.c2 (.c2 .n)))))) le fun hw => h_run' S rfl trivial (s_move S rfl rfl fun a S => CL.bk hw S (.c1 (.c2 (.c2 (.c2 (.c2 (.c2 .n)))))) le fun hw => h_alts ?_)
        refine h_runO S rfl trivial ?_ ?_
        ·refine s_extract S rfl rfl rfl rfl fun a S => CL.bk hw S (.c1 (.c2 (.c2 (.c2 (.c2 (.c2 .n)))))) le fun hw => h_alts ?_
         refine h_runO S rfl trivial ?_ ?_
         ·refine s_extract S rfl rfl rfl rfl fun a S => CL.bk hw S (.c1 (.c2 (.c2 (.c2 (.c2 (.c2 .n)))))) le fun hw => ?_
          replace CL := CL.add (t := 131) (d := (.b t23.2)) S rfl rfl
          refine h_run' S rfl trivial (s_store S rfl rfl rfl (s' := [.b20 t23.1.1, .w t23.1.2.1, .w4 t23.1.2.2.1, .q yb ch20.1 ch20.2.1 t23.1.2.2.2.1, .q Y66 ch20.2.2.1 ch20.2.2.2 t23.1.2.2.2.2]) .h T30 rfl rfl fun w S => CL.bk hw S (.c1 (.c2 (.c2 (.c2 (.c2 (.c2 .n)))))) le fun hw => h_assign S CL hw le (subR rfl) rfl rfl rfl trivial fun a S CL => ?_)
          refine h_done ?_; clear CL hw le
          refine x_thenN ?_
          exact j6 _ t23.2 g133 g117 g118 g119 g120 t23.1.1 t23.1.2.1 t23.1.2.2.1 ch20.1 ch20.2.1 t23.1.2.2.2.1 ch20.2.2.1 ch20.2.2.2 t23.1.2.2.2.2 a w (S.sb rfl (.c0 (.c0 (.c0 (.c0 (.c0 (.c0 (.c0 (.c0 .n))))))))) h3
         refine h_runO S rfl trivial ?_ ?_
         ·refine s_store S rfl rfl rfl (s' := [.b20 t23.1.1, .w t23.1.2.1, .w4 t23.1.2.2.1, .q yb ch20.1 ch20.2.1 t23.1.2.2.2.1, .q Y66 ch20.2.2.1 ch20.2.2.2 t23.1.2.2.2.2]) .h T30 rfl rfl fun w S => CL.bk hw S (.c1 (.c2 (.c2 (.c2 (.c2 (.c2 .n)))))) le fun hw => h_run' S rfl trivial (s_extract S rfl rfl rfl rfl fun a S => CL.bk hw S (.c1 (.c2 (.c2 (.c2 (.c2 (.c2 .n)))))) le fun hw => ?_)
          replace CL := CL.add (t := 131) (d := (.b t23.2)) S rfl rfl
          refine h_assign S CL hw le (subR rfl) rfl rfl rfl trivial fun a S CL => ?_
          refine h_done ?_; clear CL hw le
          refine x_thenN ?_
          exact j6 _ t23.2 g133 g117 g118 g119 g120 t23.1.1 t23.1.2.1 t23.1.2.2.1 ch20.1 ch20.2.1 t23.1.2.2.2.1 ch20.2.2.1 ch20.2.2.2 t23.1.2.2.2.2 a w (S.sb rfl (.c0 (.c0 (.c0 (.c0 (.c0 (.c0 (.c0 (.c0 .n))))))))) h3
         exact h_nil
        refine h_runO S rfl trivial ?_ ?_
        ·refine s_extract S rfl rfl rfl rfl fun a S => CL.bk hw S (.c1 (.c2 (.c2 (.c2 (.c2 (.c2 .n)))))) le fun hw => ?_
         replace CL := CL.add (t := 131) (d := (.b t23.2)) S rfl rfl
         refine h_run' S rfl trivial (s_extract S rfl rfl rfl rfl fun a S => CL.bk hw S (.c1 (.c2 (.c2 (.c2 (.c2 (.c2 .n)))))) le fun hw => h_run' S rfl trivial (s_store S rfl rfl rfl (s' := [.b20 t23.1.1, .w t23.1.2.1, .w4 t23.1.2.2.1, .q yb ch20.1 ch20.2.1 t23.1.2.2.2.1, .q Y66 ch20.2.2.1 ch20.2.2.2 t23.1.2.2.2.2]) .h T30 rfl rfl fun w S => CL.bk hw S (.c1 (.c2 (.c2 (.c2 (.c2 (.c2 .n)))))) le fun hw => h_assign S CL hw le (subR rfl) rfl rfl rfl trivial fun a S CL => ?_))
         refine h_done ?_; clear CL hw le
         refine x_thenN ?_
         exact j6 _ t23.2 g133 g117 g118 g119 g120 t23.1.1 t23.1.2.1 t23.1.2.2.1 ch20.1 ch20.2.1 t23.1.2.2.2.1 ch20.2.2.1 ch20.2.2.2 t23.1.2.2.2.2 a w (S.sb rfl (.c0 (.c0 (.c0 (.c0 (.c0 (.c0 (.c0 (.c0 .n))))))))) h3
        exact h_nil
       exact h_nil
     refine c_region' (s_move S rfl rfl fun a S => s_bin S rfl rfl rfl rfl fun a S => s_move S rfl rfl fun a S => ?_)
     rcases ite_of h3 with ⟨c17, h4⟩ | ⟨c17, h4⟩
     ·refine s_gF S (b := (decide (y6 < 0))) rfl rfl c17 rfl fun a S => s_gF S (b := (decide (y6 < 0))) rfl rfl c17 rfl fun a S => s_gF S (b := (decide (y6 < 0))) rfl rfl c17 rfl fun a S => s_gF S (b := (decide (y6 < 0))) rfl rfl c17 rfl fun a S => s_pick S (b := true) (hc_of rfl c17) rfl rfl fun a S => c_end' (x_thenN ?_)
      exact j4 _ true g116 g93 g94 g95 ch3.1 ch3.2.1 ch3.2.2.1 ch3.2.2.2.1 ch3.2.2.2.2.1 ch3.2.2.2.2.2 a w (S.sb rfl (.c0 (.c0 (.c0 (.c0 (.c0 (.c0 (.c0 .n)))))))) h4
     ·refine s_gT S (b := (decide (y6 < 0))) rfl rfl c17 (s_move S rfl rfl fun a S => s_gT S (b := (decide (y6 < 0))) rfl rfl c17 (s_move S rfl rfl fun a S => s_gT S (b := (decide (y6 < 0))) rfl rfl c17 (s_lenS S rfl underlying54 rfl fun a S => s_gT S (b := (decide (y6 < 0))) rfl rfl c17 (s_bin S rfl rfl rfl rfl fun a S => s_pick S (b := false) (hc_of rfl c17) rfl rfl fun a S => c_end' (x_thenN ?_)))))
      exact j4 _ (y6 == ((y1).length : Int)) g116 g93 g94 g95 ch3.1 ch3.2.1 ch3.2.2.1 ch3.2.2.2.1 ch3.2.2.2.2.1 ch3.2.2.2.2.2 a w (S.sb rfl (.c0 (.c0 (.c0 (.c0 (.c0 (.c0 (.c0 .n)))))))) h4
    ·refine c_condF S rfl c2 (wp_exit (x_thenX (x_thenX (x_blockX (x_thenN ?_)))))
     exact j2 _ a w (S.sub trivial .nil) h1
  refine c_region (s_move S rfl rfl fun a S => bindX h3 fun t24 et24 h4 => s_callP S _ N15 rfl rfl (smithylaw13_cut.ok k x1 ch_0_0 ch_0_1 t24 et24 _ _) fun ch21 m le1 a w S => s_lenS S rfl underlying35 rfl fun a S => s_move S rfl rfl fun a S => c_end (wp_block ?_))
  replace S := S.rowfro .h
  obtain ⟨m, le1, S, hro⟩ := S
  replace S := S.slotro (u := 8) rfl hro
  replace S := S.slotro (u := 25) rfl hro
  refine c_loop (fun q2 a w => ∃ (m : Mem) (A9 : Option Addr) (cp20 : Nat) (y30 : List (Int × (List L30))) (y31 : Int) (A10 : Option Addr) (cp21 : Nat) (g148 : Nat) (g149 : Nat) (g150 : Nat) (A11 : Option Addr) (nn8 : Nat) (cp22 : Nat) (y32 : List (Int × (List ((List Int) × L30)))), St 183 m b0 [(8, (.q Y53 A9 cp20 y30)), (35, (.i y31)), (34, (.i ((t24).length : Int))), (33, (.q Y40 A10 cp21 t24)), (7, (.p g148)), (5, (.p g149)), (4, (.p g150))] [Res.cells g148 74 [.s A11 nn8 cp22], Res.row (Ty.prod yi Y69) 71 A11 nn8 cp22 y32, Res.cells g149 26 [.w4 x3], Res.cells g150 23 [.b20 x2]] a w ∧ smithylaw13_StorePlays.l2 k x2 x3 t24 q2 y30 y31 y32 = some r) ?_ ?_ (k := k) ⟨_, (ad g3), 1, [((-1), ([] : List L30))], 0, ch21.1, ch21.2, ch1.1, g2, g1, ch1.2.1, ch1.2.2.1, ch1.2.2.2, t1, (S.sb rfl (.c0 (.c0 (.c0 (.c0 .n))))), h4⟩
  ·rintro a w ⟨m, A9, cp20, y30, y31, A10, cp21, g148, g149, g150, A11, nn8, cp22, y32, S, h0⟩
   exact (nomatch (show (none : Option Bool) = some r from h0))
  ·clear S h4
   rintro q2 a w ⟨m, A9, cp20, y30, y31, A10, cp21, g148, g149, g150, A11, nn8, cp22, y32, S, h0⟩
   replace h0 : smithylaw13_StorePlays.b2 k x2 x3 t24 (smithylaw13_StorePlays.l2 k x2 x3 t24 q2) y30 y31 y32 = some r := h0
   delta smithylaw13_StorePlays.b2 at h0
   refine c_region (s_bin S rfl rfl rfl rfl fun a S => c_end (wp_seq ?_))
   rcases ite_of h0 with ⟨c18, h1⟩ | ⟨c18, h1⟩
   ·refine c_condT S rfl c18 (wp_skip (x_thenN (wp_seq (wp_block (c_region ?_)))))
    obtain ⟨c19, h2⟩ := chk_of h1; clear h1
    refine s_iaddrS S rfl rfl rfl underlying35 T40 c19.1 c19.2 rfl fun p4 a S => s_ldA S (fun (c : Unit × (Option Addr × Nat)) => [.i ((gt t24 y31).1), .q Y30 c.2.1 c.2.2 ((gt t24 y31).2)]) rfl T40 (fun _ => rfl) rfl fun ch22 a S => ?_
    refine s_alloc S Z40 rfl ⟨rfl, rfl, trivial⟩ rfl fun g151 a w S => s_store S rfl rfl rfl (s' := [.i ((gt t24 y31).1), .q Y30 ch22.2.1 ch22.2.2 ((gt t24 y31).2)]) .h T40 rfl rfl fun w S => c_end (c_region (s_move S rfl rfl fun a S => s_fieldAddr S rfl I40_0 T3 (by decide) rfl rfl fun a S => s_load1 S rfl .h T3 (v := (.int .i64 ((gt t24 y31).1))) rfl rfl fun a S => s_fieldAddr S rfl I40_1 T32 (by decide) rfl rfl fun a S => s_loadSl S rfl .h T32 (A := ch22.2.1) (len := ((gt t24 y31).2).length) (cap := ch22.2.2) rfl rfl fun a S => bindX h2 fun t29 et29 h3 => s_callX S (ds' := [(.p g148), (.i ((gt t24 y31).1)), (.q Y30 ch22.2.1 ch22.2.2 ((gt t24 y31).2))]) (ds := [(.p g148), (.i ((gt t24 y31).1)), (.q Y30 ch22.2.1 ch22.2.2 ((gt t24 y31).2))]) [Res.cells g148 74 [.s A11 nn8 cp22], Res.row (Ty.prod yi Y69) 71 A11 nn8 cp22 y32] [Res.cells g151 40 [.i ((gt t24 y31).1), .q Y30 ch22.2.1 ch22.2.2 ((gt t24 y31).2)], Res.cells g149 26 [.w4 x3], Res.cells g150 23 [.b20 x2]] (fun (ch : (Option Addr) × Nat × Nat) => ((.tup [(false, [.i t29.1]), (false, [.i t29.2.1])]) : D)) (fun (ch : (Option Addr) × Nat × Nat) => [Res.cells g148 74 [.s ch.1 ch.2.1 ch.2.2], Res.row (Ty.prod yi Y69) 71 ch.1 ch.2.1 ch.2.2 t29.2.2]) (fun (ch : (Option Addr) × Nat × Nat) => [Res.cells g148 74 [.s ch.1 ch.2.1 ch.2.2], Res.row (Ty.prod yi Y69) 71 ch.1 ch.2.1 ch.2.2 t29.2.2, Res.cells g151 40 [.i ((gt t24 y31).1), .q Y30 ch22.2.1 ch22.2.2 ((gt t24 y31).2)], Res.cells g149 26 [.w4 x3], Res.cells g150 23 [.b20 x2]]) (fun _ => rfl) N16 rfl rfl (fun ok => ok) (.c1 (.c1 (.c0 (.c0 (.c0 .n))))) rfl (store_Store_Commit.ok k (y32) ((gt t24 y31).1) ((gt t24 y31).2) g148 A11 nn8 cp22 ch22.2.1 ch22.2.2 t29 et29 _ _) fun ch23 m le1 a w S => s_move S rfl rfl fun a S => s_extract S rfl rfl rfl rfl fun a S => s_extract S rfl rfl rfl rfl fun a S => s_assign S rfl rfl fun a S => s_assign S rfl rfl fun a S => c_end (c_region (s_move S rfl rfl fun a S => s_fieldAddr S rfl I40_0 T3 (by decide) rfl rfl fun a S => s_load1 S rfl .h2 T3 (v := (.int .i64 ((gt t24 y31).1))) rfl rfl fun a S => s_fieldAddr S rfl I40_1 T32 (by decide) rfl rfl fun a S => s_loadSl S rfl .h2 T32 (A := ch22.2.1) (len := ((gt t24 y31).2).length) (cap := ch22.2.2) rfl rfl fun a S => bindX h3 fun t30 et30 h4 => s_callP S _ N22 rfl rfl (smithyref13_Commit.ok k y30 ((gt t24 y31).1) ((gt t24 y31).2) A9 cp20 ch22.2.1 ch22.2.2 t30 et30 _ _) fun ch24 m le1 a w S => s_move S rfl rfl fun a S => s_extract S rfl rfl rfl rfl fun a S => s_extract S rfl rfl rfl rfl fun a S => s_extract S rfl rfl rfl rfl fun a S => s_assign S rfl rfl fun a S => s_assign S rfl rfl fun a S => s_assign S rfl rfl fun a S => c_end (c_region (s_move S rfl rfl fun a S => s_assign S rfl rfl fun a S => c_end (wp_seq_k fun K8 hK8 => ?_)))))))
    have j8 : ∀ m y33 A12 cp23 g152 g153 g154 A13 nn9 cp24 a w, St 183 m b0 [(73, (.b y33)), (8, (.q Y53 A12 cp23 t30.2.2)), (35, (.i y31)), (34, (.i ((t24).length : Int))), (33, (.q Y40 A10 cp21 t24)), (7, (.p g152)), (5, (.p g153)), (4, (.p g154))] [Res.cells g152 74 [.s A13 nn9 cp24], Res.row (Ty.prod yi Y69) 71 A13 nn9 cp24 t29.2.2, Res.cells g153 26 [.w4 x3], Res.cells g154 23 [.b20 x2]] a w → smithylaw13_StorePlays.j8 y31 (smithylaw13_StorePlays.l2 k x2 x3 t24 q2) t29 t30 y33 = some r → K8 a w := by
     intro m y33 A12 cp23 g152 g153 g154 A13 nn9 cp24 a w S h0
     delta smithylaw13_StorePlays.j8 at h0
     refine hK8 a w ?_
     rcases ite_of h0 with ⟨c20, h1⟩ | ⟨c20, h1⟩
     ·refine c_condT S rfl c20 (c_region (s_assign S rfl rfl fun a S => c_end (wp_ret (x_blockR (x_thenR (x_thenR (x_blockR (x_thenR ?_))))))))
      obtain rfl := Option.some.inj h1
      exact b_ret1 (d := (.b false)) S rfl rfl (S.rt hb)
     ·refine c_condF S rfl c20 (wp_skip (x_blockN (x_thenN (c_region' (s_bin S rfl rfl rfl rfl fun a S => s_move S rfl rfl fun a S => c_end' (x_thenN ?_))))))
      exact ⟨_, A12, cp23, t30.2.2, (wr .i64 (y31 + 1)), A10, cp21, g152, g153, g154, A13, nn9, cp24, t29.2.2, (S.sb rfl (.c0 (.c0 (.c0 (.c0 .n))))), h1⟩
    refine c_region' (s_move S rfl rfl fun a S => s_move S rfl rfl fun a S => s_bin S rfl rfl rfl rfl fun a S => s_move S rfl rfl fun a S => ?_)
    rcases ite_of h4 with ⟨c21, h5⟩ | ⟨c21, h5⟩
    ·refine s_gF S (b := (t29.1 != t30.1)) rfl rfl c21 rfl fun a S => s_gF S (b := (t29.1 != t30.1)) rfl rfl c21 rfl fun a S => s_gF S (b := (t29.1 != t30.1)) rfl rfl c21 rfl fun a S => s_pick S (b := true) (hc_of rfl c21) rfl rfl fun a S => s_move S rfl rfl fun a S => s_gF S (b := true) rfl rfl rfl rfl fun a S => s_gF S (b := true) rfl rfl rfl rfl fun a S => s_gF S (b := true) rfl rfl rfl rfl fun a S => s_gF S (b := true) rfl rfl rfl rfl fun a S => s_gF S (b := true) rfl rfl rfl rfl fun a S => s_pick S (b := true) (hc_of rfl rfl) rfl rfl fun a S => c_end' (x_thenN ?_)
     exact j8 _ true ch24.1 ch24.2 g148 g149 g150 ch23.1 ch23.2.1 ch23.2.2 a w (S.sb rfl (.c0 (.c0 (.c1 (.c1 .n))))) h5
    ·refine s_gT S (b := (t29.1 != t30.1)) rfl rfl c21 (s_move S rfl rfl fun a S => s_gT S (b := (t29.1 != t30.1)) rfl rfl c21 (s_move S rfl rfl fun a S => s_gT S (b := (t29.1 != t30.1)) rfl rfl c21 (s_bin S rfl rfl rfl rfl fun a S => s_pick S (b := false) (hc_of rfl c21) rfl rfl fun a S => s_move S rfl rfl fun a S => ?_)))
     rcases ite_of h5 with ⟨c22, h6⟩ | ⟨c22, h6⟩
     ·refine s_gF S (b := (t29.2.1 != t30.2.1)) rfl rfl c22 rfl fun a S => s_gF S (b := (t29.2.1 != t30.2.1)) rfl rfl c22 rfl fun a S => s_gF S (b := (t29.2.1 != t30.2.1)) rfl rfl c22 rfl fun a S => s_gF S (b := (t29.2.1 != t30.2.1)) rfl rfl c22 rfl fun a S => s_gF S (b := (t29.2.1 != t30.2.1)) rfl rfl c22 rfl fun a S => s_pick S (b := true) (hc_of rfl c22) rfl rfl fun a S => c_end' (x_thenN ?_)
      exact j8 _ true ch24.1 ch24.2 g148 g149 g150 ch23.1 ch23.2.1 ch23.2.2 a w (S.sb rfl (.c0 (.c0 (.c1 (.c1 .n))))) h6
     ·refine s_gT S (b := (t29.2.1 != t30.2.1)) rfl rfl c22 (s_move S rfl rfl fun a S => s_gT S (b := (t29.2.1 != t30.2.1)) rfl rfl c22 (bindX h6 fun t32 et32 h7 => s_callX S (ds' := [(.p g148)]) (ds := [(.p g148)]) [Res.cells g148 74 [.s ch23.1 ch23.2.1 ch23.2.2], Res.row (Ty.prod yi Y69) 71 ch23.1 ch23.2.1 ch23.2.2 t29.2.2] [Res.cells g151 40 [.i ((gt t24 y31).1), .q Y30 ch22.2.1 ch22.2.2 ((gt t24 y31).2)], Res.cells g149 26 [.w4 x3], Res.cells g150 23 [.b20 x2]] (fun (ch : Unit) => ((.i t32) : D)) (fun (ch : Unit) => [Res.cells g148 74 [.s ch23.1 ch23.2.1 ch23.2.2], Res.row (Ty.prod yi Y69) 71 ch23.1 ch23.2.1 ch23.2.2 t29.2.2]) (fun (ch : Unit) => [Res.cells g148 74 [.s ch23.1 ch23.2.1 ch23.2.2], Res.row (Ty.prod yi Y69) 71 ch23.1 ch23.2.1 ch23.2.2 t29.2.2, Res.cells g151 40 [.i ((gt t24 y31).1), .q Y30 ch22.2.1 ch22.2.2 ((gt t24 y31).2)], Res.cells g149 26 [.w4 x3], Res.cells g150 23 [.b20 x2]]) (fun _ => rfl) N17 rfl rfl (fun ok => ok) (.c0 (.c0 (.c0 (.c0 (.c0 .n))))) rfl (store_Store_Len.ok (t29.2.2) g148 ch23.1 ch23.2.1 ch23.2.2 t32 et32 _ _) fun ch25 m le1 a w S => s_gT S (b := (t29.2.1 != t30.2.1)) rfl rfl c22 (s_move S rfl rfl fun a S => s_gT S (b := (t29.2.1 != t30.2.1)) rfl rfl c22 (s_lenS S rfl underlying54 rfl fun a S => s_gT S (b := (t29.2.1 != t30.2.1)) rfl rfl c22 (s_bin S rfl rfl rfl rfl fun a S => s_pick S (b := false) (hc_of rfl c22) rfl rfl fun a S => c_end' (x_thenN ?_))))))
      exact j8 _ (t32 != ((t30.2.2).length : Int)) ch24.1 ch24.2 g148 g149 g150 ch23.1 ch23.2.1 ch23.2.2 a w (S.sb rfl (.c0 (.c0 (.c1 (.c1 .n))))) h7
   ·refine c_condF S rfl c18 (wp_exit (x_thenX (x_thenX (x_blockX (x_thenN ?_)))))
    exact j1 _ A9 cp20 y30 g148 g149 g150 A11 nn8 cp22 y32 a w (S.sb rfl (.c0 (.c0 (.c0 (.c0 .n))))) h1
end
end GW
