import Derived.Test.YtjgdpkmbnooemaaDoorProg
import Derived.Test.YtjgdpkmbnooemaaDoorGD
set_option linter.unusedVariables false
set_option linter.unusedSimpArgs false
set_option maxRecDepth 10000
set_option maxHeartbeats 4000000
namespace GW
open Go Go.RowKit Go.Proofs Go.Proofs.Tryd
noncomputable section
abbrev fc9_.Ty : Type := ST32 → L38 → Int → Option Int
def fc9_.Ctr (s : fc9_.Ty) : Prop := ∀ (x1 : ST32) (x2 : L38) (x3 : Int) (ch_0_0 : Unit × Unit × (Option Addr × Nat)) (ch_1_0 : Option Addr) (ch_1_1 : Nat) (r : Int), Ct (C := Unit) Tryd.prog 32 (s x1 x2 x3 = some r) [] [(.agg [.i ((ST32.un x1).1), .i ((ST32.un x1).2.1), .sl ch_0_0.2.2.1 ((ST32.un x1).2.2).length ch_0_0.2.2.2 (SR32 ch_0_0.2.2.1 ((ST32.un x1).2.2))]), (.q Y56 ch_1_0 ch_1_1 x2), (.i x3)] (fun _ => (.i r)) fun _ => []
def fc9_.j1 (x3 : Int) (y1 : Bool) : Option Int := if y1 = true then (some (-1)) else (some (wr .i64 (x3 + 1)))
def fc9_.j3 (y10 : Int) : Option Int := some y10
def fc9_.j4 (self0 : fc9_.Ty) (x1 : ST32) (x2 : L38) (y15 : Int) (y16 : Int) (rec1 : Int → Int → Option Int) (y17 : Bool) : Option Int := if y17 = true then ((fd5_.f x1 y15).bind fun t1 => ((self0 t1 x2 y16).bind fun t2 => (rec1 (wr .i64 (y15 + 1)) t2))) else (fc9_.j3 y16)
def fc9_.b1 (self0 : fc9_.Ty) (x1 : ST32) (x2 : L38) (x3 : Int) (rec1 : Int → Int → Option Int) (y15 : Int) (y16 : Int) : Option Int := if (decide (y15 < ((gt x2 x3).2.2))) = true then (fc9_.j4 self0 x1 x2 y15 y16 rec1 (decide (0 ≤ y16))) else (fc9_.j4 self0 x1 x2 y15 y16 rec1 false)
def fc9_.l1 (self0 : fc9_.Ty) (x1 : ST32) (x2 : L38) (x3 : Int) : Nat → Int → Int → Option Int
  | 0, _, _ => none
  | q + 1, y15, y16 => fc9_.b1 self0 x1 x2 x3 (fc9_.l1 self0 x1 x2 x3 q) y15 y16
def fc9_.j2 (k : Nat) (self0 : fc9_.Ty) (x1 : ST32) (x2 : L38) (x3 : Int) (y2 : Bool) : Option Int := if y2 = true then (some (-1)) else (fc9_.l1 self0 x1 x2 x3 k 0 (wr .i64 (x3 + 1)))
def fc9_.body (self0 : fc9_.Ty) (k : Nat) (x1 : ST32) (x2 : L38) (x3 : Int) : Option Int := if (decide (((x2).length : Int) ≤ x3)) = true then (some (-1)) else (if (0 : Int) ≤ x3 ∧ x3 < ((x2).length : Int) then (if (decide (((ST32.un x1).1) < 3)) = true then (if (((gt x2 x3).2.2) != 0) = true then (fc9_.j1 x3 true) else (fc9_.j1 x3 ((((gt x2 x3).2.1).length : Int) != 0))) else (if (!(decide ((gt x2 x3).1 = [0, 0, 0, 0]))) = true then (some (-1)) else (if (((ST32.un x1).1) == 3) = true then (if (((gt x2 x3).2.2) != 0) = true then (some (-1)) else (some (wr .i64 (x3 + 1)))) else (if ((((gt x2 x3).2.1).length : Int) != 0) = true then (fc9_.j2 k self0 x1 x2 x3 true) else (if (decide (((gt x2 x3).2.2) < 0)) = true then (fc9_.j2 k self0 x1 x2 x3 true) else (if (decide (((x2).length : Int) ≤ ((gt x2 x3).2.2))) = true then (fc9_.j2 k self0 x1 x2 x3 true) else (if (((ST32.un x1).1) == 5) = true then (if (((gt x2 x3).2.2) != ((ST32.un x1).2.1)) = true then (fc9_.j2 k self0 x1 x2 x3 true) else (if (((ST32.un x1).1) == 6) = true then (fc9_.j2 k self0 x1 x2 x3 (((gt x2 x3).2.2) != (((ST32.un x1).2.2).length : Int))) else (fc9_.j2 k self0 x1 x2 x3 false))) else (if (((ST32.un x1).1) == 6) = true then (fc9_.j2 k self0 x1 x2 x3 (((gt x2 x3).2.2) != (((ST32.un x1).2.2).length : Int))) else (fc9_.j2 k self0 x1 x2 x3 false))))))))) else none)
theorem fc9_.okb (self0 : fc9_.Ty) (c_0 : fc9_.Ctr self0) (k : Nat) : fc9_.Ctr (fc9_.body self0 k) := by
 intro x1 x2 x3 ch_0_0 ch_1_0 ch_1_1 r h0 mi w0 ok hm
 delta fc9_.body at h0
 refine c_enterZ (n := 104) ok hm func32 rfl rfl rfl fun b0 hb a S => c_region (s_box S rfl rfl rfl fun g1 a w S => s_assign S rfl rfl fun a S => c_end (wp_seq (c_region (s_move S rfl rfl fun a S => s_move S rfl rfl fun a S => s_lenS S rfl underlying38 rfl fun a S => s_bin S rfl rfl rfl rfl fun a S => c_end ?_))))
 rcases ite_of h0 with ⟨c1, h1⟩ | ⟨c1, h1⟩
 ·refine c_condT S rfl c1 (c_region (s_assign S rfl rfl fun a S => c_end (wp_ret (x_thenR ?_))))
  obtain rfl := Option.some.inj h1
  exact b_ret1 (d := (.i (-1))) S rfl rfl (S.rt hb)
 ·refine c_condF S rfl c1 (wp_skip (x_thenN (c_region (s_move S rfl rfl fun a S => s_move S rfl rfl fun a S => ?_))))
  obtain ⟨c2, h2⟩ := chk_of h1; clear h1
  refine s_iaddrS S rfl rfl rfl underlying38 T56 c2.1 c2.2 rfl fun p1 a S => s_ldA S (fun (c : Unit × (Option Addr × Nat) × Unit) => (Y56.segs (gt x2 x3) c)) rfl T56 (fun _ => rfl) rfl fun ch1 a S => ?_
  refine s_alloc S Z56 rfl ⟨rfl, rfl, rfl, trivial⟩ rfl fun g2 a w S => s_store S rfl rfl rfl (s' := [.w4 ((gt x2 x3).1), .q yb ch1.2.1.1 ch1.2.1.2 ((gt x2 x3).2.1), .i ((gt x2 x3).2.2)]) .h T56 rfl rfl fun w S => c_end (wp_seq (c_region (s_fieldAddr S rfl I32_0 T3 (by decide) rfl rfl fun a S => s_load1 S rfl .h1 T3 (v := (.int .i64 ((ST32.un x1).1))) rfl rfl fun a S => s_bin S rfl rfl rfl rfl fun a S => c_end ?_)))
  rcases ite_of h2 with ⟨c3, h3⟩ | ⟨c3, h3⟩
  ·refine c_condT S rfl c3 (wp_seq (wp_seq_k fun K1 hK1 => ?_))
   have j1 : ∀ m y1 a w, St 104 m b0 [(29, (.b y1)), (2, (.i x3))] [] a w → fc9_.j1 x3 y1 = some r → K1 a w := by
    intro m y1 a w S h0
    delta fc9_.j1 at h0
    refine hK1 a w ?_
    rcases ite_of h0 with ⟨c4, h1⟩ | ⟨c4, h1⟩
    ·refine c_condT S rfl c4 (c_region (s_assign S rfl rfl fun a S => c_end (wp_ret (x_thenR (x_thenR ?_)))))
     obtain rfl := Option.some.inj h1
     exact b_ret1 (d := (.i (-1))) S rfl rfl (S.rt hb)
    ·refine c_condF S rfl c4 (wp_skip (x_thenN (c_region (s_move S rfl rfl fun a S => s_bin S rfl rfl rfl rfl fun a S => s_assign S rfl rfl fun a S => c_end (wp_ret (x_thenR ?_))))))
     obtain rfl := Option.some.inj h1
     exact b_ret1 (d := (.i (wr .i64 (x3 + 1)))) S rfl rfl (S.rt hb)
   refine c_region' (s_fieldAddr S rfl I56_2 T3 (by decide) rfl rfl fun a S => s_load1 S rfl .h T3 (v := (.int .i64 ((gt x2 x3).2.2))) rfl rfl fun a S => s_bin S rfl rfl rfl rfl fun a S => s_move S rfl rfl fun a S => ?_)
   rcases ite_of h3 with ⟨c5, h4⟩ | ⟨c5, h4⟩
   ·refine s_gF S (b := (((gt x2 x3).2.2) != 0)) rfl rfl c5 rfl fun a S => s_gF S (b := (((gt x2 x3).2.2) != 0)) rfl rfl c5 rfl fun a S => s_gF S (b := (((gt x2 x3).2.2) != 0)) rfl rfl c5 rfl fun a S => s_gF S (b := (((gt x2 x3).2.2) != 0)) rfl rfl c5 rfl fun a S => s_pick S (b := true) (hc_of rfl c5) rfl rfl fun a S => c_end' (x_thenN ?_)
    exact j1 _ true a w (S.sb rfl .nil) h4
   ·refine s_gT S (b := (((gt x2 x3).2.2) != 0)) rfl rfl c5 (s_fieldAddr S rfl I56_1 T26 (by decide) rfl rfl fun a S => s_gT S (b := (((gt x2 x3).2.2) != 0)) rfl rfl c5 (s_loadSl S rfl .h T26 (A := ch1.2.1.1) (len := ((gt x2 x3).2.1).length) (cap := ch1.2.1.2) rfl rfl fun a S => s_gT S (b := (((gt x2 x3).2.2) != 0)) rfl rfl c5 (s_lenS S rfl underlying26 rfl fun a S => s_gT S (b := (((gt x2 x3).2.2) != 0)) rfl rfl c5 (s_bin S rfl rfl rfl rfl fun a S => s_pick S (b := false) (hc_of rfl c5) rfl rfl fun a S => c_end' (x_thenN ?_)))))
    exact j1 _ ((((gt x2 x3).2.1).length : Int) != 0) a w (S.sb rfl .nil) h4
  ·refine c_condF S rfl c3 (wp_skip (x_thenN (wp_seq (c_region (s_fieldAddr S rfl I56_0 T54 (by decide) rfl rfl fun a S => s_loada S rfl .h T54 (s' := [.w4 ((gt x2 x3).1)]) rfl rfl fun a S => s_build S (ds := []) (dv := (.a4 [0, 0, 0, 0])) rfl (fun _ => by kernel_rfl) ⟨rfl, trivial⟩ rfl fun a S => s_nea S rfl rfl underlying54 underlying52 T52 Q54 rfl fun a S => c_end ?_)))))
   rcases ite_of h3 with ⟨c6, h4⟩ | ⟨c6, h4⟩
   ·refine c_condT S rfl c6 (c_region (s_assign S rfl rfl fun a S => c_end (wp_ret (x_thenR ?_))))
    obtain rfl := Option.some.inj h4
    exact b_ret1 (d := (.i (-1))) S rfl rfl (S.rt hb)
   ·refine c_condF S rfl c6 (wp_skip (x_thenN (wp_seq (c_region (s_fieldAddr S rfl I32_0 T3 (by decide) rfl rfl fun a S => s_load1 S rfl .h1 T3 (v := (.int .i64 ((ST32.un x1).1))) rfl rfl fun a S => s_bin S rfl rfl rfl rfl fun a S => c_end ?_)))))
    rcases ite_of h4 with ⟨c7, h5⟩ | ⟨c7, h5⟩
    ·refine c_condT S rfl c7 (wp_seq (c_region (s_fieldAddr S rfl I56_2 T3 (by decide) rfl rfl fun a S => s_load1 S rfl .h T3 (v := (.int .i64 ((gt x2 x3).2.2))) rfl rfl fun a S => s_bin S rfl rfl rfl rfl fun a S => c_end ?_)))
     rcases ite_of h5 with ⟨c8, h6⟩ | ⟨c8, h6⟩
     ·refine c_condT S rfl c8 (c_region (s_assign S rfl rfl fun a S => c_end (wp_ret (x_thenR (x_thenR ?_)))))
      obtain rfl := Option.some.inj h6
      exact b_ret1 (d := (.i (-1))) S rfl rfl (S.rt hb)
     ·refine c_condF S rfl c8 (wp_skip (x_thenN (c_region (s_move S rfl rfl fun a S => s_bin S rfl rfl rfl rfl fun a S => s_assign S rfl rfl fun a S => c_end (wp_ret (x_thenR ?_))))))
      obtain rfl := Option.some.inj h6
      exact b_ret1 (d := (.i (wr .i64 (x3 + 1)))) S rfl rfl (S.rt hb)
    ·refine c_condF S rfl c7 (wp_skip (x_thenN (wp_seq (wp_seq_k fun K2 hK2 => ?_))))
     have j2 : ∀ m y2 g3 g4 A1 cp1 a w, St 104 m b0 [(84, (.b y2)), (7, (.p g3)), (3, (.p g4)), (1, (.q Y56 ch_1_0 ch_1_1 x2)), (2, (.i x3))] [Res.cells g3 56 (Y56.segs (gt x2 x3) ((), (A1, cp1), ())), Res.cells g4 32 [.i ((ST32.un x1).1), .i ((ST32.un x1).2.1), .sl ch_0_0.2.2.1 ((ST32.un x1).2.2).length ch_0_0.2.2.2 (SR32 ch_0_0.2.2.1 ((ST32.un x1).2.2))]] a w → fc9_.j2 k self0 x1 x2 x3 y2 = some r → K2 a w := by
      intro m y2 g3 g4 A1 cp1 a w S h0
      delta fc9_.j2 at h0
      refine hK2 a w ?_
      rcases ite_of h0 with ⟨c9, h1⟩ | ⟨c9, h1⟩
      ·refine c_condT S rfl c9 (c_region (s_assign S rfl rfl fun a S => c_end (wp_ret (x_thenR ?_))))
       obtain rfl := Option.some.inj h1
       exact b_ret1 (d := (.i (-1))) S rfl rfl (S.rt hb)
      ·refine c_condF S rfl c9 (wp_skip (x_thenN (c_region (s_move S rfl rfl fun a S => s_bin S rfl rfl rfl rfl fun a S => s_assign S rfl rfl fun a S => c_end (wp_seq_k fun K3 hK3 => ?_)))))
       have j3 : ∀ m y10 a w, St 104 m b0 [(8, (.i y10))] [] a w → fc9_.j3 y10 = some r → K3 a w := by
        intro m y10 a w S h0
        delta fc9_.j3 at h0
        refine hK3 a w (c_region (s_move S rfl rfl fun a S => s_assign S rfl rfl fun a S => c_end (wp_ret ?_)))
        obtain rfl := Option.some.inj h0
        exact b_ret1 (d := (.i y10)) S rfl rfl (S.rt hb)
       refine c_region (s_assign S rfl rfl fun a S => c_end (wp_block ?_))
       refine c_loop (fun q1 a w => ∃ m y15 y16 g25 g26, St 104 m b0 [(9, (.i y15)), (8, (.i y16)), (7, (.p g25)), (3, (.p g26)), (1, (.q Y56 ch_1_0 ch_1_1 x2))] [Res.cells g25 56 (Y56.segs (gt x2 x3) ((), (A1, cp1), ())), Res.cells g26 32 [.i ((ST32.un x1).1), .i ((ST32.un x1).2.1), .sl ch_0_0.2.2.1 ((ST32.un x1).2.2).length ch_0_0.2.2.2 (SR32 ch_0_0.2.2.1 ((ST32.un x1).2.2))]] a w ∧ fc9_.l1 self0 x1 x2 x3 q1 y15 y16 = some r) ?_ ?_ (k := k) ⟨_, 0, (wr .i64 (x3 + 1)), g3, g4, (S.sb rfl (.c0 (.c0 .n))), h1⟩
       ·rintro a w ⟨m, y15, y16, g25, g26, S, h0⟩
        exact (nomatch (show (none : Option Int) = some r from h0))
       ·clear S h1
        rintro q1 a w ⟨m, y15, y16, g25, g26, S, h0⟩
        replace h0 : fc9_.b1 self0 x1 x2 x3 (fc9_.l1 self0 x1 x2 x3 q1) y15 y16 = some r := h0
        delta fc9_.b1 at h0
        refine wp_seq (wp_seq_k fun K4 hK4 => ?_)
        have j4 : ∀ m y17 g27 g28 a w, St 104 m b0 [(94, (.b y17)), (9, (.i y15)), (8, (.i y16)), (7, (.p g27)), (3, (.p g28)), (1, (.q Y56 ch_1_0 ch_1_1 x2))] [Res.cells g27 56 (Y56.segs (gt x2 x3) ((), (A1, cp1), ())), Res.cells g28 32 [.i ((ST32.un x1).1), .i ((ST32.un x1).2.1), .sl ch_0_0.2.2.1 ((ST32.un x1).2.2).length ch_0_0.2.2.2 (SR32 ch_0_0.2.2.1 ((ST32.un x1).2.2))]] a w → fc9_.j4 self0 x1 x2 y15 y16 (fc9_.l1 self0 x1 x2 x3 q1) y17 = some r → K4 a w := by
         intro m y17 g27 g28 a w S h0
         delta fc9_.j4 at h0
         refine hK4 a w ?_
         rcases ite_of h0 with ⟨c10, h1⟩ | ⟨c10, h1⟩
         ·refine c_condT S rfl c10 (wp_skip (x_thenN (wp_seq (wp_block (c_region' (s_loada S rfl .h1 T32 (s' := [.i ((ST32.un x1).1), .i ((ST32.un x1).2.1), .sl ch_0_0.2.2.1 ((ST32.un x1).2.2).length ch_0_0.2.2.2 (SR32 ch_0_0.2.2.1 ((ST32.un x1).2.2))]) rfl rfl fun a S => s_move S rfl rfl fun a S => bindX h1 fun t1 et1 h2 => s_callP S _ N52 rfl rfl (fd5_.ok x1 y15 ((), (), (ch_0_0.2.2.1, ch_0_0.2.2.2)) t1 et1 _ _) fun ch4 m le1 a w S => s_move S rfl rfl fun a S => s_move S rfl rfl fun a S => bindX h2 fun t2 et2 h3 => s_callP S _ N32 rfl rfl (c_0 t1 x2 y16 ((), (), (ch4.2.2.1, ch4.2.2.2)) ch_1_0 ch_1_1 t2 et2 _ _) fun ch5 m le1 a w S => s_assign S rfl rfl fun a S => c_end' (x_blockN (x_thenN (c_region' (s_move S rfl rfl fun a S => s_bin S rfl rfl rfl rfl fun a S => s_assign S rfl rfl fun a S => c_end' (x_thenN ?_)))))))))))
          exact ⟨_, (wr .i64 (y15 + 1)), t2, g27, g28, (S.sb rfl (.c0 (.c0 .n))), h3⟩
         ·refine c_condF S rfl c10 (wp_exit (x_thenX (x_thenX (x_blockX (x_thenN ?_)))))
          exact j3 _ y16 a w (S.sub ⟨rfl, trivial⟩ .nil) h1
        refine c_region' (s_move S rfl rfl fun a S => s_fieldAddr S rfl I56_2 T3 (by decide) rfl rfl fun a S => s_load1 S rfl .h T3 (v := (.int .i64 ((gt x2 x3).2.2))) rfl rfl fun a S => s_bin S rfl rfl rfl rfl fun a S => s_move S rfl rfl fun a S => ?_)
        rcases ite_of h0 with ⟨c11, h1⟩ | ⟨c11, h1⟩
        ·refine s_gT S (b := (decide (y15 < ((gt x2 x3).2.2)))) rfl rfl c11 (s_move S rfl rfl fun a S => s_gT S (b := (decide (y15 < ((gt x2 x3).2.2)))) rfl rfl c11 (s_bin S rfl rfl rfl rfl fun a S => s_pick S (b := true) (hc_of rfl c11) rfl rfl fun a S => c_end' (x_thenN ?_)))
         exact j4 _ (decide (0 ≤ y16)) g25 g26 a w (S.sb rfl (.c0 (.c0 .n))) h1
        ·refine s_gF S (b := (decide (y15 < ((gt x2 x3).2.2)))) rfl rfl c11 rfl fun a S => s_gF S (b := (decide (y15 < ((gt x2 x3).2.2)))) rfl rfl c11 rfl fun a S => s_pick S (b := false) (hc_of rfl c11) rfl rfl fun a S => c_end' (x_thenN ?_)
         exact j4 _ false g25 g26 a w (S.sb rfl (.c0 (.c0 .n))) h1
     refine c_region' (s_fieldAddr S rfl I56_1 T26 (by decide) rfl rfl fun a S => s_loadSl S rfl .h T26 (A := ch1.2.1.1) (len := ((gt x2 x3).2.1).length) (cap := ch1.2.1.2) rfl rfl fun a S => s_lenS S rfl underlying26 rfl fun a S => s_bin S rfl rfl rfl rfl fun a S => s_move S rfl rfl fun a S => ?_)
     rcases ite_of h5 with ⟨c12, h6⟩ | ⟨c12, h6⟩
     ·refine s_gF S (b := ((((gt x2 x3).2.1).length : Int) != 0)) rfl rfl c12 rfl fun a S => s_gF S (b := ((((gt x2 x3).2.1).length : Int) != 0)) rfl rfl c12 rfl fun a S => s_gF S (b := ((((gt x2 x3).2.1).length : Int) != 0)) rfl rfl c12 rfl fun a S => s_pick S (b := true) (hc_of rfl c12) rfl rfl fun a S => s_move S rfl rfl fun a S => s_gF S (b := true) rfl rfl rfl rfl fun a S => s_gF S (b := true) rfl rfl rfl rfl fun a S => s_gF S (b := true) rfl rfl rfl rfl fun a S => s_gF S (b := true) rfl rfl rfl rfl fun a S => s_gF S (b := true) rfl rfl rfl rfl fun a S => s_pick S (b := true) (hc_of rfl rfl) rfl rfl fun a S => s_move S rfl rfl fun a S => s_gF S (b := true) rfl rfl rfl rfl fun a S => s_gF S (b := true) rfl rfl rfl rfl fun a S => s_gF S (b := true) rfl rfl rfl rfl fun a S => s_gF S (b := true) rfl rfl rfl rfl fun a S => s_gU S rfl rfl rfl fun a S => s_gU S rfl rfl rfl fun a S => s_gU S rfl rfl rfl fun a S => s_gU S rfl rfl rfl fun a S => s_gU S rfl rfl rfl fun a S => s_gF S (b := true) rfl rfl rfl rfl fun a S => s_pick S (b := true) (hc_of rfl rfl) rfl rfl fun a S => s_move S rfl rfl fun a S => s_gF S (b := true) rfl rfl rfl rfl fun a S => s_gF S (b := true) rfl rfl rfl rfl fun a S => s_gF S (b := true) rfl rfl rfl rfl fun a S => s_gF S (b := true) rfl rfl rfl rfl fun a S => s_gU S rfl rfl rfl fun a S => s_gU S rfl rfl rfl fun a S => s_gU S rfl rfl rfl fun a S => s_gU S rfl rfl rfl fun a S => s_gU S rfl rfl rfl fun a S => s_gU S rfl rfl rfl fun a S => s_gF S (b := true) rfl rfl rfl rfl fun a S => s_pick S (b := true) (hc_of rfl rfl) rfl rfl fun a S => c_end' (x_thenN ?_)
      exact j2 _ true g2 g1 ch1.2.1.1 ch1.2.1.2 a w (S.sb rfl (.c0 (.c0 .n))) h6
     ·refine s_gT S (b := ((((gt x2 x3).2.1).length : Int) != 0)) rfl rfl c12 (s_fieldAddr S rfl I56_2 T3 (by decide) rfl rfl fun a S => s_gT S (b := ((((gt x2 x3).2.1).length : Int) != 0)) rfl rfl c12 (s_load1 S rfl .h T3 (v := (.int .i64 ((gt x2 x3).2.2))) rfl rfl fun a S => s_gT S (b := ((((gt x2 x3).2.1).length : Int) != 0)) rfl rfl c12 (s_bin S rfl rfl rfl rfl fun a S => s_pick S (b := false) (hc_of rfl c12) rfl rfl fun a S => s_move S rfl rfl fun a S => ?_)))
      rcases ite_of h6 with ⟨c13, h7⟩ | ⟨c13, h7⟩
      ·refine s_gF S (b := (decide (((gt x2 x3).2.2) < 0))) rfl rfl c13 rfl fun a S => s_gF S (b := (decide (((gt x2 x3).2.2) < 0))) rfl rfl c13 rfl fun a S => s_gF S (b := (decide (((gt x2 x3).2.2) < 0))) rfl rfl c13 rfl fun a S => s_gF S (b := (decide (((gt x2 x3).2.2) < 0))) rfl rfl c13 rfl fun a S => s_gF S (b := (decide (((gt x2 x3).2.2) < 0))) rfl rfl c13 rfl fun a S => s_pick S (b := true) (hc_of rfl c13) rfl rfl fun a S => s_move S rfl rfl fun a S => s_gF S (b := true) rfl rfl rfl rfl fun a S => s_gF S (b := true) rfl rfl rfl rfl fun a S => s_gF S (b := true) rfl rfl rfl rfl fun a S => s_gF S (b := true) rfl rfl rfl rfl fun a S => s_gU S rfl rfl rfl fun a S => s_gU S rfl rfl rfl fun a S => s_gU S rfl rfl rfl fun a S => s_gU S rfl rfl rfl fun a S => s_gU S rfl rfl rfl fun a S => s_gF S (b := true) rfl rfl rfl rfl fun a S => s_pick S (b := true) (hc_of rfl rfl) rfl rfl fun a S => s_move S rfl rfl fun a S => s_gF S (b := true) rfl rfl rfl rfl fun a S => s_gF S (b := true) rfl rfl rfl rfl fun a S => s_gF S (b := true) rfl rfl rfl rfl fun a S => s_gF S (b := true) rfl rfl rfl rfl fun a S => s_gU S rfl rfl rfl fun a S => s_gU S rfl rfl rfl fun a S => s_gU S rfl rfl rfl fun a S => s_gU S rfl rfl rfl fun a S => s_gU S rfl rfl rfl fun a S => s_gU S rfl rfl rfl fun a S => s_gF S (b := true) rfl rfl rfl rfl fun a S => s_pick S (b := true) (hc_of rfl rfl) rfl rfl fun a S => c_end' (x_thenN ?_)
       exact j2 _ true g2 g1 ch1.2.1.1 ch1.2.1.2 a w (S.sb rfl (.c0 (.c0 .n))) h7
      ·refine s_gT S (b := (decide (((gt x2 x3).2.2) < 0))) rfl rfl c13 (s_fieldAddr S rfl I56_2 T3 (by decide) rfl rfl fun a S => s_gT S (b := (decide (((gt x2 x3).2.2) < 0))) rfl rfl c13 (s_load1 S rfl .h T3 (v := (.int .i64 ((gt x2 x3).2.2))) rfl rfl fun a S => s_gT S (b := (decide (((gt x2 x3).2.2) < 0))) rfl rfl c13 (s_move S rfl rfl fun a S => s_gT S (b := (decide (((gt x2 x3).2.2) < 0))) rfl rfl c13 (s_lenS S rfl underlying38 rfl fun a S => s_gT S (b := (decide (((gt x2 x3).2.2) < 0))) rfl rfl c13 (s_bin S rfl rfl rfl rfl fun a S => s_pick S (b := false) (hc_of rfl c13) rfl rfl fun a S => s_move S rfl rfl fun a S => ?_)))))
       rcases ite_of h7 with ⟨c14, h8⟩ | ⟨c14, h8⟩
       ·refine s_gF S (b := (decide (((x2).length : Int) ≤ ((gt x2 x3).2.2)))) rfl rfl c14 rfl fun a S => s_gF S (b := (decide (((x2).length : Int) ≤ ((gt x2 x3).2.2)))) rfl rfl c14 rfl fun a S => s_gF S (b := (decide (((x2).length : Int) ≤ ((gt x2 x3).2.2)))) rfl rfl c14 rfl fun a S => s_gF S (b := (decide (((x2).length : Int) ≤ ((gt x2 x3).2.2)))) rfl rfl c14 rfl fun a S => s_gU S rfl rfl rfl fun a S => s_gU S rfl rfl rfl fun a S => s_gU S rfl rfl rfl fun a S => s_gU S rfl rfl rfl fun a S => s_gU S rfl rfl rfl fun a S => s_gF S (b := (decide (((x2).length : Int) ≤ ((gt x2 x3).2.2)))) rfl rfl c14 rfl fun a S => s_pick S (b := true) (hc_of rfl c14) rfl rfl fun a S => s_move S rfl rfl fun a S => s_gF S (b := true) rfl rfl rfl rfl fun a S => s_gF S (b := true) rfl rfl rfl rfl fun a S => s_gF S (b := true) rfl rfl rfl rfl fun a S => s_gF S (b := true) rfl rfl rfl rfl fun a S => s_gU S rfl rfl rfl fun a S => s_gU S rfl rfl rfl fun a S => s_gU S rfl rfl rfl fun a S => s_gU S rfl rfl rfl fun a S => s_gU S rfl rfl rfl fun a S => s_gU S rfl rfl rfl fun a S => s_gF S (b := true) rfl rfl rfl rfl fun a S => s_pick S (b := true) (hc_of rfl rfl) rfl rfl fun a S => c_end' (x_thenN ?_)
        exact j2 _ true g2 g1 ch1.2.1.1 ch1.2.1.2 a w (S.sb rfl (.c0 (.c0 .n))) h8
       ·refine s_gT S (b := (decide (((x2).length : Int) ≤ ((gt x2 x3).2.2)))) rfl rfl c14 (s_fieldAddr S rfl I32_0 T3 (by decide) rfl rfl fun a S => s_gT S (b := (decide (((x2).length : Int) ≤ ((gt x2 x3).2.2)))) rfl rfl c14 (s_load1 S rfl .h1 T3 (v := (.int .i64 ((ST32.un x1).1))) rfl rfl fun a S => s_gT S (b := (decide (((x2).length : Int) ≤ ((gt x2 x3).2.2)))) rfl rfl c14 (s_bin S rfl rfl rfl rfl fun a S => s_gT S (b := (decide (((x2).length : Int) ≤ ((gt x2 x3).2.2)))) rfl rfl c14 (s_move S rfl rfl fun a S => ?_))))
        rcases ite_of h8 with ⟨c15, h9⟩ | ⟨c15, h9⟩
        ·refine s_gT S (b := (((ST32.un x1).1) == 5)) rfl rfl c15 (s_fieldAddr S rfl I56_2 T3 (by decide) rfl rfl fun a S => s_gT S (b := (((ST32.un x1).1) == 5)) rfl rfl c15 (s_load1 S rfl .h T3 (v := (.int .i64 ((gt x2 x3).2.2))) rfl rfl fun a S => s_gT S (b := (((ST32.un x1).1) == 5)) rfl rfl c15 (s_fieldAddr S rfl I32_1 T3 (by decide) rfl rfl fun a S => s_gT S (b := (((ST32.un x1).1) == 5)) rfl rfl c15 (s_load1 S rfl .h1 T3 (v := (.int .i64 ((ST32.un x1).2.1))) rfl rfl fun a S => s_gT S (b := (((ST32.un x1).1) == 5)) rfl rfl c15 (s_bin S rfl rfl rfl rfl fun a S => s_gT S (b := (decide (((x2).length : Int) ≤ ((gt x2 x3).2.2)))) rfl rfl c14 (s_pick S (b := true) (hc_of rfl c15) rfl rfl fun a S => s_pick S (b := false) (hc_of rfl c14) rfl rfl fun a S => s_move S rfl rfl fun a S => ?_))))))
         rcases ite_of h9 with ⟨c16, h10⟩ | ⟨c16, h10⟩
         ·refine s_gF S (b := (((gt x2 x3).2.2) != ((ST32.un x1).2.1))) rfl rfl c16 rfl fun a S => s_gF S (b := (((gt x2 x3).2.2) != ((ST32.un x1).2.1))) rfl rfl c16 rfl fun a S => s_gF S (b := (((gt x2 x3).2.2) != ((ST32.un x1).2.1))) rfl rfl c16 rfl fun a S => s_gF S (b := (((gt x2 x3).2.2) != ((ST32.un x1).2.1))) rfl rfl c16 rfl fun a S => s_gU S rfl rfl rfl fun a S => s_gU S rfl rfl rfl fun a S => s_gU S rfl rfl rfl fun a S => s_gU S rfl rfl rfl fun a S => s_gU S rfl rfl rfl fun a S => s_gU S rfl rfl rfl fun a S => s_gF S (b := (((gt x2 x3).2.2) != ((ST32.un x1).2.1))) rfl rfl c16 rfl fun a S => s_pick S (b := true) (hc_of rfl c16) rfl rfl fun a S => c_end' (x_thenN ?_)
          exact j2 _ true g2 g1 ch1.2.1.1 ch1.2.1.2 a w (S.sb rfl (.c0 (.c0 .n))) h10
         ·refine s_gT S (b := (((gt x2 x3).2.2) != ((ST32.un x1).2.1))) rfl rfl c16 (s_fieldAddr S rfl I32_0 T3 (by decide) rfl rfl fun a S => s_gT S (b := (((gt x2 x3).2.2) != ((ST32.un x1).2.1))) rfl rfl c16 (s_load1 S rfl .h1 T3 (v := (.int .i64 ((ST32.un x1).1))) rfl rfl fun a S => s_gT S (b := (((gt x2 x3).2.2) != ((ST32.un x1).2.1))) rfl rfl c16 (s_bin S rfl rfl rfl rfl fun a S => s_gT S (b := (((gt x2 x3).2.2) != ((ST32.un x1).2.1))) rfl rfl c16 (s_move S rfl rfl fun a S => ?_))))
          rcases ite_of h10 with ⟨c17, h11⟩ | ⟨c17, h11⟩
          ·refine s_gT S (b := (((ST32.un x1).1) == 6)) rfl rfl c17 (s_fieldAddr S rfl I56_2 T3 (by decide) rfl rfl fun a S => s_gT S (b := (((ST32.un x1).1) == 6)) rfl rfl c17 (s_load1 S rfl .h T3 (v := (.int .i64 ((gt x2 x3).2.2))) rfl rfl fun a S => s_gT S (b := (((ST32.un x1).1) == 6)) rfl rfl c17 (s_fieldAddr S rfl I32_2 T30 (by decide) rfl rfl fun a S => s_gT S (b := (((ST32.un x1).1) == 6)) rfl rfl c17 (s_loadSl S rfl .h1 T30 (A := ch_0_0.2.2.1) (len := ((ST32.un x1).2.2).length) (cap := ch_0_0.2.2.2) rfl rfl fun a S => s_gT S (b := (((ST32.un x1).1) == 6)) rfl rfl c17 (s_lenS S rfl underlying30 rfl fun a S => s_gT S (b := (((ST32.un x1).1) == 6)) rfl rfl c17 (s_bin S rfl rfl rfl rfl fun a S => s_gT S (b := (((gt x2 x3).2.2) != ((ST32.un x1).2.1))) rfl rfl c16 (s_pick S (b := true) (hc_of rfl c17) rfl rfl fun a S => s_pick S (b := false) (hc_of rfl c16) rfl rfl fun a S => c_end' (x_thenN ?_))))))))
           exact j2 _ (((gt x2 x3).2.2) != (((ST32.un x1).2.2).length : Int)) g2 g1 ch1.2.1.1 ch1.2.1.2 a w (S.sb rfl (.c0 (.c0 .n))) h11
          ·refine s_gF S (b := (((ST32.un x1).1) == 6)) rfl rfl c17 rfl fun a S => s_gF S (b := (((ST32.un x1).1) == 6)) rfl rfl c17 rfl fun a S => s_gF S (b := (((ST32.un x1).1) == 6)) rfl rfl c17 rfl fun a S => s_gF S (b := (((ST32.un x1).1) == 6)) rfl rfl c17 rfl fun a S => s_gF S (b := (((ST32.un x1).1) == 6)) rfl rfl c17 rfl fun a S => s_gF S (b := (((ST32.un x1).1) == 6)) rfl rfl c17 rfl fun a S => s_gT S (b := (((gt x2 x3).2.2) != ((ST32.un x1).2.1))) rfl rfl c16 (s_pick S (b := false) (hc_of rfl c17) rfl rfl fun a S => s_pick S (b := false) (hc_of rfl c16) rfl rfl fun a S => c_end' (x_thenN ?_))
           exact j2 _ false g2 g1 ch1.2.1.1 ch1.2.1.2 a w (S.sb rfl (.c0 (.c0 .n))) h11
        ·refine s_gF S (b := (((ST32.un x1).1) == 5)) rfl rfl c15 rfl fun a S => s_gF S (b := (((ST32.un x1).1) == 5)) rfl rfl c15 rfl fun a S => s_gF S (b := (((ST32.un x1).1) == 5)) rfl rfl c15 rfl fun a S => s_gF S (b := (((ST32.un x1).1) == 5)) rfl rfl c15 rfl fun a S => s_gF S (b := (((ST32.un x1).1) == 5)) rfl rfl c15 rfl fun a S => s_gT S (b := (decide (((x2).length : Int) ≤ ((gt x2 x3).2.2)))) rfl rfl c14 (s_pick S (b := false) (hc_of rfl c15) rfl rfl fun a S => s_pick S (b := false) (hc_of rfl c14) rfl rfl fun a S => s_move S rfl rfl fun a S => s_gT S (b := false) rfl rfl rfl (s_fieldAddr S rfl I32_0 T3 (by decide) rfl rfl fun a S => s_gT S (b := false) rfl rfl rfl (s_load1 S rfl .h1 T3 (v := (.int .i64 ((ST32.un x1).1))) rfl rfl fun a S => s_gT S (b := false) rfl rfl rfl (s_bin S rfl rfl rfl rfl fun a S => s_gT S (b := false) rfl rfl rfl (s_move S rfl rfl fun a S => ?_)))))
         rcases ite_of h9 with ⟨c18, h10⟩ | ⟨c18, h10⟩
         ·refine s_gT S (b := (((ST32.un x1).1) == 6)) rfl rfl c18 (s_fieldAddr S rfl I56_2 T3 (by decide) rfl rfl fun a S => s_gT S (b := (((ST32.un x1).1) == 6)) rfl rfl c18 (s_load1 S rfl .h T3 (v := (.int .i64 ((gt x2 x3).2.2))) rfl rfl fun a S => s_gT S (b := (((ST32.un x1).1) == 6)) rfl rfl c18 (s_fieldAddr S rfl I32_2 T30 (by decide) rfl rfl fun a S => s_gT S (b := (((ST32.un x1).1) == 6)) rfl rfl c18 (s_loadSl S rfl .h1 T30 (A := ch_0_0.2.2.1) (len := ((ST32.un x1).2.2).length) (cap := ch_0_0.2.2.2) rfl rfl fun a S => s_gT S (b := (((ST32.un x1).1) == 6)) rfl rfl c18 (s_lenS S rfl underlying30 rfl fun a S => s_gT S (b := (((ST32.un x1).1) == 6)) rfl rfl c18 (s_bin S rfl rfl rfl rfl fun a S => s_gT S (b := false) rfl rfl rfl (s_pick S (b := true) (hc_of rfl c18) rfl rfl fun a S => s_pick S (b := false) (hc_of rfl rfl) rfl rfl fun a S => c_end' (x_thenN ?_))))))))
          exact j2 _ (((gt x2 x3).2.2) != (((ST32.un x1).2.2).length : Int)) g2 g1 ch1.2.1.1 ch1.2.1.2 a w (S.sb rfl (.c0 (.c0 .n))) h10
         ·refine s_gF S (b := (((ST32.un x1).1) == 6)) rfl rfl c18 rfl fun a S => s_gF S (b := (((ST32.un x1).1) == 6)) rfl rfl c18 rfl fun a S => s_gF S (b := (((ST32.un x1).1) == 6)) rfl rfl c18 rfl fun a S => s_gF S (b := (((ST32.un x1).1) == 6)) rfl rfl c18 rfl fun a S => s_gF S (b := (((ST32.un x1).1) == 6)) rfl rfl c18 rfl fun a S => s_gF S (b := (((ST32.un x1).1) == 6)) rfl rfl c18 rfl fun a S => s_gT S (b := false) rfl rfl rfl (s_pick S (b := false) (hc_of rfl c18) rfl rfl fun a S => s_pick S (b := false) (hc_of rfl rfl) rfl rfl fun a S => c_end' (x_thenN ?_))
          exact j2 _ false g2 g1 ch1.2.1.1 ch1.2.1.2 a w (S.sb rfl (.c0 (.c0 .n))) h10
def fc9_.f : Nat → fc9_.Ty
  | 0 => fun _ _ _ => none
  | k + 1 => fc9_.body (fc9_.f k) k
theorem fc9_.oks : ∀ k : Nat, fc9_.Ctr (fc9_.f k)
  | 0 => fun _ _ _ _ _ _ r h0 => (nomatch (show (none : Option Int) = some r from h0))
  | k + 1 => by
    have ih := fc9_.oks k
    exact fc9_.okb (fc9_.f k) ih k
theorem fc9_.ok (k : Nat) : fc9_.Ctr (fc9_.f k) := (fc9_.oks k)
abbrev fe5_.Ty : Type := (List Int) → Option ((List Int))
def fe5_.Ctr (s : fe5_.Ty) : Prop := ∀ (x1 : List Int) (r : (List Int)), Ct (C := Unit) Tryd.prog 53 (s x1 = some r) [] [(.a4 x1)] (fun _ => (.agg [.ints .i64 r 32])) fun _ => []
def fe5_.j1 (y1 : List Int) : Option ((List Int)) := some y1
def fe5_.b1 (x1 : List Int) (rec1 : Int → (List Int) → Option ((List Int))) (y4 : Int) (y5 : List Int) : Option ((List Int)) := if (decide (y4 < 32)) = true then (if (0 : Int) ≤ (wr .i64 (Int.tdiv y4 8)) ∧ (wr .i64 (Int.tdiv y4 8)) < 4 then (if (0 : Int) ≤ (wr .i64 (8 * (Int.tmod y4 8))) then (if (0 : Int) ≤ y4 ∧ y4 < 32 then (rec1 (wr .i64 (y4 + 1)) (y5.set (Int.toNat y4) (wr .i64 (Int.tmod (shr (rd x1 (wr .i64 (Int.tdiv y4 8))) (min (Int.toNat (wr .i64 (8 * (Int.tmod y4 8)))) 64)) 256)))) else none) else none) else none) else (fe5_.j1 y5)
def fe5_.l1 (x1 : List Int) : Nat → Int → (List Int) → Option ((List Int))
  | 0, _, _ => none
  | q + 1, y4, y5 => fe5_.b1 x1 (fe5_.l1 x1 q) y4 y5
def fe5_.f (k : Nat) (x1 : List Int) : Option ((List Int)) := fe5_.l1 x1 k 0 [0, 0, 0, 0, 0, 0, 0, 0, 0, 0, 0, 0, 0, 0, 0, 0, 0, 0, 0, 0, 0, 0, 0, 0, 0, 0, 0, 0, 0, 0, 0, 0]
theorem fe5_.ok (k : Nat) : fe5_.Ctr (fe5_.f k) := by
 intro x1 r h0 mi w0 ok hm
 delta fe5_.f at h0
 refine c_enterZ (n := 23) ok hm func53 rfl rfl rfl fun b0 hb a S => c_region (s_box S rfl rfl rfl fun g1 a w S => s_alloc S Z108 rfl ⟨rfl, trivial⟩ rfl fun g2 a w S => c_end (c_region (s_build S (ds := []) (dv := (.agg [.ints .i64 z32 32])) rfl (fun _ => by kernel_rfl) ⟨rfl, trivial⟩ rfl fun a S => s_alloc S Z108 rfl ⟨rfl, trivial⟩ rfl fun g3 a w S => s_store S rfl rfl rfl (s' := [.ints .i64 z32 32]) .h T108 rfl rfl fun w S => c_end (wp_seq_k fun K1 hK1 => ?_))))
 have j1 : ∀ m g13 g14 y1 a w, St 23 m b0 [(3, (.p g13)), (2, (.p g14))] [Res.cells g13 108 [.ints .i64 y1 32], Res.cells g14 108 [.ints .i64 z32 32]] a w → fe5_.j1 y1 = some r → K1 a w := by
  intro m g13 g14 y1 a w S h0
  delta fe5_.j1 at h0
  refine hK1 a w (c_region (s_loada S rfl .h T108 (s' := [.ints .i64 y1 32]) rfl rfl fun a S => s_store S rfl rfl rfl (s' := [.ints .i64 y1 32]) .h1 T108 rfl rfl fun w S => c_end (wp_ret ?_)))
  obtain rfl := Option.some.inj h0
  exact b_ret1 (d := (.agg [.ints .i64 y1 32])) S rfl (resD_cell rfl .h1 T108 rfl rfl) (S.rt hb)
 refine c_region (s_assign S rfl rfl fun a S => c_end (wp_block ?_))
 refine c_loop (fun q1 a w => ∃ m y4 g21 g22 g23 y5, St 23 m b0 [(4, (.i y4)), (3, (.p g21)), (2, (.p g22)), (1, (.p g23))] [Res.cells g21 108 [.ints .i64 y5 32], Res.cells g22 108 [.ints .i64 z32 32], Res.cells g23 54 [.w4 x1]] a w ∧ fe5_.l1 x1 q1 y4 y5 = some r) ?_ ?_ (k := k) ⟨_, 0, g3, g2, g1, z32, (S.sb rfl (.c0 (.c0 (.c0 .n)))), h0⟩
 ·rintro a w ⟨m, y4, g21, g22, g23, y5, S, h0⟩
  exact (nomatch (show (none : Option ((List Int))) = some r from h0))
 ·clear S h0
  rintro q1 a w ⟨m, y4, g21, g22, g23, y5, S, h0⟩
  replace h0 : fe5_.b1 x1 (fe5_.l1 x1 q1) y4 y5 = some r := h0
  delta fe5_.b1 at h0
  refine wp_seq (c_region (s_move S rfl rfl fun a S => s_bin S rfl rfl rfl rfl fun a S => c_end ?_))
  rcases ite_of h0 with ⟨c1, h1⟩ | ⟨c1, h1⟩
  ·refine c_condT S rfl c1 (wp_skip (x_thenN (wp_seq (wp_block (c_region' (s_move S rfl rfl fun a S => s_move S rfl rfl fun a S => s_quo S rfl rfl (by decide) rfl fun a S => ?_))))))
   obtain ⟨c2, h2⟩ := chk_of h1; clear h1
   refine s_iaddr S rfl rfl underlying54 T52 c2.1 c2.2 (mul1 _ _) rfl fun a S => s_loadi S (i := (wr .i64 (Int.tdiv y4 8))) rfl .h2 T52 .h rfl c2.1 c2.2 rfl fun a S => s_move S rfl rfl fun a S => s_rem S rfl rfl (by decide) rfl fun a S => s_bin S rfl rfl rfl rfl fun a S => ?_
   obtain ⟨c3, h3⟩ := chk_of h2; clear h2
   refine s_shr S (e := (min (Int.toNat (wr .i64 (8 * (Int.tmod y4 8)))) 64)) rfl rfl c3 rfl rfl fun a S => s_rem S rfl rfl (by decide) rfl fun a S => s_conv S rfl rfl underlying3 rfl fun a S => ?_
   obtain ⟨c4, h4⟩ := chk_of h3; clear h3
   refine s_iaddr S rfl rfl underlying108 T3 c4.1 c4.2 (mul1 _ _) rfl fun a S => s_storei S (i := y4) rfl rfl .h T3 .h rfl c4.1 c4.2 fun w S => c_end' (x_blockN (x_thenN (c_region' (s_move S rfl rfl fun a S => s_bin S rfl rfl rfl rfl fun a S => s_assign S rfl rfl fun a S => c_end' (x_thenN ?_)))))
   exact ⟨_, (wr .i64 (y4 + 1)), g21, g22, g23, (y5.set (Int.toNat y4) (wr .i64 (Int.tmod (shr (rd x1 (wr .i64 (Int.tdiv y4 8))) (min (Int.toNat (wr .i64 (8 * (Int.tmod y4 8)))) 64)) 256))), (S.sb rfl (.c0 (.c0 (.c0 .n)))), h4⟩
  ·refine c_condF S rfl c1 (wp_exit (x_thenX (x_thenX (x_blockX (x_thenN ?_)))))
   exact j1 _ g21 g22 y5 a w (S.sb rfl (.c0 (.c0 .n))) h1
abbrev fc1_.Ty : Type := (List Int) → Int → Option Int
def fc1_.Ctr (s : fc1_.Ty) : Prop := ∀ (x1 : List Int) (x2 : Int) (r : Int), Ct (C := Unit) Tryd.prog 74 (s x1 x2 = some r) [] [(.agg [.ints .i64 x1 32]), (.i x2)] (fun _ => (.i r)) fun _ => []
def fc1_.j2 (y6 : Int) : Option Int := some (Int.tmod y6 2)
def fc1_.b1 (x2 : Int) (rec1 : Int → Int → Option Int) (y9 : Int) (y10 : Int) : Option Int := if (decide (y9 < (Int.tmod x2 8))) = true then (rec1 (wr .i64 (y9 + 1)) (wr .i64 (Int.tdiv y10 2))) else (fc1_.j2 y10)
def fc1_.l1 (x2 : Int) : Nat → Int → Int → Option Int
  | 0, _, _ => none
  | q + 1, y9, y10 => fc1_.b1 x2 (fc1_.l1 x2 q) y9 y10
def fc1_.j1 (k : Nat) (x1 : List Int) (x2 : Int) (y1 : Bool) : Option Int := if y1 = true then (some 0) else (if (0 : Int) ≤ (wr .i64 (Int.tdiv x2 8)) ∧ (wr .i64 (Int.tdiv x2 8)) < 32 then (fc1_.l1 x2 k 0 (rd x1 (wr .i64 (Int.tdiv x2 8)))) else none)
def fc1_.f (k : Nat) (x1 : List Int) (x2 : Int) : Option Int := if (decide (x2 < 0)) = true then (fc1_.j1 k x1 x2 true) else (fc1_.j1 k x1 x2 (decide (255 < x2)))
theorem fc1_.ok (k : Nat) : fc1_.Ctr (fc1_.f k) := by
 intro x1 x2 r h0 mi w0 ok hm
 delta fc1_.f at h0
 refine c_enterZ (n := 27) ok hm func74 rfl rfl rfl fun b0 hb a S => c_region (s_box S rfl rfl rfl fun g1 a w S => s_assign S rfl rfl fun a S => c_end (wp_seq (wp_seq_k fun K1 hK1 => ?_)))
 have j1 : ∀ m y1 g2 a w, St 27 m b0 [(12, (.b y1)), (2, (.p g2)), (1, (.i x2))] [Res.cells g2 108 [.ints .i64 x1 32]] a w → fc1_.j1 k x1 x2 y1 = some r → K1 a w := by
  intro m y1 g2 a w S h0
  delta fc1_.j1 at h0
  refine hK1 a w ?_
  rcases ite_of h0 with ⟨c1, h1⟩ | ⟨c1, h1⟩
  ·refine c_condT S rfl c1 (c_region (s_assign S rfl rfl fun a S => c_end (wp_ret (x_thenR ?_))))
   obtain rfl := Option.some.inj h1
   exact b_ret1 (d := (.i 0)) S rfl rfl (S.rt hb)
  ·refine c_condF S rfl c1 (wp_skip (x_thenN (c_region (s_move S rfl rfl fun a S => s_quo S rfl rfl (by decide) rfl fun a S => ?_))))
   obtain ⟨c2, h2⟩ := chk_of h1; clear h1
   refine s_iaddr S rfl rfl underlying108 T3 c2.1 c2.2 (mul1 _ _) rfl fun a S => s_loadi S (i := (wr .i64 (Int.tdiv x2 8))) rfl .h T3 .h rfl c2.1 c2.2 rfl fun a S => s_assign S rfl rfl fun a S => c_end (wp_seq_k fun K2 hK2 => ?_)
   have j2 : ∀ m y6 a w, St 27 m b0 [(5, (.i y6))] [] a w → fc1_.j2 y6 = some r → K2 a w := by
    intro m y6 a w S h0
    delta fc1_.j2 at h0
    refine hK2 a w (c_region (s_move S rfl rfl fun a S => s_rem S rfl rfl (by decide) rfl fun a S => s_assign S rfl rfl fun a S => c_end (wp_ret ?_)))
    obtain rfl := Option.some.inj h0
    exact b_ret1 (d := (.i (Int.tmod y6 2))) S rfl rfl (S.rt hb)
   refine c_region (s_assign S rfl rfl fun a S => c_end (wp_block ?_))
   refine c_loop (fun q1 a w => ∃ m y9 y10, St 27 m b0 [(6, (.i y9)), (5, (.i y10)), (1, (.i x2))] [] a w ∧ fc1_.l1 x2 q1 y9 y10 = some r) ?_ ?_ (k := k) ⟨_, 0, (rd x1 (wr .i64 (Int.tdiv x2 8))), (S.sb rfl .nil), h2⟩
   ·rintro a w ⟨m, y9, y10, S, h0⟩
    exact (nomatch (show (none : Option Int) = some r from h0))
   ·clear S h2
    rintro q1 a w ⟨m, y9, y10, S, h0⟩
    replace h0 : fc1_.b1 x2 (fc1_.l1 x2 q1) y9 y10 = some r := h0
    delta fc1_.b1 at h0
    refine wp_seq (c_region (s_move S rfl rfl fun a S => s_move S rfl rfl fun a S => s_rem S rfl rfl (by decide) rfl fun a S => s_bin S rfl rfl rfl rfl fun a S => c_end ?_))
    rcases ite_of h0 with ⟨c3, h1⟩ | ⟨c3, h1⟩
    ·refine c_condT S rfl c3 (wp_skip (x_thenN (wp_seq (wp_block (c_region' (s_move S rfl rfl fun a S => s_quo S rfl rfl (by decide) rfl fun a S => s_assign S rfl rfl fun a S => c_end' (x_blockN (x_thenN (c_region' (s_move S rfl rfl fun a S => s_bin S rfl rfl rfl rfl fun a S => s_assign S rfl rfl fun a S => c_end' (x_thenN ?_)))))))))))
     exact ⟨_, (wr .i64 (y9 + 1)), (wr .i64 (Int.tdiv y10 2)), (S.sb rfl .nil), h1⟩
    ·refine c_condF S rfl c3 (wp_exit (x_thenX (x_thenX (x_blockX (x_thenN ?_)))))
     exact j2 _ y10 a w (S.sub ⟨rfl, trivial⟩ .nil) h1
 refine c_region' (s_move S rfl rfl fun a S => s_bin S rfl rfl rfl rfl fun a S => s_move S rfl rfl fun a S => ?_)
 rcases ite_of h0 with ⟨c4, h1⟩ | ⟨c4, h1⟩
 ·refine s_gF S (b := (decide (x2 < 0))) rfl rfl c4 rfl fun a S => s_gF S (b := (decide (x2 < 0))) rfl rfl c4 rfl fun a S => s_pick S (b := true) (hc_of rfl c4) rfl rfl fun a S => c_end' (x_thenN ?_)
  exact j1 _ true g1 a w (S.sb rfl (.c0 .n)) h1
 ·refine s_gT S (b := (decide (x2 < 0))) rfl rfl c4 (s_move S rfl rfl fun a S => s_gT S (b := (decide (x2 < 0))) rfl rfl c4 (s_bin S rfl rfl rfl rfl fun a S => s_pick S (b := false) (hc_of rfl c4) rfl rfl fun a S => c_end' (x_thenN ?_)))
  exact j1 _ (decide (255 < x2)) g1 a w (S.sb rfl (.c0 .n)) h1
abbrev fb7_.Ty : Type := (List Int) → Option Int
def fb7_.Ctr (s : fb7_.Ty) : Prop := ∀ (x1 : List Int) (r : Int), Ct (C := Unit) Tryd.prog 54 (s x1 = some r) [] [(.agg [.ints .i64 x1 32])] (fun _ => (.i r)) fun _ => []
def fb7_.j1 (y1 : Int) : Option Int := some y1
def fb7_.j2 (y6 : Int) (rec1 : Int → Int → Option Int) (y8 : Int) : Option Int := rec1 (wr .i64 (y6 + 1)) y8
def fb7_.b1 (k : Nat) (x1 : List Int) (rec1 : Int → Int → Option Int) (y6 : Int) (y7 : Int) : Option Int := if (decide (y6 < 256)) = true then ((fc1_.f k x1 y6).bind fun t1 => (if (t1 == 1) = true then (fb7_.j2 y6 rec1 (wr .i64 (y6 + 1))) else (fb7_.j2 y6 rec1 y7))) else (fb7_.j1 y7)
def fb7_.l1 (k : Nat) (x1 : List Int) : Nat → Int → Int → Option Int
  | 0, _, _ => none
  | q + 1, y6, y7 => fb7_.b1 k x1 (fb7_.l1 k x1 q) y6 y7
def fb7_.f (k : Nat) (x1 : List Int) : Option Int := fb7_.l1 k x1 k 0 0
theorem fb7_.ok (k : Nat) : fb7_.Ctr (fb7_.f k) := by
 intro x1 r h0 mi w0 ok hm
 delta fb7_.f at h0
 refine c_enterZ (n := 16) ok hm func54 rfl rfl rfl fun b0 hb a S => c_region (s_box S rfl rfl rfl fun g1 a w S => s_assign S rfl rfl fun a S => c_end (c_region (s_assign S rfl rfl fun a S => c_end (wp_seq_k fun K1 hK1 => ?_))))
 have j1 : ∀ m y1 a w, St 16 m b0 [(3, (.i y1))] [] a w → fb7_.j1 y1 = some r → K1 a w := by
  intro m y1 a w S h0
  delta fb7_.j1 at h0
  refine hK1 a w (c_region (s_move S rfl rfl fun a S => s_assign S rfl rfl fun a S => c_end (wp_ret ?_)))
  obtain rfl := Option.some.inj h0
  exact b_ret1 (d := (.i y1)) S rfl rfl (S.rt hb)
 refine c_region (s_assign S rfl rfl fun a S => c_end (wp_block ?_))
 refine c_loop (fun q1 a w => ∃ m y6 y7 g11, St 16 m b0 [(4, (.i y6)), (3, (.i y7)), (1, (.p g11))] [Res.cells g11 108 [.ints .i64 x1 32]] a w ∧ fb7_.l1 k x1 q1 y6 y7 = some r) ?_ ?_ (k := k) ⟨_, 0, 0, g1, (S.sb rfl (.c0 .n)), h0⟩
 ·rintro a w ⟨m, y6, y7, g11, S, h0⟩
  exact (nomatch (show (none : Option Int) = some r from h0))
 ·clear S h0
  rintro q1 a w ⟨m, y6, y7, g11, S, h0⟩
  replace h0 : fb7_.b1 k x1 (fb7_.l1 k x1 q1) y6 y7 = some r := h0
  delta fb7_.b1 at h0
  refine wp_seq (c_region (s_move S rfl rfl fun a S => s_bin S rfl rfl rfl rfl fun a S => c_end ?_))
  rcases ite_of h0 with ⟨c1, h1⟩ | ⟨c1, h1⟩
  ·refine c_condT S rfl c1 (wp_skip (x_thenN (wp_seq_k fun K2 hK2 => ?_)))
   have j2 : ∀ m y8 g12 a w, St 16 m b0 [(3, (.i y8)), (4, (.i y6)), (1, (.p g12))] [Res.cells g12 108 [.ints .i64 x1 32]] a w → fb7_.j2 y6 (fb7_.l1 k x1 q1) y8 = some r → K2 a w := by
    intro m y8 g12 a w S h0
    delta fb7_.j2 at h0
    refine hK2 a w (c_region' (s_move S rfl rfl fun a S => s_bin S rfl rfl rfl rfl fun a S => s_assign S rfl rfl fun a S => c_end' (x_thenN ?_)))
    exact ⟨_, (wr .i64 (y6 + 1)), y8, g12, (S.sb rfl (.c0 .n)), h0⟩
   refine wp_block (c_region (s_loada S rfl .h T108 (s' := [.ints .i64 x1 32]) rfl rfl fun a S => s_move S rfl rfl fun a S => bindX h1 fun t1 et1 h2 => s_callP S _ N74 rfl rfl (fc1_.ok k x1 y6 t1 et1 _ _) fun ch1 m le1 a w S => s_bin S rfl rfl rfl rfl fun a S => c_end ?_))
   rcases ite_of h2 with ⟨c2, h3⟩ | ⟨c2, h3⟩
   ·refine c_condT S rfl c2 (c_region' (s_move S rfl rfl fun a S => s_bin S rfl rfl rfl rfl fun a S => s_assign S rfl rfl fun a S => c_end' (x_blockN (x_thenN ?_))))
    exact j2 _ (wr .i64 (y6 + 1)) g11 a w (S.sb rfl (.c0 .n)) h3
   ·refine c_condF S rfl c2 (wp_skip (x_blockN (x_thenN ?_)))
    exact j2 _ y7 g11 a w (S.sb rfl (.c0 .n)) h3
  ·refine c_condF S rfl c1 (wp_exit (x_thenX (x_thenX (x_blockX (x_thenN ?_)))))
   exact j1 _ y7 a w (S.sub ⟨rfl, trivial⟩ .nil) h1
abbrev fd8_.Ty : Type := ST32 → L38 → Int → Option Bool
def fd8_.Ctr (s : fd8_.Ty) : Prop := ∀ (x1 : ST32) (x2 : L38) (x3 : Int) (ch_0_0 : Unit × Unit × (Option Addr × Nat)) (ch_1_0 : Option Addr) (ch_1_1 : Nat) (r : Bool), Ct (C := Unit) Tryd.prog 33 (s x1 x2 x3 = some r) [] [(.agg [.i ((ST32.un x1).1), .i ((ST32.un x1).2.1), .sl ch_0_0.2.2.1 ((ST32.un x1).2.2).length ch_0_0.2.2.2 (SR32 ch_0_0.2.2.1 ((ST32.un x1).2.2))]), (.q Y56 ch_1_0 ch_1_1 x2), (.i x3)] (fun _ => (.b r)) fun _ => []
def fd8_.j1 : Option Bool := some false
def fd8_.b1 (k : Nat) (self0 : fd8_.Ty) (x1 : ST32) (x2 : L38) (x3 : Int) (rec1 : Int → Int → Option Bool) (y1 : Int) (y2 : Int) : Option Bool := if (0 : Int) ≤ x3 ∧ x3 < ((x2).length : Int) then (if (decide (y1 < ((gt x2 x3).2.2))) = true then ((fd5_.f x1 y1).bind fun t11 => ((self0 t11 x2 y2).bind fun t12 => (if t12 = true then (some true) else ((fd5_.f x1 y1).bind fun t13 => ((fc9_.f k t13 x2 y2).bind fun t14 => (rec1 (wr .i64 (y1 + 1)) t14)))))) else fd8_.j1) else none
def fd8_.l1 (k : Nat) (self0 : fd8_.Ty) (x1 : ST32) (x2 : L38) (x3 : Int) : Nat → Int → Int → Option Bool
  | 0, _, _ => none
  | q + 1, y1, y2 => fd8_.b1 k self0 x1 x2 x3 (fd8_.l1 k self0 x1 x2 x3 q) y1 y2
def fd8_.body (self0 : fd8_.Ty) (k : Nat) (x1 : ST32) (x2 : L38) (x3 : Int) : Option Bool := if (decide (((ST32.un x1).1) < 3)) = true then (if (0 : Int) ≤ x3 ∧ x3 < ((x2).length : Int) then ((fe5_.f k ((gt x2 x3).1)).bind fun t1 => ((fb7_.f k t1).bind fun t2 => (if (((ST32.un x1).1) == 1) = true then (if (decide (160 < t2)) = true then (some true) else (if (((ST32.un x1).1) == 2) = true then (some (decide (1 < t2))) else (some false))) else (if (((ST32.un x1).1) == 2) = true then (some (decide (1 < t2))) else (some false))))) else none) else (if (((ST32.un x1).1) == 3) = true then (some false) else (fd8_.l1 k self0 x1 x2 x3 k 0 (wr .i64 (x3 + 1))))
theorem fd8_.okb (self0 : fd8_.Ty) (c_0 : fd8_.Ctr self0) (k : Nat) : fd8_.Ctr (fd8_.body self0 k) := by
 intro x1 x2 x3 ch_0_0 ch_1_0 ch_1_1 r h0 mi w0 ok hm
 delta fd8_.body at h0
 refine c_enterZ (n := 62) ok hm func33 rfl rfl rfl fun b0 hb a S => c_region (s_box S rfl rfl rfl fun g1 a w S => s_assign S rfl rfl fun a S => c_end (wp_seq (c_region (s_fieldAddr S rfl I32_0 T3 (by decide) rfl rfl fun a S => s_load1 S rfl .h T3 (v := (.int .i64 ((ST32.un x1).1))) rfl rfl fun a S => s_bin S rfl rfl rfl rfl fun a S => c_end ?_))))
 rcases ite_of h0 with ⟨c1, h1⟩ | ⟨c1, h1⟩
 ·refine c_condT S rfl c1 (c_region (s_move S rfl rfl fun a S => s_move S rfl rfl fun a S => ?_))
  obtain ⟨c2, h2⟩ := chk_of h1; clear h1
  refine s_iaddrS S rfl rfl rfl underlying38 T56 c2.1 c2.2 rfl fun p1 a S => s_faddrP S (tF := (Ty.arr .u64 4)) (y := (gt x2 x3).1) rfl I56_0 T54 (by decide) (fun m h => (at_fst (at_0 h))) rfl fun a S => s_ldA S (fun (c : Unit) => [.w4 ((gt x2 x3).1)]) rfl T54 (fun _ => rfl) rfl fun ch1 a S => ?_
  refine bindX h2 fun t1 et1 h3 => s_callP S _ N53 rfl rfl (fe5_.ok k ((gt x2 x3).1) t1 et1 _ _) fun ch2 m le1 a w S => bindX h3 fun t2 et2 h4 => s_callP S _ N54 rfl rfl (fb7_.ok k t1 t2 et2 _ _) fun ch3 m le1 a w S => s_assign S rfl rfl fun a S => c_end (c_region (s_fieldAddr S rfl I32_0 T3 (by decide) rfl rfl fun a S => s_load1 S rfl .h T3 (v := (.int .i64 ((ST32.un x1).1))) rfl rfl fun a S => s_bin S rfl rfl rfl rfl fun a S => s_move S rfl rfl fun a S => ?_))
  rcases ite_of h4 with ⟨c3, h5⟩ | ⟨c3, h5⟩
  ·refine s_gT S (b := (((ST32.un x1).1) == 1)) rfl rfl c3 (s_move S rfl rfl fun a S => s_gT S (b := (((ST32.un x1).1) == 1)) rfl rfl c3 (s_bin S rfl rfl rfl rfl fun a S => s_pick S (b := true) (hc_of rfl c3) rfl rfl fun a S => s_move S rfl rfl fun a S => ?_))
   rcases ite_of h5 with ⟨c4, h6⟩ | ⟨c4, h6⟩
   ·refine s_gF S (b := (decide (160 < t2))) rfl rfl c4 rfl fun a S => s_gF S (b := (decide (160 < t2))) rfl rfl c4 rfl fun a S => s_gF S (b := (decide (160 < t2))) rfl rfl c4 rfl fun a S => s_gF S (b := (decide (160 < t2))) rfl rfl c4 rfl fun a S => s_gU S rfl rfl rfl fun a S => s_gU S rfl rfl rfl fun a S => s_gF S (b := (decide (160 < t2))) rfl rfl c4 rfl fun a S => s_pick S (b := true) (hc_of rfl c4) rfl rfl fun a S => s_assign S rfl rfl fun a S => c_end (wp_ret (x_thenR ?_))
    obtain rfl := Option.some.inj h6
    exact b_ret1 (d := (.b true)) S rfl rfl (S.rt hb)
   ·refine s_gT S (b := (decide (160 < t2))) rfl rfl c4 (s_fieldAddr S rfl I32_0 T3 (by decide) rfl rfl fun a S => s_gT S (b := (decide (160 < t2))) rfl rfl c4 (s_load1 S rfl .h T3 (v := (.int .i64 ((ST32.un x1).1))) rfl rfl fun a S => s_gT S (b := (decide (160 < t2))) rfl rfl c4 (s_bin S rfl rfl rfl rfl fun a S => s_gT S (b := (decide (160 < t2))) rfl rfl c4 (s_move S rfl rfl fun a S => ?_))))
    rcases ite_of h6 with ⟨c5, h7⟩ | ⟨c5, h7⟩
    ·refine s_gT S (b := (((ST32.un x1).1) == 2)) rfl rfl c5 (s_move S rfl rfl fun a S => s_gT S (b := (((ST32.un x1).1) == 2)) rfl rfl c5 (s_bin S rfl rfl rfl rfl fun a S => s_gT S (b := (decide (160 < t2))) rfl rfl c4 (s_pick S (b := true) (hc_of rfl c5) rfl rfl fun a S => s_pick S (b := false) (hc_of rfl c4) rfl rfl fun a S => s_assign S rfl rfl fun a S => c_end (wp_ret (x_thenR ?_)))))
     obtain rfl := Option.some.inj h7
     exact b_ret1 (d := (.b (decide (1 < t2)))) S rfl rfl (S.rt hb)
    ·refine s_gF S (b := (((ST32.un x1).1) == 2)) rfl rfl c5 rfl fun a S => s_gF S (b := (((ST32.un x1).1) == 2)) rfl rfl c5 rfl fun a S => s_gT S (b := (decide (160 < t2))) rfl rfl c4 (s_pick S (b := false) (hc_of rfl c5) rfl rfl fun a S => s_pick S (b := false) (hc_of rfl c4) rfl rfl fun a S => s_assign S rfl rfl fun a S => c_end (wp_ret (x_thenR ?_)))
     obtain rfl := Option.some.inj h7
     exact b_ret1 (d := (.b false)) S rfl rfl (S.rt hb)
  ·refine s_gF S (b := (((ST32.un x1).1) == 1)) rfl rfl c3 rfl fun a S => s_gF S (b := (((ST32.un x1).1) == 1)) rfl rfl c3 rfl fun a S => s_pick S (b := false) (hc_of rfl c3) rfl rfl fun a S => s_move S rfl rfl fun a S => s_gT S (b := false) rfl rfl rfl (s_fieldAddr S rfl I32_0 T3 (by decide) rfl rfl fun a S => s_gT S (b := false) rfl rfl rfl (s_load1 S rfl .h T3 (v := (.int .i64 ((ST32.un x1).1))) rfl rfl fun a S => s_gT S (b := false) rfl rfl rfl (s_bin S rfl rfl rfl rfl fun a S => s_gT S (b := false) rfl rfl rfl (s_move S rfl rfl fun a S => ?_))))
   rcases ite_of h5 with ⟨c6, h6⟩ | ⟨c6, h6⟩
   ·refine s_gT S (b := (((ST32.un x1).1) == 2)) rfl rfl c6 (s_move S rfl rfl fun a S => s_gT S (b := (((ST32.un x1).1) == 2)) rfl rfl c6 (s_bin S rfl rfl rfl rfl fun a S => s_gT S (b := false) rfl rfl rfl (s_pick S (b := true) (hc_of rfl c6) rfl rfl fun a S => s_pick S (b := false) (hc_of rfl rfl) rfl rfl fun a S => s_assign S rfl rfl fun a S => c_end (wp_ret (x_thenR ?_)))))
    obtain rfl := Option.some.inj h6
    exact b_ret1 (d := (.b (decide (1 < t2)))) S rfl rfl (S.rt hb)
   ·refine s_gF S (b := (((ST32.un x1).1) == 2)) rfl rfl c6 rfl fun a S => s_gF S (b := (((ST32.un x1).1) == 2)) rfl rfl c6 rfl fun a S => s_gT S (b := false) rfl rfl rfl (s_pick S (b := false) (hc_of rfl c6) rfl rfl fun a S => s_pick S (b := false) (hc_of rfl rfl) rfl rfl fun a S => s_assign S rfl rfl fun a S => c_end (wp_ret (x_thenR ?_)))
    obtain rfl := Option.some.inj h6
    exact b_ret1 (d := (.b false)) S rfl rfl (S.rt hb)
 ·refine c_condF S rfl c1 (wp_skip (x_thenN (wp_seq (c_region (s_fieldAddr S rfl I32_0 T3 (by decide) rfl rfl fun a S => s_load1 S rfl .h T3 (v := (.int .i64 ((ST32.un x1).1))) rfl rfl fun a S => s_bin S rfl rfl rfl rfl fun a S => c_end ?_)))))
  rcases ite_of h1 with ⟨c7, h2⟩ | ⟨c7, h2⟩
  ·refine c_condT S rfl c7 (c_region (s_assign S rfl rfl fun a S => c_end (wp_ret (x_thenR ?_))))
   obtain rfl := Option.some.inj h2
   exact b_ret1 (d := (.b false)) S rfl rfl (S.rt hb)
  ·refine c_condF S rfl c7 (wp_skip (x_thenN (c_region (s_move S rfl rfl fun a S => s_bin S rfl rfl rfl rfl fun a S => s_assign S rfl rfl fun a S => c_end (wp_seq_k fun K1 hK1 => ?_)))))
   have j1 : ∀ m a w, St 62 m b0 [] [] a w → fd8_.j1 = some r → K1 a w := by
    intro m a w S h0
    delta fd8_.j1 at h0
    refine hK1 a w (c_region (s_assign S rfl rfl fun a S => c_end (wp_ret ?_)))
    obtain rfl := Option.some.inj h0
    exact b_ret1 (d := (.b false)) S rfl rfl (S.rt hb)
   refine c_region (s_assign S rfl rfl fun a S => c_end (wp_block ?_))
   refine c_loop (fun q1 a w => ∃ m y1 y2 g7, St 62 m b0 [(9, (.i y1)), (8, (.i y2)), (3, (.p g7)), (1, (.q Y56 ch_1_0 ch_1_1 x2)), (2, (.i x3))] [Res.cells g7 32 [.i ((ST32.un x1).1), .i ((ST32.un x1).2.1), .sl ch_0_0.2.2.1 ((ST32.un x1).2.2).length ch_0_0.2.2.2 (SR32 ch_0_0.2.2.1 ((ST32.un x1).2.2))]] a w ∧ fd8_.l1 k self0 x1 x2 x3 q1 y1 y2 = some r) ?_ ?_ (k := k) ⟨_, 0, (wr .i64 (x3 + 1)), g1, (S.sb rfl (.c0 .n)), h2⟩
   ·rintro a w ⟨m, y1, y2, g7, S, h0⟩
    exact (nomatch (show (none : Option Bool) = some r from h0))
   ·clear S h2
    rintro q1 a w ⟨m, y1, y2, g7, S, h0⟩
    replace h0 : fd8_.b1 k self0 x1 x2 x3 (fd8_.l1 k self0 x1 x2 x3 q1) y1 y2 = some r := h0
    delta fd8_.b1 at h0
    refine wp_seq (c_region (s_move S rfl rfl fun a S => s_move S rfl rfl fun a S => s_move S rfl rfl fun a S => ?_))
    obtain ⟨c8, h1⟩ := chk_of h0; clear h0
    refine s_iaddrS S rfl rfl rfl underlying38 T56 c8.1 c8.2 rfl fun p7 a S => s_faddrP S (tF := yi) (y := (gt x2 x3).2.2) rfl I56_2 T3 (by decide) (fun m h => (at_snd (at_snd (at_0 h)))) rfl fun a S => s_ld1 S (v := (.int .i64 ((gt x2 x3).2.2))) rfl T3 (fun _ => rfl) rfl fun a S => s_bin S rfl rfl rfl rfl fun a S => c_end ?_
    rcases ite_of h1 with ⟨c9, h2⟩ | ⟨c9, h2⟩
    ·refine c_condT S rfl c9 (wp_skip (x_thenN (wp_seq (wp_block (wp_seq (c_region (s_loada S rfl .h T32 (s' := [.i ((ST32.un x1).1), .i ((ST32.un x1).2.1), .sl ch_0_0.2.2.1 ((ST32.un x1).2.2).length ch_0_0.2.2.2 (SR32 ch_0_0.2.2.1 ((ST32.un x1).2.2))]) rfl rfl fun a S => s_move S rfl rfl fun a S => bindX h2 fun t11 et11 h3 => s_callP S _ N52 rfl rfl (fd5_.ok x1 y1 ((), (), (ch_0_0.2.2.1, ch_0_0.2.2.2)) t11 et11 _ _) fun ch10 m le1 a w S => s_move S rfl rfl fun a S => s_move S rfl rfl fun a S => bindX h3 fun t12 et12 h4 => s_callP S _ N33 rfl rfl (c_0 t11 x2 y2 ((), (), (ch10.2.2.1, ch10.2.2.2)) ch_1_0 ch_1_1 t12 et12 _ _) fun ch11 m le1 a w S => c_end ?_)))))))
     rcases ite_of h4 with ⟨c10, h5⟩ | ⟨c10, h5⟩
     ·refine c_condT S rfl c10 (c_region (s_assign S rfl rfl fun a S => c_end (wp_ret (x_thenR (x_blockR (x_thenR (x_thenR (x_blockR (x_thenR ?_)))))))))
      obtain rfl := Option.some.inj h5
      exact b_ret1 (d := (.b true)) S rfl rfl (S.rt hb)
     ·refine c_condF S rfl c10 (wp_skip (x_thenN (c_region' (s_loada S rfl .h T32 (s' := [.i ((ST32.un x1).1), .i ((ST32.un x1).2.1), .sl ch_0_0.2.2.1 ((ST32.un x1).2.2).length ch_0_0.2.2.2 (SR32 ch_0_0.2.2.1 ((ST32.un x1).2.2))]) rfl rfl fun a S => s_move S rfl rfl fun a S => bindX h5 fun t13 et13 h6 => s_callP S _ N52 rfl rfl (fd5_.ok x1 y1 ((), (), (ch_0_0.2.2.1, ch_0_0.2.2.2)) t13 et13 _ _) fun ch12 m le1 a w S => s_move S rfl rfl fun a S => s_move S rfl rfl fun a S => bindX h6 fun t14 et14 h7 => s_callP S _ N32 rfl rfl (fc9_.ok k t13 x2 y2 ((), (), (ch12.2.2.1, ch12.2.2.2)) ch_1_0 ch_1_1 t14 et14 _ _) fun ch13 m le1 a w S => s_assign S rfl rfl fun a S => c_end' (x_blockN (x_thenN (c_region' (s_move S rfl rfl fun a S => s_bin S rfl rfl rfl rfl fun a S => s_assign S rfl rfl fun a S => c_end' (x_thenN ?_)))))))))
      exact ⟨_, (wr .i64 (y1 + 1)), t14, g7, (S.sb rfl (.c0 .n)), h7⟩
    ·refine c_condF S rfl c9 (wp_exit (x_thenX (x_thenX (x_blockX (x_thenN ?_)))))
     exact j1 _ a w (S.sub trivial .nil) h2
def fd8_.f : Nat → fd8_.Ty
  | 0 => fun _ _ _ => none
  | k + 1 => fd8_.body (fd8_.f k) k
theorem fd8_.oks : ∀ k : Nat, fd8_.Ctr (fd8_.f k)
  | 0 => fun _ _ _ _ _ _ r h0 => (nomatch (show (none : Option Bool) = some r from h0))
  | k + 1 => by
    have ih := fd8_.oks k
    exact fd8_.okb (fd8_.f k) ih k
theorem fd8_.ok (k : Nat) : fd8_.Ctr (fd8_.f k) := (fd8_.oks k)
abbrev fa6_.Ty : Type := (List Int) → Option ((List Int))
def fa6_.Ctr (s : fa6_.Ty) : Prop := ∀ (x1 : List Int) (r : (List Int)), Ct (C := Unit) Tryd.prog 55 (s x1 = some r) [] [(.agg [.ints .i64 x1 32])] (fun _ => (.a32 r)) fun _ => []
def fa6_.j1 (y1 : List Int) : Option ((List Int)) := some y1
def fa6_.b1 (x1 : List Int) (rec1 : Int → (List Int) → Option ((List Int))) (y4 : Int) (y5 : List Int) : Option ((List Int)) := if (decide (y4 < 32)) = true then (if (0 : Int) ≤ y4 ∧ y4 < 32 then (if (0 : Int) ≤ (wr .i64 (31 - y4)) ∧ (wr .i64 (31 - y4)) < 32 then (rec1 (wr .i64 (y4 + 1)) (y5.set (Int.toNat (wr .i64 (31 - y4))) (wr .u8 (rd x1 y4)))) else none) else none) else (fa6_.j1 y5)
def fa6_.l1 (x1 : List Int) : Nat → Int → (List Int) → Option ((List Int))
  | 0, _, _ => none
  | q + 1, y4, y5 => fa6_.b1 x1 (fa6_.l1 x1 q) y4 y5
def fa6_.f (k : Nat) (x1 : List Int) : Option ((List Int)) := fa6_.l1 x1 k 0 [0, 0, 0, 0, 0, 0, 0, 0, 0, 0, 0, 0, 0, 0, 0, 0, 0, 0, 0, 0, 0, 0, 0, 0, 0, 0, 0, 0, 0, 0, 0, 0]
theorem fa6_.ok (k : Nat) : fa6_.Ctr (fa6_.f k) := by
 intro x1 r h0 mi w0 ok hm
 delta fa6_.f at h0
 refine c_enterZ (n := 18) ok hm func55 rfl rfl rfl fun b0 hb a S => c_region (s_box S rfl rfl rfl fun g1 a w S => s_alloc S Z23 rfl ⟨rfl, trivial⟩ rfl fun g2 a w S => c_end (c_region (s_build S (ds := []) (dv := (.a32 z32)) rfl (fun _ => by kernel_rfl) ⟨rfl, trivial⟩ rfl fun a S => s_alloc S Z23 rfl ⟨rfl, trivial⟩ rfl fun g3 a w S => s_store S rfl rfl rfl (s' := [.b32 z32]) .h T23 rfl rfl fun w S => c_end (wp_seq_k fun K1 hK1 => ?_))))
 have j1 : ∀ m g13 g14 y1 a w, St 18 m b0 [(3, (.p g13)), (2, (.p g14))] [Res.cells g13 23 [.b32 y1], Res.cells g14 23 [.b32 z32]] a w → fa6_.j1 y1 = some r → K1 a w := by
  intro m g13 g14 y1 a w S h0
  delta fa6_.j1 at h0
  refine hK1 a w (c_region (s_loada S rfl .h T23 (s' := [.b32 y1]) rfl rfl fun a S => s_store S rfl rfl rfl (s' := [.b32 y1]) .h1 T23 rfl rfl fun w S => c_end (wp_ret ?_)))
  obtain rfl := Option.some.inj h0
  exact b_ret1 (d := (.a32 y1)) S rfl (resD_cell rfl .h1 T23 rfl rfl) (S.rt hb)
 refine c_region (s_assign S rfl rfl fun a S => c_end (wp_block ?_))
 refine c_loop (fun q1 a w => ∃ m y4 g21 g22 g23 y5, St 18 m b0 [(4, (.i y4)), (3, (.p g21)), (2, (.p g22)), (1, (.p g23))] [Res.cells g21 23 [.b32 y5], Res.cells g22 23 [.b32 z32], Res.cells g23 108 [.ints .i64 x1 32]] a w ∧ fa6_.l1 x1 q1 y4 y5 = some r) ?_ ?_ (k := k) ⟨_, 0, g3, g2, g1, z32, (S.sb rfl (.c0 (.c0 (.c0 .n)))), h0⟩
 ·rintro a w ⟨m, y4, g21, g22, g23, y5, S, h0⟩
  exact (nomatch (show (none : Option ((List Int))) = some r from h0))
 ·clear S h0
  rintro q1 a w ⟨m, y4, g21, g22, g23, y5, S, h0⟩
  replace h0 : fa6_.b1 x1 (fa6_.l1 x1 q1) y4 y5 = some r := h0
  delta fa6_.b1 at h0
  refine wp_seq (c_region (s_move S rfl rfl fun a S => s_bin S rfl rfl rfl rfl fun a S => c_end ?_))
  rcases ite_of h0 with ⟨c1, h1⟩ | ⟨c1, h1⟩
  ·refine c_condT S rfl c1 (wp_skip (x_thenN (wp_seq (wp_block (c_region' (s_move S rfl rfl fun a S => s_bin S rfl rfl rfl rfl fun a S => s_move S rfl rfl fun a S => ?_))))))
   obtain ⟨c2, h2⟩ := chk_of h1; clear h1
   refine s_iaddr S rfl rfl underlying108 T3 c2.1 c2.2 (mul1 _ _) rfl fun a S => s_loadi S (i := y4) rfl .h2 T3 .h rfl c2.1 c2.2 rfl fun a S => s_conv S rfl rfl underlying5 rfl fun a S => ?_
   obtain ⟨c3, h3⟩ := chk_of h2; clear h2
   refine s_iaddr S rfl rfl underlying23 T5 c3.1 c3.2 (mul1 _ _) rfl fun a S => s_storei S (i := (wr .i64 (31 - y4))) rfl rfl .h T5 .h rfl c3.1 c3.2 fun w S => c_end' (x_blockN (x_thenN (c_region' (s_move S rfl rfl fun a S => s_bin S rfl rfl rfl rfl fun a S => s_assign S rfl rfl fun a S => c_end' (x_thenN ?_)))))
   exact ⟨_, (wr .i64 (y4 + 1)), g21, g22, g23, (y5.set (Int.toNat (wr .i64 (31 - y4))) (wr .u8 (rd x1 y4))), (S.sb rfl (.c0 (.c0 (.c0 .n)))), h3⟩
  ·refine c_condF S rfl c1 (wp_exit (x_thenX (x_thenX (x_blockX (x_thenN ?_)))))
   exact j1 _ g21 g22 y5 a w (S.sb rfl (.c0 (.c0 .n))) h1
abbrev fb2_.Ty : Type := Int → Option ((List Int))
def fb2_.Ctr (s : fb2_.Ty) : Prop := ∀ (x1 : Int) (r : (List Int)), Ct (C := ((Option Addr) × Nat × Nat)) Tryd.prog 56 (s x1 = some r) [] [(.i x1)] (fun ch => (.s ch.1 ch.2.1 ch.2.2)) fun ch => [Res.row yb 5 ch.1 ch.2.1 ch.2.2 r]
def fb2_.f (k : Nat) (x1 : Int) : Option ((List Int)) := (fe5_.f k [wr .u64 x1, 0, 0, 0]).bind fun t1 => ((fa6_.f k t1).bind fun t2 => (if ((([] : List Int)).length + (((t2).drop 0).take 32).length) * 1 ≤ 140737488355328 then (some (([] : List Int) ++ (((t2).drop 0).take 32))) else none))
theorem fb2_.ok (k : Nat) : fb2_.Ctr (fb2_.f k) := by
 intro x1 r h0 mi w0 ok hm
 delta fb2_.f at h0
 refine c_enterZ (n := 15) ok hm func56 rfl rfl rfl fun b0 hb a S => c_region (s_assign S rfl rfl fun a S => c_end (c_region (s_move S rfl rfl fun a S => s_conv S rfl rfl underlying52 rfl fun a S => s_build S (ds := [(0, (.w (wr .u64 x1)))]) (dv := (.a4 [wr .u64 x1, 0, 0, 0])) rfl (fun _ => by kernel_rfl) ⟨rfl, trivial⟩ rfl fun a S => bindX h0 fun t1 et1 h1 => s_callP S _ N53 rfl rfl (fe5_.ok k [wr .u64 x1, 0, 0, 0] t1 et1 _ _) fun ch1 m le1 a w S => bindX h1 fun t2 et2 h2 => s_callP S _ N55 rfl rfl (fa6_.ok k t1 t2 et2 _ _) fun ch2 m le1 a w S => s_alloc S Z23 rfl ⟨rfl, trivial⟩ rfl fun g1 a w S => s_store S rfl rfl rfl (s' := [.b32 t2]) .h T23 rfl rfl fun w S => c_end (c_region (s_bldSl S (ty' := yb) (ds := []) (z := 0) (c0 := ()) (ys := ([] : List Int)) (cs := []) rfl underlying26 J5 Z5 rfl ⟨rfl, trivial⟩ rfl rfl rfl rfl rfl rfl fun g2 a w S => s_assign S rfl rfl fun a S => c_end (c_region (s_move S rfl rfl fun a S => s_sliceA S (i := 0) (j := 32) (o' := 0) (len := 32) (cap := 32) rfl underlying23 T5 (.inl ⟨rfl, rfl⟩) (.inl ⟨rfl, rfl⟩) (by decide) rfl rfl rfl rfl fun a S => ?_)))))))
 replace S := S.freeze .h1
 obtain ⟨m, le1, S⟩ := S
 replace S := (S.slup' (u := 12) (lo := 0) (c := 32) (ys := ((t2).drop 0).take 32) rfl (Pull.mem .h1).1 .h (.inl rfl) (by decide) (by decide) rfl).2
 obtain ⟨c1, h3⟩ := chk_of h2; clear h2
 refine s_app S (k2 := ((((t2).drop 0).take 32).length)) (ys := (((t2).drop 0).take 32)) rfl (fun _ _ => .h) rfl rfl rfl (RdS.src (S.get 12 (.q yb (ad g1) 32 (((t2).drop 0).take 32)) rfl).2.2.2.1 (by decide) S.frz) underlying26 J5 c1 rfl fun A1 cp1 a w S => s_assign S rfl rfl fun a S => c_end (c_region (s_move S rfl rfl fun a S => s_assign S rfl rfl fun a S => c_end (wp_ret ?_)))
 obtain rfl := Option.some.inj h3
 exact b_ret1 (d := (.s A1 (0 + ((((t2).drop 0).take 32).length)) cp1)) S rfl rfl fun ok => S.retX (Hx := []) hb _ _ ((A1, 0 + ((((t2).drop 0).take 32).length), cp1) : (Option Addr) × Nat × Nat) (.c0 .n) ok
abbrev fc3_.Ty : Type := ST32 → L38 → Int → Option ((List Int))
def fc3_.Ctr (s : fc3_.Ty) : Prop := ∀ (x1 : ST32) (x2 : L38) (x3 : Int) (ch_0_0 : Unit × Unit × (Option Addr × Nat)) (ch_1_0 : Option Addr) (ch_1_1 : Nat) (r : (List Int)), Ct (C := ((Option Addr) × Nat × Nat)) Tryd.prog 34 (s x1 x2 x3 = some r) [] [(.agg [.i ((ST32.un x1).1), .i ((ST32.un x1).2.1), .sl ch_0_0.2.2.1 ((ST32.un x1).2.2).length ch_0_0.2.2.2 (SR32 ch_0_0.2.2.1 ((ST32.un x1).2.2))]), (.q Y56 ch_1_0 ch_1_1 x2), (.i x3)] (fun ch => (.s ch.1 ch.2.1 ch.2.2)) fun ch => [Res.row yb 5 ch.1 ch.2.1 ch.2.2 r]
def fc3_.j4 (y16 : List Int) (y17 : List Int) (y18 : List Int) : Option ((List Int)) := if ((y18).length + (y17).length) * 1 ≤ 140737488355328 then (if ((y18 ++ y17).length + (y16).length) * 1 ≤ 140737488355328 then (some ((y18 ++ y17) ++ y16)) else none) else none
def fc3_.j3 (k : Nat) (x1 : ST32) (x2 : L38) (x3 : Int) (y16 : List Int) (y17 : List Int) : Option ((List Int)) := if (((ST32.un x1).1) == 4) = true then ((fb2_.f k ((gt x2 x3).2.2)).bind fun t4 => (fc3_.j4 y16 y17 t4)) else (fc3_.j4 y16 y17 ([] : List Int))
def fc3_.j5 (y29 : Int) (rec1 : Int → Int → (List Int) → (List Int) → Option ((List Int))) (y33 : List Int) (y34 : List Int) (y35 : Int) : Option ((List Int)) := rec1 (wr .i64 (y29 + 1)) y35 y33 y34
def fc3_.b1 (k : Nat) (self0 : fc3_.Ty) (x1 : ST32) (x2 : L38) (x3 : Int) (y1 : Int) (rec1 : Int → Int → (List Int) → (List Int) → Option ((List Int))) (y29 : Int) (y30 : Int) (y31 : List Int) (y32 : List Int) : Option ((List Int)) := if (decide (y29 < ((gt x2 x3).2.2))) = true then ((fd5_.f x1 y29).bind fun t10 => ((self0 t10 x2 y30).bind fun t11 => ((fc9_.f k t10 x2 y30).bind fun t12 => ((fa5_.f k t10).bind fun t13 => (if t13 = true then ((fb2_.f k (wr .i64 (y1 + ((y31).length : Int)))).bind fun t14 => (if ((y32).length + (t14).length) * 1 ≤ 140737488355328 then (if ((y31).length + (t11).length) * 1 ≤ 140737488355328 then (fc3_.j5 y29 rec1 (y31 ++ t11) (y32 ++ t14) t12) else none) else none)) else (if ((y32).length + (t11).length) * 1 ≤ 140737488355328 then (fc3_.j5 y29 rec1 y31 (y32 ++ t11) t12) else none)))))) else (fc3_.j3 k x1 x2 x3 y31 y32)
def fc3_.l1 (k : Nat) (self0 : fc3_.Ty) (x1 : ST32) (x2 : L38) (x3 : Int) (y1 : Int) : Nat → Int → Int → (List Int) → (List Int) → Option ((List Int))
  | 0, _, _, _, _ => none
  | q + 1, y29, y30, y31, y32 => fc3_.b1 k self0 x1 x2 x3 y1 (fc3_.l1 k self0 x1 x2 x3 y1 q) y29 y30 y31 y32
def fc3_.j2 (k : Nat) (self0 : fc3_.Ty) (x1 : ST32) (x2 : L38) (x3 : Int) (y1 : Int) : Option ((List Int)) := fc3_.l1 k self0 x1 x2 x3 y1 k 0 (wr .i64 (x3 + 1)) ([] : List Int) ([] : List Int)
def fc3_.b2 (k : Nat) (self0 : fc3_.Ty) (x1 : ST32) (x2 : L38) (x3 : Int) (rec2 : Int → Int → Option ((List Int))) (y38 : Int) (y39 : Int) : Option ((List Int)) := if (decide (y38 < ((gt x2 x3).2.2))) = true then ((fd5_.f x1 y38).bind fun t19 => ((fc5_.f k t19).bind fun t20 => (rec2 (wr .i64 (y38 + 1)) (wr .i64 (y39 + t20))))) else (fc3_.j2 k self0 x1 x2 x3 y39)
def fc3_.l2 (k : Nat) (self0 : fc3_.Ty) (x1 : ST32) (x2 : L38) (x3 : Int) : Nat → Int → Int → Option ((List Int))
  | 0, _, _ => none
  | q + 1, y38, y39 => fc3_.b2 k self0 x1 x2 x3 (fc3_.l2 k self0 x1 x2 x3 q) y38 y39
def fc3_.j1 (k : Nat) (self0 : fc3_.Ty) (x1 : ST32) (x2 : L38) (x3 : Int) : Option ((List Int)) := fc3_.l2 k self0 x1 x2 x3 k 0 0
def fc3_.j6 (y42 : List Int) : Option ((List Int)) := some y42
def fc3_.b3 (rec3 : (List Int) → Option ((List Int))) (y44 : List Int) : Option ((List Int)) := if ((Int.tmod ((y44).length : Int) 32) != 0) = true then (if ((y44).length + ([0]).length) * 1 ≤ 140737488355328 then (rec3 (y44 ++ [0])) else none) else (fc3_.j6 y44)
def fc3_.l3 : Nat → (List Int) → Option ((List Int))
  | 0, _ => none
  | q + 1, y44 => fc3_.b3 (fc3_.l3 q) y44
def fc3_.body (self0 : fc3_.Ty) (k : Nat) (x1 : ST32) (x2 : L38) (x3 : Int) : Option ((List Int)) := if (0 : Int) ≤ x3 ∧ x3 < ((x2).length : Int) then (if (decide (((ST32.un x1).1) < 3)) = true then ((fe5_.f k ((gt x2 x3).1)).bind fun t1 => ((fa6_.f k t1).bind fun t2 => (if ((([] : List Int)).length + (((t2).drop 0).take 32).length) * 1 ≤ 140737488355328 then (some (([] : List Int) ++ (((t2).drop 0).take 32))) else none))) else (if (((ST32.un x1).1) == 3) = true then ((fb2_.f k (((gt x2 x3).2.1).length : Int)).bind fun t21 => (if ((t21).length + ((gt x2 x3).2.1).length) * 1 ≤ 140737488355328 then (fc3_.l3 k (t21 ++ ((gt x2 x3).2.1))) else none)) else (fc3_.j1 k self0 x1 x2 x3))) else none
theorem fc3_.okb (self0 : fc3_.Ty) (c_0 : fc3_.Ctr self0) (k : Nat) : fc3_.Ctr (fc3_.body self0 k) := by
 intro x1 x2 x3 ch_0_0 ch_1_0 ch_1_1 r h0 mi w0 ok hm
 delta fc3_.body at h0
 refine c_enterZ (n := 117) ok hm func34 rfl rfl rfl fun b0 hb a S => c_region (s_box S rfl rfl rfl fun g1 a w S => s_assign S rfl rfl fun a S => c_end (c_region (s_move S rfl rfl fun a S => s_move S rfl rfl fun a S => ?_)))
 obtain ⟨c1, h1⟩ := chk_of h0; clear h0
 refine s_iaddrS S rfl rfl rfl underlying38 T56 c1.1 c1.2 rfl fun p1 a S => s_ldA S (fun (c : Unit × (Option Addr × Nat) × Unit) => (Y56.segs (gt x2 x3) c)) rfl T56 (fun _ => rfl) rfl fun ch1 a S => ?_
 refine s_alloc S Z56 rfl ⟨rfl, rfl, rfl, trivial⟩ rfl fun g2 a w S => s_store S rfl rfl rfl (s' := [.w4 ((gt x2 x3).1), .q yb ch1.2.1.1 ch1.2.1.2 ((gt x2 x3).2.1), .i ((gt x2 x3).2.2)]) .h T56 rfl rfl fun w S => c_end (wp_seq (c_region (s_fieldAddr S rfl I32_0 T3 (by decide) rfl rfl fun a S => s_load1 S rfl .h1 T3 (v := (.int .i64 ((ST32.un x1).1))) rfl rfl fun a S => s_bin S rfl rfl rfl rfl fun a S => c_end ?_)))
 rcases ite_of h1 with ⟨c2, h2⟩ | ⟨c2, h2⟩
 ·refine c_condT S rfl c2 (c_region (s_fieldAddr S rfl I56_0 T54 (by decide) rfl rfl fun a S => s_loada S rfl .h T54 (s' := [.w4 ((gt x2 x3).1)]) rfl rfl fun a S => bindX h2 fun t1 et1 h3 => s_callP S _ N53 rfl rfl (fe5_.ok k ((gt x2 x3).1) t1 et1 _ _) fun ch2 m le1 a w S => bindX h3 fun t2 et2 h4 => s_callP S _ N55 rfl rfl (fa6_.ok k t1 t2 et2 _ _) fun ch3 m le1 a w S => s_alloc S Z23 rfl ⟨rfl, trivial⟩ rfl fun g3 a w S => s_store S rfl rfl rfl (s' := [.b32 t2]) .h T23 rfl rfl fun w S => c_end (c_region (s_bldSl S (ty' := yb) (ds := []) (z := 0) (c0 := ()) (ys := ([] : List Int)) (cs := []) rfl underlying26 J5 Z5 rfl ⟨rfl, trivial⟩ rfl rfl rfl rfl rfl rfl fun g4 a w S => s_assign S rfl rfl fun a S => c_end (c_region (s_move S rfl rfl fun a S => s_sliceA S (i := 0) (j := 32) (o' := 0) (len := 32) (cap := 32) rfl underlying23 T5 (.inl ⟨rfl, rfl⟩) (.inl ⟨rfl, rfl⟩) (by decide) rfl rfl rfl rfl fun a S => ?_))))))
  replace S := S.freeze .h1
  obtain ⟨m, le1, S⟩ := S
  replace S := (S.slup' (u := 33) (lo := 0) (c := 32) (ys := ((t2).drop 0).take 32) rfl (Pull.mem .h1).1 .h (.inl rfl) (by decide) (by decide) rfl).2
  obtain ⟨c3, h5⟩ := chk_of h4; clear h4
  refine s_app S (k2 := ((((t2).drop 0).take 32).length)) (ys := (((t2).drop 0).take 32)) rfl (fun _ _ => .h) rfl rfl rfl (RdS.src (S.get 33 (.q yb (ad g3) 32 (((t2).drop 0).take 32)) rfl).2.2.2.1 (by decide) S.frz) underlying26 J5 c3 rfl fun A1 cp1 a w S => s_assign S rfl rfl fun a S => c_end (c_region (s_move S rfl rfl fun a S => s_assign S rfl rfl fun a S => c_end (wp_ret (x_thenR ?_))))
  obtain rfl := Option.some.inj h5
  exact b_ret1 (d := (.s A1 (0 + ((((t2).drop 0).take 32).length)) cp1)) S rfl rfl fun ok => S.retX (Hx := []) hb _ _ ((A1, 0 + ((((t2).drop 0).take 32).length), cp1) : (Option Addr) × Nat × Nat) (.c0 .n) ok
 ·refine c_condF S rfl c2 (wp_skip (x_thenN (wp_seq_k fun K1 hK1 => ?_)))
  have j1 : ∀ m g5 g6 A2 cp2 a w, St 117 m b0 [(7, (.p g5)), (3, (.p g6)), (1, (.q Y56 ch_1_0 ch_1_1 x2)), (2, (.i x3))] [Res.cells g5 56 (Y56.segs (gt x2 x3) ((), (A2, cp2), ())), Res.cells g6 32 [.i ((ST32.un x1).1), .i ((ST32.un x1).2.1), .sl ch_0_0.2.2.1 ((ST32.un x1).2.2).length ch_0_0.2.2.2 (SR32 ch_0_0.2.2.1 ((ST32.un x1).2.2))]] a w → fc3_.j1 k self0 x1 x2 x3 = some r → K1 a w := by
   intro m g5 g6 A2 cp2 a w S h0
   delta fc3_.j1 at h0
   refine hK1 a w (c_region (s_assign S rfl rfl fun a S => c_end (wp_seq_k fun K2 hK2 => ?_)))
   have j2 : ∀ m y1 g13 g14 a w, St 117 m b0 [(11, (.i y1)), (7, (.p g13)), (3, (.p g14)), (1, (.q Y56 ch_1_0 ch_1_1 x2)), (2, (.i x3))] [Res.cells g13 56 (Y56.segs (gt x2 x3) ((), (A2, cp2), ())), Res.cells g14 32 [.i ((ST32.un x1).1), .i ((ST32.un x1).2.1), .sl ch_0_0.2.2.1 ((ST32.un x1).2.2).length ch_0_0.2.2.2 (SR32 ch_0_0.2.2.1 ((ST32.un x1).2.2))]] a w → fc3_.j2 k self0 x1 x2 x3 y1 = some r → K2 a w := by
    intro m y1 g13 g14 a w S h0
    delta fc3_.j2 at h0
    refine hK2 a w (c_region (s_bldSl S (ty' := yb) (ds := []) (z := 0) (c0 := ()) (ys := ([] : List Int)) (cs := []) rfl underlying26 J5 Z5 rfl ⟨rfl, trivial⟩ rfl rfl rfl rfl rfl rfl fun g15 a w S => s_assign S rfl rfl fun a S => c_end (c_region (s_bldSl S (ty' := yb) (ds := []) (z := 0) (c0 := ()) (ys := ([] : List Int)) (cs := []) rfl underlying26 J5 Z5 rfl ⟨rfl, trivial⟩ rfl rfl rfl rfl rfl rfl fun g16 a w S => s_assign S rfl rfl fun a S => c_end (c_region (s_move S rfl rfl fun a S => s_bin S rfl rfl rfl rfl fun a S => s_assign S rfl rfl fun a S => c_end (wp_seq_k fun K3 hK3 => ?_)))))))
    have j3 : ∀ m A3 nn1 cp17 y16 A4 nn2 cp18 y17 g29 g30 a w, St 117 m b0 [(14, (.s A3 nn1 cp17)), (13, (.s A4 nn2 cp18)), (7, (.p g29)), (3, (.p g30))] [Res.row yb 5 A3 nn1 cp17 y16, Res.row yb 5 A4 nn2 cp18 y17, Res.cells g29 56 (Y56.segs (gt x2 x3) ((), (A2, cp2), ())), Res.cells g30 32 [.i ((ST32.un x1).1), .i ((ST32.un x1).2.1), .sl ch_0_0.2.2.1 ((ST32.un x1).2.2).length ch_0_0.2.2.2 (SR32 ch_0_0.2.2.1 ((ST32.un x1).2.2))]] a w → fc3_.j3 k x1 x2 x3 y16 y17 = some r → K3 a w := by
     intro m A3 nn1 cp17 y16 A4 nn2 cp18 y17 g29 g30 a w S h0
     delta fc3_.j3 at h0
     refine hK3 a w (c_region (s_bldSl S (ty' := yb) (ds := []) (z := 0) (c0 := ()) (ys := ([] : List Int)) (cs := []) rfl underlying26 J5 Z5 rfl ⟨rfl, trivial⟩ rfl rfl rfl rfl rfl rfl fun g31 a w S => s_assign S rfl rfl fun a S => c_end (wp_seq_k fun K4 hK4 => ?_)))
     have j4 : ∀ m A5 nn3 cp19 y18 a w, St 117 m b0 [(19, (.s A5 nn3 cp19)), (14, (.s A3 nn1 cp17)), (13, (.s A4 nn2 cp18))] [Res.row yb 5 A5 nn3 cp19 y18, Res.row yb 5 A3 nn1 cp17 y16, Res.row yb 5 A4 nn2 cp18 y17] a w → fc3_.j4 y16 y17 y18 = some r → K4 a w := by
      intro m A5 nn3 cp19 y18 a w S h0
      delta fc3_.j4 at h0
      refine hK4 a w (c_region (s_move S rfl rfl fun a S => s_move S rfl rfl fun a S => ?_))
      obtain ⟨c4, h1⟩ := chk_of h0; clear h0
      refine s_app S (k2 := nn2) (ys := y17) rfl (fun _ _ => .h) rfl rfl (S.holds _ (Pull.mem .h2).1).1 (Res.row.src (S.holds _ (Pull.mem .h2).1)) underlying26 J5 c4 rfl fun A6 cp20 a w S => s_assign S rfl rfl fun a S => c_end (c_region (s_move S rfl rfl fun a S => s_move S rfl rfl fun a S => ?_))
      obtain ⟨c5, h2⟩ := chk_of h1; clear h1
      refine s_app S (k2 := nn1) (ys := y16) rfl (fun _ _ => .h) rfl rfl (S.holds _ (Pull.mem .h1).1).1 (Res.row.src (S.holds _ (Pull.mem .h1).1)) underlying26 J5 c5 rfl fun A7 cp21 a w S => s_assign S rfl rfl fun a S => c_end (c_region (s_move S rfl rfl fun a S => s_assign S rfl rfl fun a S => c_end (wp_ret ?_)))
      obtain rfl := Option.some.inj h2
      exact b_ret1 (d := (.s A7 ((nn3 + nn2) + nn1) cp21)) S rfl rfl fun ok => S.retX (Hx := []) hb _ _ ((A7, (nn3 + nn2) + nn1, cp21) : (Option Addr) × Nat × Nat) (.c0 .n) ok
     refine c_region (s_fieldAddr S rfl I32_0 T3 (by decide) rfl rfl fun a S => s_load1 S rfl .h4 T3 (v := (.int .i64 ((ST32.un x1).1))) rfl rfl fun a S => s_bin S rfl rfl rfl rfl fun a S => c_end ?_)
     rcases ite_of h0 with ⟨c6, h1⟩ | ⟨c6, h1⟩
     ·refine c_condT S rfl c6 (c_region' (s_fieldAddr S rfl I56_2 T3 (by decide) rfl rfl fun a S => s_load1 S rfl .h3 T3 (v := (.int .i64 ((gt x2 x3).2.2))) rfl rfl fun a S => bindX h1 fun t4 et4 h2 => s_callR S (fun (ch : (Option Addr) × Nat × Nat) => ((.s ch.1 ch.2.1 ch.2.2) : D)) (fun (ch : (Option Addr) × Nat × Nat) => Res.row yb 5 ch.1 ch.2.1 ch.2.2 t4) N56 rfl rfl (fb2_.ok k ((gt x2 x3).2.2) t4 et4 _ _) fun ch5 m le1 a w S => s_assign S rfl rfl fun a S => c_end' (x_thenN ?_)))
      exact j4 _ ch5.1 ch5.2.1 ch5.2.2 t4 a w (S.sb rfl (.c0 (.c1 (.c1 .n)))) h2
     ·refine c_condF S rfl c6 (wp_skip (x_thenN ?_))
      exact j4 _ (ad g31) 0 0 ([] : List Int) a w (S.sb rfl (.c0 (.c0 (.c0 .n)))) h1
    refine c_region (s_assign S rfl rfl fun a S => c_end (wp_block ?_))
    refine c_loop (fun q1 a w => ∃ m y29 y30 A8 nn10 cp34 y31 A9 nn11 cp35 y32 g42 g43, St 117 m b0 [(16, (.i y29)), (15, (.i y30)), (14, (.s A8 nn10 cp34)), (13, (.s A9 nn11 cp35)), (11, (.i y1)), (7, (.p g42)), (3, (.p g43)), (1, (.q Y56 ch_1_0 ch_1_1 x2))] [Res.row yb 5 A8 nn10 cp34 y31, Res.row yb 5 A9 nn11 cp35 y32, Res.cells g42 56 (Y56.segs (gt x2 x3) ((), (A2, cp2), ())), Res.cells g43 32 [.i ((ST32.un x1).1), .i ((ST32.un x1).2.1), .sl ch_0_0.2.2.1 ((ST32.un x1).2.2).length ch_0_0.2.2.2 (SR32 ch_0_0.2.2.1 ((ST32.un x1).2.2))]] a w ∧ fc3_.l1 k self0 x1 x2 x3 y1 q1 y29 y30 y31 y32 = some r) ?_ ?_ (k := k) ⟨_, 0, (wr .i64 (x3 + 1)), (ad g16), 0, 0, ([] : List Int), (ad g15), 0, 0, ([] : List Int), g13, g14, (S.sb rfl (.c0 (.c0 (.c0 (.c0 .n))))), h0⟩
    ·rintro a w ⟨m, y29, y30, A8, nn10, cp34, y31, A9, nn11, cp35, y32, g42, g43, S, h0⟩
     exact (nomatch (show (none : Option ((List Int))) = some r from h0))
    ·clear S h0
     rintro q1 a w ⟨m, y29, y30, A8, nn10, cp34, y31, A9, nn11, cp35, y32, g42, g43, S, h0⟩
     replace h0 : fc3_.b1 k self0 x1 x2 x3 y1 (fc3_.l1 k self0 x1 x2 x3 y1 q1) y29 y30 y31 y32 = some r := h0
     delta fc3_.b1 at h0
     refine wp_seq (c_region (s_move S rfl rfl fun a S => s_fieldAddr S rfl I56_2 T3 (by decide) rfl rfl fun a S => s_load1 S rfl .h2 T3 (v := (.int .i64 ((gt x2 x3).2.2))) rfl rfl fun a S => s_bin S rfl rfl rfl rfl fun a S => c_end ?_))
     rcases ite_of h0 with ⟨c7, h1⟩ | ⟨c7, h1⟩
     ·refine c_condT S rfl c7 (wp_skip (x_thenN (wp_seq_k fun K5 hK5 => ?_)))
      have j5 : ∀ m A10 nn12 cp39 y33 A11 nn13 cp40 y34 y35 g45 g46 a w, St 117 m b0 [(14, (.s A10 nn12 cp39)), (13, (.s A11 nn13 cp40)), (15, (.i y35)), (16, (.i y29)), (11, (.i y1)), (7, (.p g45)), (3, (.p g46)), (1, (.q Y56 ch_1_0 ch_1_1 x2))] [Res.row yb 5 A10 nn12 cp39 y33, Res.row yb 5 A11 nn13 cp40 y34, Res.cells g45 56 (Y56.segs (gt x2 x3) ((), (A2, cp2), ())), Res.cells g46 32 [.i ((ST32.un x1).1), .i ((ST32.un x1).2.1), .sl ch_0_0.2.2.1 ((ST32.un x1).2.2).length ch_0_0.2.2.2 (SR32 ch_0_0.2.2.1 ((ST32.un x1).2.2))]] a w → fc3_.j5 y29 (fc3_.l1 k self0 x1 x2 x3 y1 q1) y33 y34 y35 = some r → K5 a w := by
       intro m A10 nn12 cp39 y33 A11 nn13 cp40 y34 y35 g45 g46 a w S h0
       delta fc3_.j5 at h0
       refine hK5 a w (c_region' (s_move S rfl rfl fun a S => s_bin S rfl rfl rfl rfl fun a S => s_assign S rfl rfl fun a S => c_end' (x_thenN ?_)))
       exact ⟨_, (wr .i64 (y29 + 1)), y35, A10, nn12, cp39, y33, A11, nn13, cp40, y34, g45, g46, (S.sb rfl (.c0 (.c0 (.c0 (.c0 .n))))), h0⟩
      refine wp_block (c_region (s_loada S rfl .h3 T32 (s' := [.i ((ST32.un x1).1), .i ((ST32.un x1).2.1), .sl ch_0_0.2.2.1 ((ST32.un x1).2.2).length ch_0_0.2.2.2 (SR32 ch_0_0.2.2.1 ((ST32.un x1).2.2))]) rfl rfl fun a S => s_move S rfl rfl fun a S => bindX h1 fun t10 et10 h2 => s_callP S _ N52 rfl rfl (fd5_.ok x1 y29 ((), (), (ch_0_0.2.2.1, ch_0_0.2.2.2)) t10 et10 _ _) fun ch11 m le1 a w S => s_alloc S Z32 rfl ⟨rfl, rfl, rfl, trivial⟩ rfl fun g47 a w S => s_store S rfl rfl rfl (s' := [.i ((ST32.un t10).1), .i ((ST32.un t10).2.1), .sl ch11.2.2.1 ((ST32.un t10).2.2).length ch11.2.2.2 (SR32 ch11.2.2.1 ((ST32.un t10).2.2))]) .h T32 rfl rfl fun w S => c_end (c_region (s_loada S rfl .h T32 (s' := [.i ((ST32.un t10).1), .i ((ST32.un t10).2.1), .sl ch11.2.2.1 ((ST32.un t10).2.2).length ch11.2.2.2 (SR32 ch11.2.2.1 ((ST32.un t10).2.2))]) rfl rfl fun a S => s_move S rfl rfl fun a S => s_move S rfl rfl fun a S => bindX h2 fun t11 et11 h3 => s_callR S (fun (ch : (Option Addr) × Nat × Nat) => ((.s ch.1 ch.2.1 ch.2.2) : D)) (fun (ch : (Option Addr) × Nat × Nat) => Res.row yb 5 ch.1 ch.2.1 ch.2.2 t11) N34 rfl rfl (c_0 t10 x2 y30 ((), (), (ch11.2.2.1, ch11.2.2.2)) ch_1_0 ch_1_1 t11 et11 _ _) fun ch12 m le1 a w S => s_assign S rfl rfl fun a S => c_end (c_region (s_loada S rfl .h1 T32 (s' := [.i ((ST32.un t10).1), .i ((ST32.un t10).2.1), .sl ch11.2.2.1 ((ST32.un t10).2.2).length ch11.2.2.2 (SR32 ch11.2.2.1 ((ST32.un t10).2.2))]) rfl rfl fun a S => s_move S rfl rfl fun a S => s_move S rfl rfl fun a S => bindX h3 fun t12 et12 h4 => s_callP S _ N32 rfl rfl (fc9_.ok k t10 x2 y30 ((), (), (ch11.2.2.1, ch11.2.2.2)) ch_1_0 ch_1_1 t12 et12 _ _) fun ch13 m le1 a w S => s_assign S rfl rfl fun a S => c_end (c_region (s_loada S rfl .h1 T32 (s' := [.i ((ST32.un t10).1), .i ((ST32.un t10).2.1), .sl ch11.2.2.1 ((ST32.un t10).2.2).length ch11.2.2.2 (SR32 ch11.2.2.1 ((ST32.un t10).2.2))]) rfl rfl fun a S => bindX h4 fun t13 et13 h5 => s_callP S _ N15 rfl rfl (fa5_.ok k t10 ((), (), (ch11.2.2.1, ch11.2.2.2)) t13 et13 _ _) fun ch14 m le1 a w S => c_end ?_))))))))
      rcases ite_of h5 with ⟨c8, h6⟩ | ⟨c8, h6⟩
      ·refine c_condT S rfl c8 (c_region (s_move S rfl rfl fun a S => s_move S rfl rfl fun a S => s_move S rfl rfl fun a S => s_lenO S rfl .h2 underlying26 rfl fun a S => s_bin S rfl rfl rfl rfl fun a S => bindX h6 fun t14 et14 h7 => s_callR S (fun (ch : (Option Addr) × Nat × Nat) => ((.s ch.1 ch.2.1 ch.2.2) : D)) (fun (ch : (Option Addr) × Nat × Nat) => Res.row yb 5 ch.1 ch.2.1 ch.2.2 t14) N56 rfl rfl (fb2_.ok k (wr .i64 (y1 + ((y31).length : Int))) t14 et14 _ _) fun ch15 m le1 a w S => ?_))
       obtain ⟨c9, h8⟩ := chk_of h7; clear h7
       refine s_app S (k2 := ch15.2.1) (ys := t14) rfl (fun _ _ => .h4) rfl rfl (S.holds _ (Pull.mem .h).1).1 (Res.row.src (S.holds _ (Pull.mem .h).1)) underlying26 J5 c9 rfl fun A12 cp41 a w S => s_assign S rfl rfl fun a S => c_end (c_region' (s_move S rfl rfl fun a S => s_move S rfl rfl fun a S => ?_))
       obtain ⟨c10, h9⟩ := chk_of h8; clear h8
       refine s_app S (k2 := ch12.2.1) (ys := t11) rfl (fun _ _ => .h3) rfl rfl (S.holds _ (Pull.mem .h1).1).1 (Res.row.src (S.holds _ (Pull.mem .h1).1)) underlying26 J5 c10 rfl fun A13 cp42 a w S => s_assign S rfl rfl fun a S => c_end' (x_blockN (x_thenN ?_))
       exact j5 _ A13 (nn10 + ch12.2.1) cp42 (y31 ++ t11) A12 (nn11 + ch15.2.1) cp41 (y32 ++ t14) t12 g42 g43 a w (S.sb rfl (.c3 (.c3 (.c3 (.c3 .n))))) h9
      ·refine c_condF S rfl c8 (c_region' (s_move S rfl rfl fun a S => s_move S rfl rfl fun a S => ?_))
       obtain ⟨c11, h7⟩ := chk_of h6; clear h6
       refine s_app S (k2 := ch12.2.1) (ys := t11) rfl (fun _ _ => .h3) rfl rfl (S.holds _ (Pull.mem .h).1).1 (Res.row.src (S.holds _ (Pull.mem .h).1)) underlying26 J5 c11 rfl fun A14 cp43 a w S => s_assign S rfl rfl fun a S => c_end' (x_blockN (x_thenN ?_))
       exact j5 _ A8 nn10 cp34 y31 A14 (nn11 + ch12.2.1) cp43 (y32 ++ t11) t12 g42 g43 a w (S.sb rfl (.c2 (.c2 (.c2 (.c2 .n))))) h7
     ·refine c_condF S rfl c7 (wp_exit (x_thenX (x_thenX (x_blockX (x_thenN ?_)))))
      exact j3 _ A8 nn10 cp34 y31 A9 nn11 cp35 y32 g42 g43 a w (S.sb rfl (.c0 (.c0 (.c0 (.c0 .n))))) h1
   refine c_region (s_assign S rfl rfl fun a S => c_end (wp_block ?_))
   refine c_loop (fun q2 a w => ∃ m y38 y39 g52 g53, St 117 m b0 [(12, (.i y38)), (11, (.i y39)), (7, (.p g52)), (3, (.p g53)), (1, (.q Y56 ch_1_0 ch_1_1 x2)), (2, (.i x3))] [Res.cells g52 56 (Y56.segs (gt x2 x3) ((), (A2, cp2), ())), Res.cells g53 32 [.i ((ST32.un x1).1), .i ((ST32.un x1).2.1), .sl ch_0_0.2.2.1 ((ST32.un x1).2.2).length ch_0_0.2.2.2 (SR32 ch_0_0.2.2.1 ((ST32.un x1).2.2))]] a w ∧ fc3_.l2 k self0 x1 x2 x3 q2 y38 y39 = some r) ?_ ?_ (k := k) ⟨_, 0, 0, g5, g6, (S.sb rfl (.c0 (.c0 .n))), h0⟩
   ·rintro a w ⟨m, y38, y39, g52, g53, S, h0⟩
    exact (nomatch (show (none : Option ((List Int))) = some r from h0))
   ·clear S h0
    rintro q2 a w ⟨m, y38, y39, g52, g53, S, h0⟩
    replace h0 : fc3_.b2 k self0 x1 x2 x3 (fc3_.l2 k self0 x1 x2 x3 q2) y38 y39 = some r := h0
    delta fc3_.b2 at h0
    refine wp_seq (c_region (s_move S rfl rfl fun a S => s_fieldAddr S rfl I56_2 T3 (by decide) rfl rfl fun a S => s_load1 S rfl .h T3 (v := (.int .i64 ((gt x2 x3).2.2))) rfl rfl fun a S => s_bin S rfl rfl rfl rfl fun a S => c_end ?_))
    rcases ite_of h0 with ⟨c12, h1⟩ | ⟨c12, h1⟩
    ·refine c_condT S rfl c12 (wp_skip (x_thenN (wp_seq (wp_block (c_region' (s_move S rfl rfl fun a S => s_loada S rfl .h1 T32 (s' := [.i ((ST32.un x1).1), .i ((ST32.un x1).2.1), .sl ch_0_0.2.2.1 ((ST32.un x1).2.2).length ch_0_0.2.2.2 (SR32 ch_0_0.2.2.1 ((ST32.un x1).2.2))]) rfl rfl fun a S => s_move S rfl rfl fun a S => bindX h1 fun t19 et19 h2 => s_callP S _ N52 rfl rfl (fd5_.ok x1 y38 ((), (), (ch_0_0.2.2.1, ch_0_0.2.2.2)) t19 et19 _ _) fun ch18 m le1 a w S => bindX h2 fun t20 et20 h3 => s_callP S _ N14 rfl rfl (fc5_.ok k t19 ((), (), (ch18.2.2.1, ch18.2.2.2)) t20 et20 _ _) fun ch19 m le1 a w S => s_bin S rfl rfl rfl rfl fun a S => s_assign S rfl rfl fun a S => c_end' (x_blockN (x_thenN (c_region' (s_move S rfl rfl fun a S => s_bin S rfl rfl rfl rfl fun a S => s_assign S rfl rfl fun a S => c_end' (x_thenN ?_)))))))))))
     exact ⟨_, (wr .i64 (y38 + 1)), (wr .i64 (y39 + t20)), g52, g53, (S.sb rfl (.c0 (.c0 .n))), h3⟩
    ·refine c_condF S rfl c12 (wp_exit (x_thenX (x_thenX (x_blockX (x_thenN ?_)))))
     exact j2 _ y39 g52 g53 a w (S.sb rfl (.c0 (.c0 .n))) h1
  refine c_region (s_fieldAddr S rfl I32_0 T3 (by decide) rfl rfl fun a S => s_load1 S rfl .h1 T3 (v := (.int .i64 ((ST32.un x1).1))) rfl rfl fun a S => s_bin S rfl rfl rfl rfl fun a S => c_end ?_)
  rcases ite_of h2 with ⟨c13, h3⟩ | ⟨c13, h3⟩
  ·refine c_condT S rfl c13 (c_region (s_fieldAddr S rfl I56_1 T26 (by decide) rfl rfl fun a S => s_loadSl S rfl .h T26 (A := ch1.2.1.1) (len := ((gt x2 x3).2.1).length) (cap := ch1.2.1.2) rfl rfl fun a S => s_lenS S rfl underlying26 rfl fun a S => bindX h3 fun t21 et21 h4 => s_callR S (fun (ch : (Option Addr) × Nat × Nat) => ((.s ch.1 ch.2.1 ch.2.2) : D)) (fun (ch : (Option Addr) × Nat × Nat) => Res.row yb 5 ch.1 ch.2.1 ch.2.2 t21) N56 rfl rfl (fb2_.ok k (((gt x2 x3).2.1).length : Int) t21 et21 _ _) fun ch20 m le1 a w S => s_assign S rfl rfl fun a S => c_end (c_region (s_move S rfl rfl fun a S => s_fieldAddr S rfl I56_1 T26 (by decide) rfl rfl fun a S => s_loadSl S rfl .h1 T26 (A := ch1.2.1.1) (len := ((gt x2 x3).2.1).length) (cap := ch1.2.1.2) rfl rfl fun a S => ?_))))
   obtain ⟨c14, h5⟩ := chk_of h4; clear h4
   refine s_app S (k2 := (((gt x2 x3).2.1).length)) (ys := ((gt x2 x3).2.1)) rfl (fun _ _ => .h) rfl rfl rfl (RdS.src (S.get 45 (.q yb ch1.2.1.1 ch1.2.1.2 ((gt x2 x3).2.1)) rfl).2.2.2.1 (by decide) S.frz) underlying26 J5 c14 rfl fun A15 cp44 a w S => s_assign S rfl rfl fun a S => c_end (wp_seq_k fun K6 hK6 => ?_)
   have j6 : ∀ m A16 nn17 cp50 y42 a w, St 117 m b0 [(10, (.s A16 nn17 cp50))] [Res.row yb 5 A16 nn17 cp50 y42] a w → fc3_.j6 y42 = some r → K6 a w := by
    intro m A16 nn17 cp50 y42 a w S h0
    delta fc3_.j6 at h0
    refine hK6 a w (c_region (s_move S rfl rfl fun a S => s_assign S rfl rfl fun a S => c_end (wp_ret (x_thenR ?_))))
    obtain rfl := Option.some.inj h0
    exact b_ret1 (d := (.s A16 nn17 cp50)) S rfl rfl fun ok => S.retX (Hx := []) hb _ _ ((A16, nn17, cp50) : (Option Addr) × Nat × Nat) (.c0 .n) ok
   refine wp_block ?_
   refine c_loop (fun q3 a w => ∃ m A17 nn20 cp55 y44, St 117 m b0 [(10, (.s A17 nn20 cp55))] [Res.row yb 5 A17 nn20 cp55 y44] a w ∧ fc3_.l3 q3 y44 = some r) ?_ ?_ (k := k) ⟨_, A15, (ch20.2.1 + (((gt x2 x3).2.1).length)), cp44, (t21 ++ ((gt x2 x3).2.1)), (S.sub ⟨rfl, trivial⟩ (.c0 .n)), h5⟩
   ·rintro a w ⟨m, A17, nn20, cp55, y44, S, h0⟩
    exact (nomatch (show (none : Option ((List Int))) = some r from h0))
   ·clear S h5
    rintro q3 a w ⟨m, A17, nn20, cp55, y44, S, h0⟩
    replace h0 : fc3_.b3 (fc3_.l3 q3) y44 = some r := h0
    delta fc3_.b3 at h0
    refine wp_seq (c_region (s_move S rfl rfl fun a S => s_lenO S rfl .h underlying26 rfl fun a S => s_rem S rfl rfl (by decide) rfl fun a S => s_bin S rfl rfl rfl rfl fun a S => c_end ?_))
    rcases ite_of h0 with ⟨c15, h1⟩ | ⟨c15, h1⟩
    ·refine c_condT S rfl c15 (wp_skip (x_thenN (wp_block (c_region' (s_move S rfl rfl fun a S => s_bldSl S (ty' := yb) (ds := [(0, (.v (.int .u8 0)))]) (z := 0) (c0 := ()) (ys := [0]) (cs := [()]) rfl underlying26 J5 Z5 rfl ⟨rfl, trivial⟩ rfl rfl rfl rfl rfl rfl fun g56 a w S => ?_)))))
     obtain ⟨c16, h2⟩ := chk_of h1; clear h1
     refine s_app S (k2 := 1) (ys := [0]) rfl (fun _ _ => .h1) rfl rfl (S.holds _ (Pull.mem .h).1).1 (Res.row.src (S.holds _ (Pull.mem .h).1)) underlying26 J5 c16 rfl fun A18 cp56 a w S => s_assign S rfl rfl fun a S => c_end' (x_blockN (x_thenN ?_))
     exact ⟨_, A18, (nn20 + 1), cp56, (y44 ++ [0]), (S.sub ⟨rfl, trivial⟩ (.c1 .n)), h2⟩
    ·refine c_condF S rfl c15 (wp_exit (x_thenX (x_thenX (x_blockX (x_thenN ?_)))))
     exact j6 _ A17 nn20 cp55 y44 a w (S.sub ⟨rfl, trivial⟩ (.c0 .n)) h1
  ·refine c_condF S rfl c13 (wp_skip (x_thenN ?_))
   exact j1 _ g2 g1 ch1.2.1.1 ch1.2.1.2 a w (S.sb rfl (.c0 (.c0 .n))) h3
def fc3_.f : Nat → fc3_.Ty
  | 0 => fun _ _ _ => none
  | k + 1 => fc3_.body (fc3_.f k) k
theorem fc3_.oks : ∀ k : Nat, fc3_.Ctr (fc3_.f k)
  | 0 => fun _ _ _ _ _ _ r h0 => (nomatch (show (none : Option ((List Int))) = some r from h0))
  | k + 1 => by
    have ih := fc3_.oks k
    exact fc3_.okb (fc3_.f k) ih k
theorem fc3_.ok (k : Nat) : fc3_.Ctr (fc3_.f k) := (fc3_.oks k)
abbrev fa9_.Ty : Type := ByteArray → L38 → Option ((List Int) × Int)
def fa9_.Ctr (s : fa9_.Ty) : Prop := ∀ (x1 : ByteArray) (x2 : L38) (ch_1_0 : Option Addr) (ch_1_1 : Nat) (r : (List Int) × Int), Ct (C := ((Option Addr) × Nat × Nat)) Tryd.prog 18 (s x1 x2 = some r) [] [(.v (.string x1)), (.q Y56 ch_1_0 ch_1_1 x2)] (fun ch => (.tup [(false, [.s ch.1 ch.2.1 ch.2.2]), (false, [.i r.2])])) fun ch => [Res.row yb 5 ch.1 ch.2.1 ch.2.2 r.1]
def fa9_.j2 (k : Nat) (x2 : L38) (t1 : ST32 × Bool) (y2 : Bool) : Option ((List Int) × Int) := if y2 = true then (some (([] : List Int), 2)) else ((fd8_.f k t1.1 x2 0).bind fun t3 => (if t3 = true then (some (([] : List Int), 5)) else ((fc3_.f k t1.1 x2 0).bind fun t4 => (if (decide (1048576 < ((t4).length : Int))) = true then (some (([] : List Int), 4)) else (some (t4, 0))))))
def fa9_.j1 (k : Nat) (x2 : L38) (t1 : ST32 × Bool) (y1 : Bool) : Option ((List Int) × Int) := if y1 = true then (some (([] : List Int), 17)) else ((fc9_.f k t1.1 x2 0).bind fun t5 => (if (t5 != ((x2).length : Int)) = true then (fa9_.j2 k x2 t1 true) else (fa9_.j2 k x2 t1 (((x2).length : Int) == 0))))
def fa9_.f (k : Nat) (x1 : ByteArray) (x2 : L38) : Option ((List Int) × Int) := (fc0_.f k x1).bind fun t1 => (if (!t1.2) = true then (fa9_.j1 k x2 t1 true) else (fa9_.j1 k x2 t1 (((ST32.un t1.1).1) != 6)))
theorem fa9_.ok (k : Nat) : fa9_.Ctr (fa9_.f k) := by
 intro x1 x2 ch_1_0 ch_1_1 r h0 mi w0 ok hm
 delta fa9_.f at h0
 refine c_enterZ (n := 48) ok hm func18 rfl rfl rfl fun b0 hb a S => c_region (s_assign S rfl rfl fun a S => s_assign S rfl rfl fun a S => c_end (c_region (s_bldSl S (ty' := yb) (ds := []) (z := 0) (c0 := ()) (ys := ([] : List Int)) (cs := []) rfl underlying26 J5 Z5 rfl ⟨rfl, trivial⟩ rfl rfl rfl rfl rfl rfl fun g1 a w S => s_assign S rfl rfl fun a S => c_end (c_region (s_move S rfl rfl fun a S => bindX h0 fun t1 et1 h1 => s_callP S _ N10 rfl rfl (fc0_.ok k x1 t1 et1 _ _) fun ch1 m le1 a w S => s_move S rfl rfl fun a S => s_extract S rfl rfl rfl rfl fun a S => s_extract S rfl rfl rfl rfl fun a S => s_alloc S Z32 rfl ⟨rfl, rfl, rfl, trivial⟩ rfl fun g2 a w S => s_store S rfl rfl rfl (s' := [.i ((ST32.un t1.1).1), .i ((ST32.un t1.1).2.1), .sl ch1.2.2.1 ((ST32.un t1.1).2.2).length ch1.2.2.2 (SR32 ch1.2.2.1 ((ST32.un t1.1).2.2))]) .h T32 rfl rfl fun w S => s_assign S rfl rfl fun a S => c_end (wp_seq (wp_seq_k fun K1 hK1 => ?_)))))))
 have j1 : ∀ m y1 g3 A1 cp1 a w, St 48 m b0 [(22, (.b y1)), (7, (.p g3)), (6, (.s (ad g1) 0 0)), (1, (.q Y56 ch_1_0 ch_1_1 x2))] [Res.cells g3 32 [.i ((ST32.un t1.1).1), .i ((ST32.un t1.1).2.1), .sl A1 ((ST32.un t1.1).2.2).length cp1 (SR32 A1 ((ST32.un t1.1).2.2))], Res.row yb 5 (ad g1) 0 0 ([] : List Int)] a w → fa9_.j1 k x2 t1 y1 = some r → K1 a w := by
  intro m y1 g3 A1 cp1 a w S h0
  delta fa9_.j1 at h0
  refine hK1 a w ?_
  rcases ite_of h0 with ⟨c1, h1⟩ | ⟨c1, h1⟩
  ·refine c_condT S rfl c1 (c_region (s_move S rfl rfl fun a S => s_assign S rfl rfl fun a S => s_assign S rfl rfl fun a S => c_end (wp_ret (x_thenR ?_))))
   obtain rfl := Option.some.inj h1
   exact b_ret2 (d1 := (.s (ad g1) 0 0)) (d2 := (.i 17)) S rfl rfl rfl fun ok1 ok2 => S.retX (Hx := []) hb _ _ (((ad g1), 0, 0) : (Option Addr) × Nat × Nat) (.c1 .n) ⟨⟨ok1, trivial⟩, ⟨ok2, trivial⟩, trivial⟩
  ·refine c_condF S rfl c1 (wp_skip (x_thenN (wp_seq (wp_seq_k fun K2 hK2 => ?_))))
   have j2 : ∀ m y2 g4 a w, St 48 m b0 [(34, (.b y2)), (7, (.p g4)), (6, (.s (ad g1) 0 0)), (1, (.q Y56 ch_1_0 ch_1_1 x2))] [Res.cells g4 32 [.i ((ST32.un t1.1).1), .i ((ST32.un t1.1).2.1), .sl A1 ((ST32.un t1.1).2.2).length cp1 (SR32 A1 ((ST32.un t1.1).2.2))], Res.row yb 5 (ad g1) 0 0 ([] : List Int)] a w → fa9_.j2 k x2 t1 y2 = some r → K2 a w := by
    intro m y2 g4 a w S h0
    delta fa9_.j2 at h0
    refine hK2 a w ?_
    rcases ite_of h0 with ⟨c2, h1⟩ | ⟨c2, h1⟩
    ·refine c_condT S rfl c2 (c_region (s_move S rfl rfl fun a S => s_assign S rfl rfl fun a S => s_assign S rfl rfl fun a S => c_end (wp_ret (x_thenR ?_))))
     obtain rfl := Option.some.inj h1
     exact b_ret2 (d1 := (.s (ad g1) 0 0)) (d2 := (.i 2)) S rfl rfl rfl fun ok1 ok2 => S.retX (Hx := []) hb _ _ (((ad g1), 0, 0) : (Option Addr) × Nat × Nat) (.c1 .n) ⟨⟨ok1, trivial⟩, ⟨ok2, trivial⟩, trivial⟩
    ·refine c_condF S rfl c2 (wp_skip (x_thenN (wp_seq (c_region (s_loada S rfl .h T32 (s' := [.i ((ST32.un t1.1).1), .i ((ST32.un t1.1).2.1), .sl A1 ((ST32.un t1.1).2.2).length cp1 (SR32 A1 ((ST32.un t1.1).2.2))]) rfl rfl fun a S => s_move S rfl rfl fun a S => bindX h1 fun t3 et3 h2 => s_callP S _ N33 rfl rfl (fd8_.ok k t1.1 x2 0 ((), (), (A1, cp1)) ch_1_0 ch_1_1 t3 et3 _ _) fun ch2 m le1 a w S => c_end ?_)))))
     rcases ite_of h2 with ⟨c3, h3⟩ | ⟨c3, h3⟩
     ·refine c_condT S rfl c3 (c_region (s_move S rfl rfl fun a S => s_assign S rfl rfl fun a S => s_assign S rfl rfl fun a S => c_end (wp_ret (x_thenR ?_))))
      obtain rfl := Option.some.inj h3
      exact b_ret2 (d1 := (.s (ad g1) 0 0)) (d2 := (.i 5)) S rfl rfl rfl fun ok1 ok2 => S.retX (Hx := []) hb _ _ (((ad g1), 0, 0) : (Option Addr) × Nat × Nat) (.c1 .n) ⟨⟨ok1, trivial⟩, ⟨ok2, trivial⟩, trivial⟩
     ·refine c_condF S rfl c3 (wp_skip (x_thenN (c_region (s_loada S rfl .h T32 (s' := [.i ((ST32.un t1.1).1), .i ((ST32.un t1.1).2.1), .sl A1 ((ST32.un t1.1).2.2).length cp1 (SR32 A1 ((ST32.un t1.1).2.2))]) rfl rfl fun a S => s_move S rfl rfl fun a S => bindX h3 fun t4 et4 h4 => s_callR S (fun (ch : (Option Addr) × Nat × Nat) => ((.s ch.1 ch.2.1 ch.2.2) : D)) (fun (ch : (Option Addr) × Nat × Nat) => Res.row yb 5 ch.1 ch.2.1 ch.2.2 t4) N34 rfl rfl (fc3_.ok k t1.1 x2 0 ((), (), (A1, cp1)) ch_1_0 ch_1_1 t4 et4 _ _) fun ch3 m le1 a w S => s_assign S rfl rfl fun a S => c_end (wp_seq (c_region (s_move S rfl rfl fun a S => s_lenO S rfl .h underlying26 rfl fun a S => s_bin S rfl rfl rfl rfl fun a S => c_end ?_)))))))
      rcases ite_of h4 with ⟨c4, h5⟩ | ⟨c4, h5⟩
      ·refine c_condT S rfl c4 (c_region (s_move S rfl rfl fun a S => s_assign S rfl rfl fun a S => s_assign S rfl rfl fun a S => c_end (wp_ret (x_thenR ?_))))
       obtain rfl := Option.some.inj h5
       exact b_ret2 (d1 := (.s (ad g1) 0 0)) (d2 := (.i 4)) S rfl rfl rfl fun ok1 ok2 => S.retX (Hx := []) hb _ _ (((ad g1), 0, 0) : (Option Addr) × Nat × Nat) (.c2 .n) ⟨⟨ok1, trivial⟩, ⟨ok2, trivial⟩, trivial⟩
      ·refine c_condF S rfl c4 (wp_skip (x_thenN (c_region (s_move S rfl rfl fun a S => s_assign S rfl rfl fun a S => s_assign S rfl rfl fun a S => c_end (wp_ret ?_)))))
       obtain rfl := Option.some.inj h5
       exact b_ret2 (d1 := (.s ch3.1 ch3.2.1 ch3.2.2)) (d2 := (.i 0)) S rfl rfl rfl fun ok1 ok2 => S.retX (Hx := []) hb _ _ ((ch3.1, ch3.2.1, ch3.2.2) : (Option Addr) × Nat × Nat) (.c0 .n) ⟨⟨ok1, trivial⟩, ⟨ok2, trivial⟩, trivial⟩
   refine c_region' (s_loada S rfl .h T32 (s' := [.i ((ST32.un t1.1).1), .i ((ST32.un t1.1).2.1), .sl A1 ((ST32.un t1.1).2.2).length cp1 (SR32 A1 ((ST32.un t1.1).2.2))]) rfl rfl fun a S => s_move S rfl rfl fun a S => bindX h1 fun t5 et5 h2 => s_callP S _ N32 rfl rfl (fc9_.ok k t1.1 x2 0 ((), (), (A1, cp1)) ch_1_0 ch_1_1 t5 et5 _ _) fun ch4 m le1 a w S => s_move S rfl rfl fun a S => s_lenS S rfl underlying38 rfl fun a S => s_bin S rfl rfl rfl rfl fun a S => s_move S rfl rfl fun a S => ?_)
   rcases ite_of h2 with ⟨c5, h3⟩ | ⟨c5, h3⟩
   ·refine s_gF S (b := (t5 != ((x2).length : Int))) rfl rfl c5 rfl fun a S => s_gF S (b := (t5 != ((x2).length : Int))) rfl rfl c5 rfl fun a S => s_gF S (b := (t5 != ((x2).length : Int))) rfl rfl c5 rfl fun a S => s_pick S (b := true) (hc_of rfl c5) rfl rfl fun a S => c_end' (x_thenN ?_)
    exact j2 _ true g3 a w (S.sb rfl (.c0 (.c0 .n))) h3
   ·refine s_gT S (b := (t5 != ((x2).length : Int))) rfl rfl c5 (s_move S rfl rfl fun a S => s_gT S (b := (t5 != ((x2).length : Int))) rfl rfl c5 (s_lenS S rfl underlying38 rfl fun a S => s_gT S (b := (t5 != ((x2).length : Int))) rfl rfl c5 (s_bin S rfl rfl rfl rfl fun a S => s_pick S (b := false) (hc_of rfl c5) rfl rfl fun a S => c_end' (x_thenN ?_))))
    exact j2 _ (((x2).length : Int) == 0) g3 a w (S.sb rfl (.c0 (.c0 .n))) h3
 refine c_region' (s_move S rfl rfl fun a S => s_not S rfl rfl fun a S => s_move S rfl rfl fun a S => ?_)
 rcases ite_of h1 with ⟨c6, h2⟩ | ⟨c6, h2⟩
 ·refine s_gF S (b := (!t1.2)) rfl rfl c6 rfl fun a S => s_gF S (b := (!t1.2)) rfl rfl c6 rfl fun a S => s_gF S (b := (!t1.2)) rfl rfl c6 rfl fun a S => s_pick S (b := true) (hc_of rfl c6) rfl rfl fun a S => c_end' (x_thenN ?_)
  exact j1 _ true g2 ch1.2.2.1 ch1.2.2.2 a w (S.sb rfl (.c0 (.c0 .n))) h2
 ·refine s_gT S (b := (!t1.2)) rfl rfl c6 (s_fieldAddr S rfl I32_0 T3 (by decide) rfl rfl fun a S => s_gT S (b := (!t1.2)) rfl rfl c6 (s_load1 S rfl .h T3 (v := (.int .i64 ((ST32.un t1.1).1))) rfl rfl fun a S => s_gT S (b := (!t1.2)) rfl rfl c6 (s_bin S rfl rfl rfl rfl fun a S => s_pick S (b := false) (hc_of rfl c6) rfl rfl fun a S => c_end' (x_thenN ?_))))
  exact j1 _ (((ST32.un t1.1).1) != 6) g2 ch1.2.2.1 ch1.2.2.2 a w (S.sb rfl (.c0 (.c0 .n))) h2
abbrev ff9_.Ty : Type := (List Int) → Option ((List Int))
def ff9_.Ctr (s : ff9_.Ty) : Prop := ∀ (x1 : List Int) (ch_0_0 : Option Addr) (ch_0_1 : Nat) (r : (List Int)), Ct (C := Unit) Tryd.prog 75 (s x1 = some r) [] [(.q yb ch_0_0 ch_0_1 x1)] (fun _ => (.a4 r)) fun _ => []
def ff9_.j2 (y16 : List Int) : Option ((List Int)) := some y16
def ff9_.j3 (y29 : Int) (rec1 : Int → (List Int) → Option ((List Int))) (y35 : List Int) : Option ((List Int)) := rec1 (wr .i64 (y29 + 1)) y35
def ff9_.b2 (y1 : List Int) (y29 : Int) (rec1 : Int → (List Int) → Option ((List Int))) (rec2 : Int → (List Int) → Option ((List Int))) (y38 : Int) (y39 : List Int) : Option ((List Int)) := if (decide (y38 < 8)) = true then (if (0 : Int) ≤ y29 ∧ y29 < 4 then (if (0 : Int) ≤ (wr .i64 ((wr .i64 (31 - (wr .i64 (8 * y29)))) - y38)) ∧ (wr .i64 ((wr .i64 (31 - (wr .i64 (8 * y29)))) - y38)) < 32 then (if (0 : Int) ≤ (wr .i64 (8 * y38)) then (rec2 (wr .i64 (y38 + 1)) (y39.set (Int.toNat y29) (bits .or .u64 (rd y39 y29) (shl .u64 (wr .u64 (rd (cpy [0, 0, 0, 0, 0, 0, 0, 0, 0, 0, 0, 0, 0, 0, 0, 0, 0, 0, 0, 0, 0, 0, 0, 0, 0, 0, 0, 0, 0, 0, 0, 0] (Int.toNat (wr .i64 (32 - ((y1).length : Int)))) y1 (min (y1).length (Int.toNat 32 - Int.toNat (wr .i64 (32 - ((y1).length : Int)))))) (wr .i64 ((wr .i64 (31 - (wr .i64 (8 * y29)))) - y38)))) (min (Int.toNat (wr .i64 (8 * y38))) 64))))) else none) else none) else none) else (ff9_.j3 y29 rec1 y39)
def ff9_.l2 (y1 : List Int) (y29 : Int) (rec1 : Int → (List Int) → Option ((List Int))) : Nat → Int → (List Int) → Option ((List Int))
  | 0, _, _ => none
  | q + 1, y38, y39 => ff9_.b2 y1 y29 rec1 (ff9_.l2 y1 y29 rec1 q) y38 y39
def ff9_.b1 (k : Nat) (y1 : List Int) (rec1 : Int → (List Int) → Option ((List Int))) (y29 : Int) (y30 : List Int) : Option ((List Int)) := if (decide (y29 < 4)) = true then (ff9_.l2 y1 y29 rec1 k 0 y30) else (ff9_.j2 y30)
def ff9_.l1 (k : Nat) (y1 : List Int) : Nat → Int → (List Int) → Option ((List Int))
  | 0, _, _ => none
  | q + 1, y29, y30 => ff9_.b1 k y1 (ff9_.l1 k y1 q) y29 y30
def ff9_.j1 (k : Nat) (y1 : List Int) : Option ((List Int)) := if (0 : Int) ≤ (wr .i64 (32 - ((y1).length : Int))) ∧ ((wr .i64 (32 - ((y1).length : Int))) : Int) ≤ 32 ∧ 32 ≤ ((32 : Nat) : Int) then (ff9_.l1 k y1 k 0 [0, 0, 0, 0]) else none
def ff9_.f (k : Nat) (x1 : List Int) : Option ((List Int)) := if (decide (32 < ((x1).length : Int))) = true then (if (0 : Int) ≤ (wr .i64 (((x1).length : Int) - 32)) ∧ ((wr .i64 (((x1).length : Int) - 32)) : Int) ≤ ((x1).length : Int) ∧ ((x1).length : Int) ≤ ((x1).length : Int) then (ff9_.j1 k (x1.drop (Int.toNat (wr .i64 (((x1).length : Int) - 32))))) else none) else (ff9_.j1 k x1)
theorem ff9_.ok (k : Nat) : ff9_.Ctr (ff9_.f k) := by
 intro x1 ch_0_0 ch_0_1 r h0 mi w0 ok hm
 delta ff9_.f at h0
 refine c_enterZ (n := 46) ok hm func75 rfl rfl rfl fun b0 hb a S => c_region (s_alloc S Z54 rfl ⟨rfl, trivial⟩ rfl fun g1 a w S => c_end (c_region (s_alloc S Z23 rfl ⟨rfl, trivial⟩ rfl fun g2 a w S => c_end (wp_seq_k fun K1 hK1 => ?_))))
 have j1 : ∀ m A1 cp1 y1 g3 g4 a w, St 46 m b0 [(0, (.q yb A1 cp1 y1)), (3, (.p g3)), (2, (.p g4))] [Res.cells g3 23 [.b32 z32], Res.cells g4 54 [.w4 [0, 0, 0, 0]]] a w → ff9_.j1 k y1 = some r → K1 a w := by
  intro m A1 cp1 y1 g3 g4 a w S h0
  delta ff9_.j1 at h0
  refine hK1 a w (c_region (s_move S rfl rfl fun a S => s_lenS S rfl underlying26 rfl fun a S => s_bin S rfl rfl rfl rfl fun a S => ?_))
  obtain ⟨c1, h1⟩ := chk_of h0; clear h0
  refine s_sliceA S (i := (wr .i64 (32 - ((y1).length : Int)))) (j := 32) (o' := if 32 = Int.toNat (wr .i64 (32 - ((y1).length : Int))) then 0 else 0 + Int.toNat (wr .i64 (32 - ((y1).length : Int))) * 1) (len := Int.toNat 32 - Int.toNat (wr .i64 (32 - ((y1).length : Int)))) (cap := 32 - Int.toNat (wr .i64 (32 - ((y1).length : Int)))) rfl underlying23 T5 (.inr ⟨_, _, rfl, rfl⟩) (.inl ⟨rfl, rfl⟩) c1 rfl rfl rfl rfl fun a S => s_move S rfl rfl fun a S => s_copyA S (N := min (y1).length (Int.toNat 32 - Int.toNat (wr .i64 (32 - ((y1).length : Int))))) (lo := Int.toNat (wr .i64 (32 - ((y1).length : Int)))) rfl .h rfl rfl (RdS.srcI (S.get 19 (.q yb A1 cp1 y1) rfl).2.2.2.1 S.frz) rfl .h (ho_if c1) (hl_if c1) underlying26 T5 rfl fun a w S => c_end (c_region (s_alloc S Z54 rfl ⟨rfl, trivial⟩ rfl fun g5 a w S => c_end (wp_seq_k fun K2 hK2 => ?_)))
  have j2 : ∀ m g39 g40 y16 a w, St 46 m b0 [(4, (.p g39)), (2, (.p g40))] [Res.cells g39 54 [.w4 y16], Res.cells g40 54 [.w4 [0, 0, 0, 0]]] a w → ff9_.j2 y16 = some r → K2 a w := by
   intro m g39 g40 y16 a w S h0
   delta ff9_.j2 at h0
   refine hK2 a w (c_region (s_loada S rfl .h T54 (s' := [.w4 y16]) rfl rfl fun a S => s_store S rfl rfl rfl (s' := [.w4 y16]) .h1 T54 rfl rfl fun w S => c_end (wp_ret ?_)))
   obtain rfl := Option.some.inj h0
   exact b_ret1 (d := (.a4 y16)) S rfl (resD_cell rfl .h1 T54 rfl rfl) (S.rt hb)
  refine c_region (s_move S rfl rfl fun a S => c_end (wp_block ?_))
  refine c_loop (fun q1 a w => ∃ m y29 g71 g72 g73 y30, St 46 m b0 [(21, (.i y29)), (4, (.p g71)), (3, (.p g72)), (2, (.p g73))] [Res.cells g71 54 [.w4 y30], Res.cells g72 23 [.b32 (cpy z32 (Int.toNat (wr .i64 (32 - ((y1).length : Int)))) y1 (min (y1).length (Int.toNat 32 - Int.toNat (wr .i64 (32 - ((y1).length : Int))))))], Res.cells g73 54 [.w4 [0, 0, 0, 0]]] a w ∧ ff9_.l1 k y1 q1 y29 y30 = some r) ?_ ?_ (k := k) ⟨_, 0, g5, g3, g4, [0, 0, 0, 0], (S.sb rfl (.c0 (.c0 (.c0 .n)))), h1⟩
  ·rintro a w ⟨m, y29, g71, g72, g73, y30, S, h0⟩
   exact (nomatch (show (none : Option ((List Int))) = some r from h0))
  ·clear S h1
   rintro q1 a w ⟨m, y29, g71, g72, g73, y30, S, h0⟩
   replace h0 : ff9_.b1 k y1 (ff9_.l1 k y1 q1) y29 y30 = some r := h0
   delta ff9_.b1 at h0
   refine c_region (s_bin S rfl rfl rfl rfl fun a S => c_end (wp_seq ?_))
   rcases ite_of h0 with ⟨c2, h1⟩ | ⟨c2, h1⟩
   ·refine c_condT S rfl c2 (wp_skip (x_thenN (wp_seq_k fun K3 hK3 => ?_)))
    have j3 : ∀ m g83 g84 g85 y35 a w, St 46 m b0 [(21, (.i y29)), (4, (.p g83)), (3, (.p g84)), (2, (.p g85))] [Res.cells g83 54 [.w4 y35], Res.cells g84 23 [.b32 (cpy z32 (Int.toNat (wr .i64 (32 - ((y1).length : Int)))) y1 (min (y1).length (Int.toNat 32 - Int.toNat (wr .i64 (32 - ((y1).length : Int))))))], Res.cells g85 54 [.w4 [0, 0, 0, 0]]] a w → ff9_.j3 y29 (ff9_.l1 k y1 q1) y35 = some r → K3 a w := by
     intro m g83 g84 g85 y35 a w S h0
     delta ff9_.j3 at h0
     refine hK3 a w (c_region' (s_bin S rfl rfl rfl rfl fun a S => s_move S rfl rfl fun a S => c_end' (x_thenN ?_)))
     exact ⟨_, (wr .i64 (y29 + 1)), g83, g84, g85, y35, (S.sb rfl (.c0 (.c0 (.c0 .n)))), h0⟩
    refine wp_block (c_region (s_move S rfl rfl fun a S => s_assign S rfl rfl fun a S => c_end (c_region (s_move S rfl rfl fun a S => c_end (wp_block ?_)))))
    refine c_loop (fun q2 a w => ∃ m y38 g92 g93 g94 y39, St 46 m b0 [(24, (.i y38)), (5, (.i y29)), (21, (.i y29)), (4, (.p g92)), (3, (.p g93)), (2, (.p g94))] [Res.cells g92 54 [.w4 y39], Res.cells g93 23 [.b32 (cpy z32 (Int.toNat (wr .i64 (32 - ((y1).length : Int)))) y1 (min (y1).length (Int.toNat 32 - Int.toNat (wr .i64 (32 - ((y1).length : Int))))))], Res.cells g94 54 [.w4 [0, 0, 0, 0]]] a w ∧ ff9_.l2 y1 y29 (ff9_.l1 k y1 q1) q2 y38 y39 = some r) ?_ ?_ (k := k) ⟨_, 0, g71, g72, g73, y30, (S.sb rfl (.c0 (.c0 (.c0 .n)))), h1⟩
    ·rintro a w ⟨m, y38, g92, g93, g94, y39, S, h0⟩
     exact (nomatch (show (none : Option ((List Int))) = some r from h0))
    ·clear S h1
     rintro q2 a w ⟨m, y38, g92, g93, g94, y39, S, h0⟩
     replace h0 : ff9_.b2 y1 y29 (ff9_.l1 k y1 q1) (ff9_.l2 y1 y29 (ff9_.l1 k y1 q1) q2) y38 y39 = some r := h0
     delta ff9_.b2 at h0
     refine c_region (s_bin S rfl rfl rfl rfl fun a S => c_end (wp_seq ?_))
     rcases ite_of h0 with ⟨c3, h1⟩ | ⟨c3, h1⟩
     ·refine c_condT S rfl c3 (wp_skip (x_thenN (wp_seq (wp_block (c_region (s_move S rfl rfl fun a S => s_assign S rfl rfl fun a S => c_end (c_heldS S (.take 0 (.take 1 (.take 2 (.take 3 (.take 4 (.take 5 (.take 6 (.take 7 (.take 8 (.take 9 (.take 10 (.take 11 (.take 12 (.take 13 (.take 14 (.take 15 (.alts (.run 16 false .done .nil)))))))))))))))))) 16 [Res.cells g92 54 [.w4 y39], Res.cells g93 23 [.b32 (cpy z32 (Int.toNat (wr .i64 (32 - ((y1).length : Int)))) y1 (min (y1).length (Int.toNat 32 - Int.toNat (wr .i64 (32 - ((y1).length : Int))))))], Res.cells g94 54 [.w4 [0, 0, 0, 0]]] (.c0 (.c0 (.c0 .n))) ⟨Res.stay_cells, Res.stay_cells, Res.stay_cells, trivial⟩ [(6, (.i y38)), (5, (.i y29)), (4, (.p g92)), (3, (.p g93))] (subR rfl) (by kernel_rfl) (by kernel_rfl) fun w S CL hw le => ?_)))))))
      refine h_move S CL hw le (subR rfl) rfl rfl rfl trivial fun a S CL => ?_
      obtain ⟨c4, h2⟩ := chk_of h1; clear h1
      refine h_iaddr S CL hw le (subR rfl) rfl rfl underlying54 T52 c4.1 c4.2 (mul1 _ _) rfl rfl trivial fun a S CL => h_loadi S CL hw le (subR rfl) (i := y29) rfl .h T52 .h rfl c4.1 c4.2 rfl rfl trivial fun a S CL => h_move S CL hw le (subR rfl) rfl rfl rfl trivial fun a S CL => h_bin S CL hw le (subR rfl) rfl rfl rfl rfl rfl trivial fun a S CL => h_bin S CL hw le (subR rfl) rfl rfl rfl rfl rfl trivial fun a S CL => h_move S CL hw le (subR rfl) rfl rfl rfl trivial fun a S CL => h_bin S CL hw le (subR rfl) rfl rfl rfl rfl rfl trivial fun a S CL => ?_
      obtain ⟨c5, h3⟩ := chk_of h2; clear h2
      refine h_iaddr S CL hw le (subR rfl) rfl rfl underlying23 T5 c5.1 c5.2 (mul1 _ _) rfl rfl trivial fun a S CL => h_loadi S CL hw le (subR rfl) (i := (wr .i64 ((wr .i64 (31 - (wr .i64 (8 * y29)))) - y38))) rfl .h1 T5 .h rfl c5.1 c5.2 rfl rfl trivial fun a S CL => h_conv S CL hw le (subR rfl) rfl rfl underlying52 rfl rfl trivial fun a S CL => h_move S CL hw le (subR rfl) rfl rfl rfl trivial fun a S CL => h_bin S CL hw le (subR rfl) rfl rfl rfl rfl rfl trivial fun a S CL => ?_
      obtain ⟨c6, h4⟩ := chk_of h3; clear h3
      refine h_shl S CL hw le (subR rfl) (e := (min (Int.toNat (wr .i64 (8 * y38))) 64)) rfl rfl c6 rfl rfl rfl trivial fun a S CL => h_bin S CL hw le (subR rfl) rfl rfl rfl rfl rfl trivial fun a S CL => h_iaddr S CL hw le (subR rfl) rfl rfl underlying54 T52 c4.1 c4.2 (mul1 _ _) rfl rfl trivial fun a S CL => h_run' S rfl trivial (s_storei S (i := y29) rfl rfl .h T52 .h rfl c4.1 c4.2 fun w S => ?_)
      refine h_back ⟨fun h => (nomatch h), ?_⟩
      refine h_done ?_; clear CL hw le
      refine x_blockN (x_thenN (c_region' (s_bin S rfl rfl rfl rfl fun a S => s_move S rfl rfl fun a S => c_end' (x_thenN ?_))))
      exact ⟨_, (wr .i64 (y38 + 1)), g92, g93, g94, (y39.set (Int.toNat y29) (bits .or .u64 (rd y39 y29) (shl .u64 (wr .u64 (rd (cpy z32 (Int.toNat (wr .i64 (32 - ((y1).length : Int)))) y1 (min (y1).length (Int.toNat 32 - Int.toNat (wr .i64 (32 - ((y1).length : Int)))))) (wr .i64 ((wr .i64 (31 - (wr .i64 (8 * y29)))) - y38)))) (min (Int.toNat (wr .i64 (8 * y38))) 64)))), (S.sb rfl (.c0 (.c0 (.c0 .n)))), h4⟩
     ·refine c_condF S rfl c3 (wp_exit (x_thenX (x_thenX (x_blockX (x_blockN (x_thenN ?_))))))
      exact j3 _ g92 g93 g94 y39 a w (S.sb rfl (.c0 (.c0 (.c0 .n)))) h1
   ·refine c_condF S rfl c2 (wp_exit (x_thenX (x_thenX (x_blockX (x_thenN ?_)))))
    exact j2 _ g71 g73 y30 a w (S.sb rfl (.c0 (.c1 .n))) h1
 refine c_region (s_move S rfl rfl fun a S => s_lenS S rfl underlying26 rfl fun a S => s_bin S rfl rfl rfl rfl fun a S => c_end ?_)
 rcases ite_of h0 with ⟨c7, h1⟩ | ⟨c7, h1⟩
 ·refine c_condT S rfl c7 (c_region' (s_move S rfl rfl fun a S => s_move S rfl rfl fun a S => s_lenS S rfl underlying26 rfl fun a S => s_bin S rfl rfl rfl rfl fun a S => ?_))
  obtain ⟨c8, h2⟩ := chk_of h1; clear h1
  refine s_cutS S (i := (wr .i64 (((x1).length : Int) - 32))) (j := ((x1).length : Int)) (ys := x1.drop (Int.toNat (wr .i64 (((x1).length : Int) - 32)))) rfl rfl underlying26 T5 (.inr ⟨_, _, rfl, rfl⟩) (.inl ⟨rfl, rfl⟩) c8 rfl (cut_end rfl) fun A2 cp2 a S => s_assign S rfl rfl fun a S => c_end' (x_thenN ?_)
  exact j1 _ A2 cp2 (x1.drop (Int.toNat (wr .i64 (((x1).length : Int) - 32)))) g2 g1 a w (S.sb rfl (.c0 (.c0 .n))) h2
 ·refine c_condF S rfl c7 (wp_skip (x_thenN ?_))
  exact j1 _ ch_0_0 ch_0_1 x1 g2 g1 a w (S.sb rfl (.c0 (.c0 .n))) h1
abbrev fd7_.Ty : Type := ((List Int) × Int × L38 × Bool) → Int → Option ((List Int) × (Unit × Unit × L38 × Bool))
def fd7_.Ctr (s : fd7_.Ty) : Prop := ∀ (x1 : (List Int) × Int × L38 × Bool) (x2 : Int) (ch_0_0 : Nat) (ch_0_1 : Option Addr) (ch_0_2 : Nat) (ch_0_3 : Option Addr) (ch_0_4 : Nat) (ch_0_5 : Nat) (r : (List Int) × (Unit × Unit × L38 × Bool)), Ct (C := ((Option Addr) × Nat × Nat)) Tryd.prog 57 (s x1 x2 = some r) [Res.cells ch_0_0 80 [.q yb ch_0_1 ch_0_2 x1.1, .i x1.2.1, .s ch_0_3 ch_0_4 ch_0_5, .b x1.2.2.2], Res.row Y56 56 ch_0_3 ch_0_4 ch_0_5 x1.2.2.1] [(.p ch_0_0), (.i x2)] (fun _ => (.a4 r.1)) fun ch => [Res.cells ch_0_0 80 [.q yb ch_0_1 ch_0_2 x1.1, .i x1.2.1, .s ch.1 ch.2.1 ch.2.2, .b r.2.2.2.2], Res.row Y56 56 ch.1 ch.2.1 ch.2.2 r.2.2.2.1]
def fd7_.j1 (k : Nat) (x1 : (List Int) × Int × L38 × Bool) (x2 : Int) (y1 : Bool) : Option ((List Int) × (Unit × Unit × L38 × Bool)) := if y1 = true then (some ([0, 0, 0, 0], ((), (), x1.2.2.1, true))) else (if (0 : Int) ≤ x2 ∧ (x2 : Int) ≤ (wr .i64 (x2 + 32)) ∧ (wr .i64 (x2 + 32)) ≤ ((x1.1).length : Int) then ((ff9_.f k ((x1.1.take (Int.toNat (wr .i64 (x2 + 32)))).drop (Int.toNat x2))).bind fun t1 => (some (t1, ((), (), x1.2.2.1, x1.2.2.2)))) else none)
def fd7_.f (k : Nat) (x1 : (List Int) × Int × L38 × Bool) (x2 : Int) : Option ((List Int) × (Unit × Unit × L38 × Bool)) := if x1.2.2.2 = true then (fd7_.j1 k x1 x2 true) else (if (decide (x2 < 0)) = true then (fd7_.j1 k x1 x2 true) else (fd7_.j1 k x1 x2 (decide ((wr .i64 (((x1.1).length : Int) - 32)) < x2))))
theorem fd7_.ok (k : Nat) : fd7_.Ctr (fd7_.f k) := by
 intro x1 x2 ch_0_0 ch_0_1 ch_0_2 ch_0_3 ch_0_4 ch_0_5 r h0 mi w0 ok hm
 delta fd7_.f at h0
 refine c_enterZ (n := 36) ok hm func57 rfl rfl rfl fun b0 hb a S => c_region (s_alloc S Z54 rfl ⟨rfl, trivial⟩ rfl fun g1 a w S => c_end (wp_seq (wp_seq_k fun K1 hK1 => ?_)))
 have j1 : ∀ m y1 g2 a w, St 36 m b0 [(22, (.b y1)), (4, (.p g2)), (0, (.p ch_0_0)), (1, (.i x2))] [Res.cells g2 54 [.w4 [0, 0, 0, 0]], Res.cells ch_0_0 80 [.q yb ch_0_1 ch_0_2 x1.1, .i x1.2.1, .s ch_0_3 ch_0_4 ch_0_5, .b x1.2.2.2], Res.row Y56 56 ch_0_3 ch_0_4 ch_0_5 x1.2.2.1] a w → fd7_.j1 k x1 x2 y1 = some r → K1 a w := by
  intro m y1 g2 a w S h0
  delta fd7_.j1 at h0
  refine hK1 a w ?_
  rcases ite_of h0 with ⟨c1, h1⟩ | ⟨c1, h1⟩
  ·refine c_condT S rfl c1 (c_region (s_move S rfl rfl fun a S => s_nilchk S rfl rfl fun a S => s_fieldAddr S rfl I80_3 T4 (by decide) rfl rfl fun a S => s_store S rfl rfl rfl (s' := [.q yb ch_0_1 ch_0_2 x1.1, .i x1.2.1, .s ch_0_3 ch_0_4 ch_0_5, .b true]) .h1 T4 rfl rfl fun w S => c_end (c_region (s_build S (ds := []) (dv := (.a4 [0, 0, 0, 0])) rfl (fun _ => by kernel_rfl) ⟨rfl, trivial⟩ rfl fun a S => s_store S rfl rfl rfl (s' := [.w4 [0, 0, 0, 0]]) .h T54 rfl rfl fun w S => c_end (wp_ret (x_thenR ?_))))))
   obtain rfl := Option.some.inj h1
   exact b_ret1 (d := (.a4 [0, 0, 0, 0])) S rfl (resD_cell rfl .h T54 rfl rfl) fun ok => S.retX (Hx := []) hb _ _ ((ch_0_3, ch_0_4, ch_0_5) : (Option Addr) × Nat × Nat) (.c1 (.c1 .n)) ok
  ·refine c_condF S rfl c1 (wp_skip (x_thenN (c_region (s_move S rfl rfl fun a S => s_nilchk S rfl rfl fun a S => s_fieldAddr S rfl I80_0 T26 (by decide) rfl rfl fun a S => s_loadSl S rfl .h1 T26 (A := ch_0_1) (len := (x1.1).length) (cap := ch_0_2) rfl rfl fun a S => s_move S rfl rfl fun a S => s_move S rfl rfl fun a S => s_bin S rfl rfl rfl rfl fun a S => ?_))))
   obtain ⟨c2, h2⟩ := chk_of h1; clear h1
   refine s_cutS S (i := x2) (j := (wr .i64 (x2 + 32))) (ys := (x1.1.take (Int.toNat (wr .i64 (x2 + 32)))).drop (Int.toNat x2)) rfl rfl underlying26 T5 (.inr ⟨_, _, rfl, rfl⟩) (.inr ⟨_, _, rfl, rfl⟩) c2 rfl rfl fun A1 cp1 a S => bindX h2 fun t1 et1 h3 => s_callP S _ N75 rfl rfl (ff9_.ok k ((x1.1.take (Int.toNat (wr .i64 (x2 + 32)))).drop (Int.toNat x2)) A1 cp1 t1 et1 _ _) fun ch1 m le1 a w S => s_store S rfl rfl rfl (s' := [.w4 t1]) .h T54 rfl rfl fun w S => c_end (wp_ret ?_)
   obtain rfl := Option.some.inj h3
   exact b_ret1 (d := (.a4 t1)) S rfl (resD_cell rfl .h T54 rfl rfl) fun ok => S.retX (Hx := []) hb _ _ ((ch_0_3, ch_0_4, ch_0_5) : (Option Addr) × Nat × Nat) (.c1 (.c1 .n)) ok
 refine c_region' (s_move S rfl rfl fun a S => s_nilchk S rfl rfl fun a S => s_fieldAddr S rfl I80_3 T4 (by decide) rfl rfl fun a S => s_load1 S rfl .h1 T4 (v := (.bool x1.2.2.2)) rfl rfl fun a S => s_move S rfl rfl fun a S => ?_)
 rcases ite_of h0 with ⟨c3, h1⟩ | ⟨c3, h1⟩
 ·refine s_gF S (b := x1.2.2.2) rfl rfl c3 rfl fun a S => s_gF S (b := x1.2.2.2) rfl rfl c3 rfl fun a S => s_pick S (b := true) (hc_of rfl c3) rfl rfl fun a S => s_move S rfl rfl fun a S => s_gF S (b := true) rfl rfl rfl rfl fun a S => s_gF S (b := true) rfl rfl rfl rfl fun a S => s_gF S (b := true) rfl rfl rfl rfl fun a S => s_gF S (b := true) rfl rfl rfl rfl fun a S => s_gF S (b := true) rfl rfl rfl rfl fun a S => s_gF S (b := true) rfl rfl rfl rfl fun a S => s_gF S (b := true) rfl rfl rfl rfl fun a S => s_gF S (b := true) rfl rfl rfl rfl fun a S => s_pick S (b := true) (hc_of rfl rfl) rfl rfl fun a S => c_end' (x_thenN ?_)
  exact j1 _ true g1 a w (S.sb rfl (.c0 (.c0 (.c0 .n)))) h1
 ·refine s_gT S (b := x1.2.2.2) rfl rfl c3 (s_move S rfl rfl fun a S => s_gT S (b := x1.2.2.2) rfl rfl c3 (s_bin S rfl rfl rfl rfl fun a S => s_pick S (b := false) (hc_of rfl c3) rfl rfl fun a S => s_move S rfl rfl fun a S => ?_))
  rcases ite_of h1 with ⟨c4, h2⟩ | ⟨c4, h2⟩
  ·refine s_gF S (b := (decide (x2 < 0))) rfl rfl c4 rfl fun a S => s_gF S (b := (decide (x2 < 0))) rfl rfl c4 rfl fun a S => s_gF S (b := (decide (x2 < 0))) rfl rfl c4 rfl fun a S => s_gF S (b := (decide (x2 < 0))) rfl rfl c4 rfl fun a S => s_gF S (b := (decide (x2 < 0))) rfl rfl c4 rfl fun a S => s_gF S (b := (decide (x2 < 0))) rfl rfl c4 rfl fun a S => s_gF S (b := (decide (x2 < 0))) rfl rfl c4 rfl fun a S => s_gF S (b := (decide (x2 < 0))) rfl rfl c4 rfl fun a S => s_pick S (b := true) (hc_of rfl c4) rfl rfl fun a S => c_end' (x_thenN ?_)
   exact j1 _ true g1 a w (S.sb rfl (.c0 (.c0 (.c0 .n)))) h2
  ·refine s_gT S (b := (decide (x2 < 0))) rfl rfl c4 (s_move S rfl rfl fun a S => s_gT S (b := (decide (x2 < 0))) rfl rfl c4 (s_move S rfl rfl fun a S => s_gT S (b := (decide (x2 < 0))) rfl rfl c4 (s_nilchk S rfl rfl fun a S => s_gT S (b := (decide (x2 < 0))) rfl rfl c4 (s_fieldAddr S rfl I80_0 T26 (by decide) rfl rfl fun a S => s_gT S (b := (decide (x2 < 0))) rfl rfl c4 (s_loadSl S rfl .h1 T26 (A := ch_0_1) (len := (x1.1).length) (cap := ch_0_2) rfl rfl fun a S => s_gT S (b := (decide (x2 < 0))) rfl rfl c4 (s_lenS S rfl underlying26 rfl fun a S => s_gT S (b := (decide (x2 < 0))) rfl rfl c4 (s_bin S rfl rfl rfl rfl fun a S => s_gT S (b := (decide (x2 < 0))) rfl rfl c4 (s_bin S rfl rfl rfl rfl fun a S => s_pick S (b := false) (hc_of rfl c4) rfl rfl fun a S => c_end' (x_thenN ?_)))))))))
   exact j1 _ (decide ((wr .i64 (((x1.1).length : Int) - 32)) < x2)) g1 a w (S.sb rfl (.c0 (.c0 (.c0 .n)))) h2
abbrev ff5_.Ty : Type := (List Int) → Option (Int × Bool)
def ff5_.Ctr (s : ff5_.Ty) : Prop := ∀ (x1 : List Int) (r : Int × Bool), Ct (C := Unit) Tryd.prog 79 (s x1 = some r) [] [(.a4 x1)] (fun _ => (.tup [(false, [.w r.1]), (false, [.b r.2])])) fun _ => []
def ff5_.f (x1 : List Int) : Option (Int × Bool) := if ((bits .or .u64 (bits .or .u64 (rd x1 1) (rd x1 2)) (rd x1 3)) != 0) = true then (some (0, false)) else (some (rd x1 0, true))
theorem ff5_.ok : ff5_.Ctr (ff5_.f) := by
 intro x1 r h0 mi w0 ok hm
 delta ff5_.f at h0
 refine c_enterZ (n := 15) ok hm func79 rfl rfl rfl fun b0 hb a S => c_region (s_box S rfl rfl rfl fun g1 a w S => s_assign S rfl rfl fun a S => s_assign S rfl rfl fun a S => c_end (wp_seq (c_region (s_iaddr S (o' := 1) rfl rfl underlying54 T52 (by decide) (by decide) rfl rfl fun a S => s_loadi S (i := 1) rfl .h T52 .h rfl (by decide) (by decide) rfl fun a S => s_iaddr S (o' := 2) rfl rfl underlying54 T52 (by decide) (by decide) rfl rfl fun a S => s_loadi S (i := 2) rfl .h T52 .h rfl (by decide) (by decide) rfl fun a S => s_bin S rfl rfl rfl rfl fun a S => s_iaddr S (o' := 3) rfl rfl underlying54 T52 (by decide) (by decide) rfl rfl fun a S => s_loadi S (i := 3) rfl .h T52 .h rfl (by decide) (by decide) rfl fun a S => s_bin S rfl rfl rfl rfl fun a S => s_bin S rfl rfl rfl rfl fun a S => c_end ?_))))
 rcases ite_of h0 with ⟨c1, h1⟩ | ⟨c1, h1⟩
 ·refine c_condT S rfl c1 (c_region (s_assign S rfl rfl fun a S => s_assign S rfl rfl fun a S => c_end (wp_ret (x_thenR ?_))))
  obtain rfl := Option.some.inj h1
  exact b_ret2 (d1 := (.w 0)) (d2 := (.b false)) S rfl rfl rfl fun ok1 ok2 => S.retX (Hx := []) hb _ _ (() : Unit) .nil ⟨⟨ok1, trivial⟩, ⟨ok2, trivial⟩, trivial⟩
 ·refine c_condF S rfl c1 (wp_skip (x_thenN (c_region (s_iaddr S (o' := 0) rfl rfl underlying54 T52 (by decide) (by decide) rfl rfl fun a S => s_loadi S (i := 0) rfl .h T52 .h rfl (by decide) (by decide) rfl fun a S => s_assign S rfl rfl fun a S => s_assign S rfl rfl fun a S => c_end (wp_ret ?_)))))
  obtain rfl := Option.some.inj h1
  exact b_ret2 (d1 := (.w (rd x1 0))) (d2 := (.b true)) S rfl rfl rfl fun ok1 ok2 => S.retX (Hx := []) hb _ _ (() : Unit) .nil ⟨⟨ok1, trivial⟩, ⟨ok2, trivial⟩, trivial⟩
abbrev fd0_.Ty : Type := ((List Int) × Int × L38 × Bool) → Int → Option (Int × (Unit × Unit × L38 × Bool))
def fd0_.Ctr (s : fd0_.Ty) : Prop := ∀ (x1 : (List Int) × Int × L38 × Bool) (x2 : Int) (ch_0_0 : Nat) (ch_0_1 : Option Addr) (ch_0_2 : Nat) (ch_0_3 : Option Addr) (ch_0_4 : Nat) (ch_0_5 : Nat) (r : Int × (Unit × Unit × L38 × Bool)), Ct (C := ((Option Addr) × Nat × Nat)) Tryd.prog 59 (s x1 x2 = some r) [Res.cells ch_0_0 80 [.q yb ch_0_1 ch_0_2 x1.1, .i x1.2.1, .s ch_0_3 ch_0_4 ch_0_5, .b x1.2.2.2], Res.row Y56 56 ch_0_3 ch_0_4 ch_0_5 x1.2.2.1] [(.p ch_0_0), (.i x2)] (fun _ => (.i r.1)) fun ch => [Res.cells ch_0_0 80 [.q yb ch_0_1 ch_0_2 x1.1, .i x1.2.1, .s ch.1 ch.2.1 ch.2.2, .b r.2.2.2.2], Res.row Y56 56 ch.1 ch.2.1 ch.2.2 r.2.2.2.1]
def fd0_.j1 (t1 : (List Int) × (Unit × Unit × L38 × Bool)) (t2 : Int × Bool) (y1 : Bool) : Option (Int × (Unit × Unit × L38 × Bool)) := if y1 = true then (some (0, ((), (), t1.2.2.2.1, true))) else (some (wr .i64 t2.1, ((), (), t1.2.2.2.1, t1.2.2.2.2)))
def fd0_.f (k : Nat) (x1 : (List Int) × Int × L38 × Bool) (x2 : Int) : Option (Int × (Unit × Unit × L38 × Bool)) := (fd7_.f k x1 x2).bind fun t1 => ((ff5_.f t1.1).bind fun t2 => (if (!t2.2) = true then (fd0_.j1 t1 t2 true) else (fd0_.j1 t1 t2 (decide ((wr .u64 ((x1.1).length : Int)) < t2.1)))))
theorem fd0_.ok (k : Nat) : fd0_.Ctr (fd0_.f k) := by
 intro x1 x2 ch_0_0 ch_0_1 ch_0_2 ch_0_3 ch_0_4 ch_0_5 r h0 mi w0 ok hm
 delta fd0_.f at h0
 refine c_enterZ (n := 31) ok hm func59 rfl rfl rfl fun b0 hb a S => c_region (s_assign S rfl rfl fun a S => c_end (c_region (s_move S rfl rfl fun a S => s_move S rfl rfl fun a S => bindX h0 fun t1 et1 h1 => s_callX S (ds' := [(.p ch_0_0), (.i x2)]) (ds := [(.p ch_0_0), (.i x2)]) [Res.cells ch_0_0 80 [.q yb ch_0_1 ch_0_2 x1.1, .i x1.2.1, .s ch_0_3 ch_0_4 ch_0_5, .b x1.2.2.2], Res.row Y56 56 ch_0_3 ch_0_4 ch_0_5 x1.2.2.1] [] (fun (ch : (Option Addr) × Nat × Nat) => ((.a4 t1.1) : D)) (fun (ch : (Option Addr) × Nat × Nat) => [Res.cells ch_0_0 80 [.q yb ch_0_1 ch_0_2 x1.1, .i x1.2.1, .s ch.1 ch.2.1 ch.2.2, .b t1.2.2.2.2], Res.row Y56 56 ch.1 ch.2.1 ch.2.2 t1.2.2.2.1]) (fun (ch : (Option Addr) × Nat × Nat) => [Res.cells ch_0_0 80 [.q yb ch_0_1 ch_0_2 x1.1, .i x1.2.1, .s ch.1 ch.2.1 ch.2.2, .b t1.2.2.2.2], Res.row Y56 56 ch.1 ch.2.1 ch.2.2 t1.2.2.2.1]) (fun _ => rfl) N57 rfl rfl (fun ok => ok) (.c0 (.c0 .n)) rfl (fd7_.ok k x1 x2 ch_0_0 ch_0_1 ch_0_2 ch_0_3 ch_0_4 ch_0_5 t1 et1 _ _) fun ch1 m le1 a w S => bindX h1 fun t2 et2 h2 => s_callP S _ N79 rfl rfl (ff5_.ok t1.1 t2 et2 _ _) fun ch2 m le1 a w S => s_move S rfl rfl fun a S => s_extract S rfl rfl rfl rfl fun a S => s_extract S rfl rfl rfl rfl fun a S => s_assign S rfl rfl fun a S => s_assign S rfl rfl fun a S => c_end (wp_seq (wp_seq_k fun K1 hK1 => ?_)))))
 have j1 : ∀ m y1 A1 nn1 cp1 a w, St 31 m b0 [(25, (.b y1)), (5, (.w t2.1)), (0, (.p ch_0_0))] [Res.cells ch_0_0 80 [.q yb ch_0_1 ch_0_2 x1.1, .i x1.2.1, .s A1 nn1 cp1, .b t1.2.2.2.2], Res.row Y56 56 A1 nn1 cp1 t1.2.2.2.1] a w → fd0_.j1 t1 t2 y1 = some r → K1 a w := by
  intro m y1 A1 nn1 cp1 a w S h0
  delta fd0_.j1 at h0
  refine hK1 a w ?_
  rcases ite_of h0 with ⟨c1, h1⟩ | ⟨c1, h1⟩
  ·refine c_condT S rfl c1 (c_region (s_move S rfl rfl fun a S => s_nilchk S rfl rfl fun a S => s_fieldAddr S rfl I80_3 T4 (by decide) rfl rfl fun a S => s_store S rfl rfl rfl (s' := [.q yb ch_0_1 ch_0_2 x1.1, .i x1.2.1, .s A1 nn1 cp1, .b true]) .h T4 rfl rfl fun w S => c_end (c_region (s_assign S rfl rfl fun a S => c_end (wp_ret (x_thenR ?_))))))
   obtain rfl := Option.some.inj h1
   exact b_ret1 (d := (.i 0)) S rfl rfl fun ok => S.retX (Hx := []) hb _ _ ((A1, nn1, cp1) : (Option Addr) × Nat × Nat) (.c0 (.c0 .n)) ok
  ·refine c_condF S rfl c1 (wp_skip (x_thenN (c_region (s_move S rfl rfl fun a S => s_conv S rfl rfl underlying3 rfl fun a S => s_assign S rfl rfl fun a S => c_end (wp_ret ?_)))))
   obtain rfl := Option.some.inj h1
   exact b_ret1 (d := (.i (wr .i64 t2.1))) S rfl rfl fun ok => S.retX (Hx := []) hb _ _ ((A1, nn1, cp1) : (Option Addr) × Nat × Nat) (.c0 (.c0 .n)) ok
 refine c_region' (s_move S rfl rfl fun a S => s_not S rfl rfl fun a S => s_move S rfl rfl fun a S => ?_)
 rcases ite_of h2 with ⟨c2, h3⟩ | ⟨c2, h3⟩
 ·refine s_gF S (b := (!t2.2)) rfl rfl c2 rfl fun a S => s_gF S (b := (!t2.2)) rfl rfl c2 rfl fun a S => s_gF S (b := (!t2.2)) rfl rfl c2 rfl fun a S => s_gF S (b := (!t2.2)) rfl rfl c2 rfl fun a S => s_gF S (b := (!t2.2)) rfl rfl c2 rfl fun a S => s_gF S (b := (!t2.2)) rfl rfl c2 rfl fun a S => s_gF S (b := (!t2.2)) rfl rfl c2 rfl fun a S => s_gF S (b := (!t2.2)) rfl rfl c2 rfl fun a S => s_pick S (b := true) (hc_of rfl c2) rfl rfl fun a S => c_end' (x_thenN ?_)
  exact j1 _ true ch1.1 ch1.2.1 ch1.2.2 a w (S.sb rfl (.c0 (.c0 .n))) h3
 ·refine s_gT S (b := (!t2.2)) rfl rfl c2 (s_move S rfl rfl fun a S => s_gT S (b := (!t2.2)) rfl rfl c2 (s_move S rfl rfl fun a S => s_gT S (b := (!t2.2)) rfl rfl c2 (s_nilchk S rfl rfl fun a S => s_gT S (b := (!t2.2)) rfl rfl c2 (s_fieldAddr S rfl I80_0 T26 (by decide) rfl rfl fun a S => s_gT S (b := (!t2.2)) rfl rfl c2 (s_loadSl S rfl .h T26 (A := ch_0_1) (len := (x1.1).length) (cap := ch_0_2) rfl rfl fun a S => s_gT S (b := (!t2.2)) rfl rfl c2 (s_lenS S rfl underlying26 rfl fun a S => s_gT S (b := (!t2.2)) rfl rfl c2 (s_conv S rfl rfl underlying52 rfl fun a S => s_gT S (b := (!t2.2)) rfl rfl c2 (s_bin S rfl rfl rfl rfl fun a S => s_pick S (b := false) (hc_of rfl c2) rfl rfl fun a S => c_end' (x_thenN ?_)))))))))
  exact j1 _ (decide ((wr .u64 ((x1.1).length : Int)) < t2.1)) ch1.1 ch1.2.1 ch1.2.2 a w (S.sb rfl (.c0 (.c0 .n))) h3
abbrev fa7_.Ty : Type := Int → Option Bool
def fa7_.Ctr (s : fa7_.Ty) : Prop := ∀ (x1 : Int) (r : Bool), Ct (C := Unit) Tryd.prog 77 (s x1 = some r) [] [(.v (.int .u8 x1))] (fun _ => (.b r)) fun _ => []
def fa7_.f (x1 : Int) : Option Bool := some (x1 != 0)
theorem fa7_.ok : fa7_.Ctr (fa7_.f) := by
 intro x1 r h0 mi w0 ok hm
 delta fa7_.f at h0
 refine c_enterZ (n := 5) ok hm func77 rfl rfl rfl fun b0 hb a S => c_region (s_assign S rfl rfl fun a S => c_end (c_region (s_move S rfl rfl fun a S => s_bin S rfl rfl rfl rfl fun a S => s_assign S rfl rfl fun a S => c_end (wp_ret ?_))))
 obtain rfl := Option.some.inj h0
 exact b_ret1 (d := (.b (x1 != 0))) S rfl rfl (S.rt hb)
abbrev fa0_.Ty : Type := (List Int) → Option Int
def fa0_.Ctr (s : fa0_.Ty) : Prop := ∀ (x1 : List Int) (ch_0_0 : Option Addr) (ch_0_1 : Nat) (r : Int), Ct (C := Unit) Tryd.prog 84 (s x1 = some r) [] [(.q yb ch_0_0 ch_0_1 x1), (.v (.func (.func 77) #[] #[]))] (fun _ => (.i r)) fun _ => []
def fa0_.j1 : Option Int := some (-1)
def fa0_.b1 (x1 : List Int) (rec1 : Int → Option Int) (y1 : Int) : Option Int := if (decide (y1 < ((x1).length : Int))) = true then (if (0 : Int) ≤ y1 ∧ y1 < ((x1).length : Int) then ((fa7_.f (rd x1 y1)).bind fun t1 => (if t1 = true then (some y1) else (rec1 (wr .i64 (y1 + 1))))) else none) else fa0_.j1
def fa0_.l1 (x1 : List Int) : Nat → Int → Option Int
  | 0, _ => none
  | q + 1, y1 => fa0_.b1 x1 (fa0_.l1 x1 q) y1
def fa0_.f (k : Nat) (x1 : List Int) : Option Int := fa0_.l1 x1 k 0
theorem fa0_.ok (k : Nat) : fa0_.Ctr (fa0_.f k) := by
 intro x1 ch_0_0 ch_0_1 r h0 mi w0 ok hm
 delta fa0_.f at h0
 refine c_enterZ (n := 19) ok hm func84 rfl rfl rfl fun b0 hb a S => c_region (s_assign S rfl rfl fun a S => c_end (wp_seq_k fun K1 hK1 => ?_))
 have j1 : ∀ m a w, St 19 m b0 [] [] a w → fa0_.j1 = some r → K1 a w := by
  intro m a w S h0
  delta fa0_.j1 at h0
  refine hK1 a w (c_region (s_assign S rfl rfl fun a S => c_end (wp_ret ?_)))
  obtain rfl := Option.some.inj h0
  exact b_ret1 (d := (.i (-1))) S rfl rfl (S.rt hb)
 refine c_region (s_move S rfl rfl fun a S => s_lenS S rfl underlying26 rfl fun a S => s_move S rfl rfl fun a S => c_end (wp_block ?_))
 refine c_loop (fun q1 a w => ∃ m y1, St 19 m b0 [(8, (.i y1)), (7, (.i ((x1).length : Int))), (0, (.q yb ch_0_0 ch_0_1 x1)), (1, (.v (.func (.func 77) #[] #[])))] [] a w ∧ fa0_.l1 x1 q1 y1 = some r) ?_ ?_ (k := k) ⟨_, 0, (S.sb rfl .nil), h0⟩
 ·rintro a w ⟨m, y1, S, h0⟩
  exact (nomatch (show (none : Option Int) = some r from h0))
 ·clear S h0
  rintro q1 a w ⟨m, y1, S, h0⟩
  replace h0 : fa0_.b1 x1 (fa0_.l1 x1 q1) y1 = some r := h0
  delta fa0_.b1 at h0
  refine c_region (s_bin S rfl rfl rfl rfl fun a S => c_end (wp_seq ?_))
  rcases ite_of h0 with ⟨c1, h1⟩ | ⟨c1, h1⟩
  ·refine c_condT S rfl c1 (wp_skip (x_thenN (wp_seq (wp_block (c_region (s_move S rfl rfl fun a S => s_assign S rfl rfl fun a S => c_end (c_region (s_move S rfl rfl fun a S => s_move S rfl rfl fun a S => s_move S rfl rfl fun a S => ?_))))))))
   obtain ⟨c2, h2⟩ := chk_of h1; clear h1
   refine s_iaddrS S rfl rfl rfl underlying26 T5 c2.1 c2.2 rfl fun p1 a S => s_ld1 S (v := (.int .u8 (rd x1 y1))) rfl T5 (fun _ => rfl) rfl fun a S => bindX h2 fun t1 et1 h3 => s_callP S _ N77 rfl rfl (fa7_.ok (rd x1 y1) t1 et1 _ _) fun ch1 m le1 a w S => c_end ?_
   rcases ite_of h3 with ⟨c3, h4⟩ | ⟨c3, h4⟩
   ·refine c_condT S rfl c3 (c_region (s_move S rfl rfl fun a S => s_assign S rfl rfl fun a S => c_end (wp_ret (x_blockR (x_thenR (x_thenR (x_blockR (x_thenR ?_))))))))
    obtain rfl := Option.some.inj h4
    exact b_ret1 (d := (.i y1)) S rfl rfl (S.rt hb)
   ·refine c_condF S rfl c3 (wp_skip (x_blockN (x_thenN (c_region' (s_bin S rfl rfl rfl rfl fun a S => s_move S rfl rfl fun a S => c_end' (x_thenN ?_))))))
    exact ⟨_, (wr .i64 (y1 + 1)), (S.sb rfl .nil), h4⟩
  ·refine c_condF S rfl c1 (wp_exit (x_thenX (x_thenX (x_blockX (x_thenN ?_)))))
   exact j1 _ a w (S.sub trivial .nil) h1
abbrev fa_.Ty : Type := (List Int) → Option Bool
def fa_.Ctr (s : fa_.Ty) : Prop := ∀ (x1 : List Int) (ch_0_0 : Option Addr) (ch_0_1 : Nat) (r : Bool), Ct (C := Unit) Tryd.prog 76 (s x1 = some r) [] [(.q yb ch_0_0 ch_0_1 x1), (.v (.func (.func 77) #[] #[]))] (fun _ => (.b r)) fun _ => []
def fa_.f (k : Nat) (x1 : List Int) : Option Bool := (fa0_.f k x1).bind fun t1 => (some (decide (0 ≤ t1)))
theorem fa_.ok (k : Nat) : fa_.Ctr (fa_.f k) := by
 intro x1 ch_0_0 ch_0_1 r h0 mi w0 ok hm
 delta fa_.f at h0
 refine c_enterZ (n := 9) ok hm func76 rfl rfl rfl fun b0 hb a S => c_region (s_assign S rfl rfl fun a S => c_end (c_region (s_move S rfl rfl fun a S => s_move S rfl rfl fun a S => bindX h0 fun t1 et1 h1 => s_callP S _ N84 rfl rfl (fa0_.ok k x1 ch_0_0 ch_0_1 t1 et1 _ _) fun ch1 m le1 a w S => s_bin S rfl rfl rfl rfl fun a S => s_assign S rfl rfl fun a S => c_end (wp_ret ?_))))
 obtain rfl := Option.some.inj h1
 exact b_ret1 (d := (.b (decide (0 ≤ t1)))) S rfl rfl (S.rt hb)
abbrev fa4_.Ty : Type := (List Int) → Option ((List Int))
def fa4_.Ctr (s : fa4_.Ty) : Prop := ∀ (x1 : List Int) (ch_0_0 : Option Addr) (ch_0_1 : Nat) (r : (List Int)), Ct (C := ((Option Addr) × Nat × Nat)) Tryd.prog 78 (s x1 = some r) [] [(.q yb ch_0_0 ch_0_1 x1)] (fun ch => (.s ch.1 ch.2.1 ch.2.2)) fun ch => [Res.row yb 5 ch.1 ch.2.1 ch.2.2 r]
def fa4_.f (x1 : List Int) : Option ((List Int)) := if ((([] : List Int)).length + (x1).length) * 1 ≤ 140737488355328 then (some (([] : List Int) ++ x1)) else none
theorem fa4_.ok : fa4_.Ctr (fa4_.f) := by
 intro x1 ch_0_0 ch_0_1 r h0 mi w0 ok hm
 delta fa4_.f at h0
 refine c_enterZ (n := 8) ok hm func78 rfl rfl rfl fun b0 hb a S => c_region (s_assign S rfl rfl fun a S => c_end (wp_seq (c_region (s_move S rfl rfl fun a S => s_eqnil S (b := (ch_0_0).isNone) (d := (.q yb ch_0_0 ch_0_1 x1)) rfl rfl underlying26 rfl rfl rfl fun a S => c_end ?_))))
 cases hc : (ch_0_0).isNone
 ·refine c_condF S rfl hc (wp_skip (x_thenN (c_region (s_bldSl S (ty' := yb) (ds := []) (z := 0) (c0 := ()) (ys := ([] : List Int)) (cs := []) rfl underlying26 J5 Z5 rfl ⟨rfl, trivial⟩ rfl rfl rfl rfl rfl rfl fun g1 a w S => s_move S rfl rfl fun a S => ?_))))
  obtain ⟨c1, h1⟩ := chk_of h0; clear h0
  refine s_app S (k2 := ((x1).length)) (ys := x1) rfl (fun _ _ => .h) rfl rfl rfl (RdS.src (S.get 6 (.q yb ch_0_0 ch_0_1 x1) rfl).2.2.2.1 (by decide) S.frz) underlying26 J5 c1 rfl fun A1 cp1 a w S => s_assign S rfl rfl fun a S => c_end (wp_ret ?_)
  obtain rfl := Option.some.inj h1
  exact b_ret1 (d := (.s A1 (0 + ((x1).length)) cp1)) S rfl rfl fun ok => S.retX (Hx := []) hb _ _ ((A1, 0 + ((x1).length), cp1) : (Option Addr) × Nat × Nat) (.c0 .n) ok
 ·have hxs : x1 = [] := rd_nil hc (S.get 3 (.q yb ch_0_0 ch_0_1 x1) rfl).2.2.2.1
  have h1 : (some ([] : List Int)) = some r := by simpa [hxs] using h0
  clear h0
  refine c_condT S rfl hc (c_region (s_assign S rfl rfl fun a S => c_end (wp_ret (x_thenR ?_))))
  replace S := S.nilrow yb 5
  replace S := S.slot (u := 2) (d' := (.s none 0 0)) rfl rfl (S.get 2 (.s none 0 0) rfl).2
  obtain rfl := Option.some.inj h1
  exact b_ret1 (d := (.s none 0 0)) S rfl rfl fun ok => S.retX (Hx := []) hb _ _ ((none, 0, 0) : (Option Addr) × Nat × Nat) (.c0 .n) ok
end
end GW
