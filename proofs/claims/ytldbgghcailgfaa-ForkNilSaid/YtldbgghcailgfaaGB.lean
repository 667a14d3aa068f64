import Derived.Test.YtldbgghcailgfaaProg
import Derived.Test.YtldbgghcailgfaaGA
set_option linter.unusedVariables false
set_option linter.unusedSimpArgs false
set_option maxRecDepth 10000
set_option maxHeartbeats 4000000
namespace GW
open Go Go.RowKit Go.Proofs Go.Proofs.Try
noncomputable section
abbrev smithyref13_Same.Ty : Type := ((List Int) × Int × (List Int) × (List Int) × (List ((List Int) × (List Int)))) → ((List Int) × Int × (List Int) × (List Int) × (List ((List Int) × (List Int)))) → Option Bool
def smithyref13_Same.Ctr (s : smithyref13_Same.Ty) : Prop := ∀ (x1 : (List Int) × Int × (List Int) × (List Int) × (List ((List Int) × (List Int)))) (x2 : (List Int) × Int × (List Int) × (List Int) × (List ((List Int) × (List Int)))) (ch_0_0 : Option Addr) (ch_0_1 : Nat) (ch_0_2 : Option Addr) (ch_0_3 : Nat) (ch_1_0 : Option Addr) (ch_1_1 : Nat) (ch_1_2 : Option Addr) (ch_1_3 : Nat) (r : Bool), Ct (C := Unit) Try.prog 16 (s x1 x2 = some r) [] [(.agg [.b20 x1.1, .w x1.2.1, .w4 x1.2.2.1, .q yb ch_0_0 ch_0_1 x1.2.2.2.1, .q Y71 ch_0_2 ch_0_3 x1.2.2.2.2]), (.agg [.b20 x2.1, .w x2.2.1, .w4 x2.2.2.1, .q yb ch_1_0 ch_1_1 x2.2.2.2.1, .q Y71 ch_1_2 ch_1_3 x2.2.2.2.2])] (fun _ => (.b r)) fun _ => []
def smithyref13_Same.j2 : Option Bool := some true
def smithyref13_Same.b1 (x1 : (List Int) × Int × (List Int) × (List Int) × (List ((List Int) × (List Int)))) (x2 : (List Int) × Int × (List Int) × (List Int) × (List ((List Int) × (List Int)))) (rec1 : Int → Option Bool) (y5 : Int) : Option Bool := if (decide (y5 < ((x1.2.2.2.2).length : Int))) = true then (if (0 : Int) ≤ y5 ∧ y5 < ((x1.2.2.2.2).length : Int) then (if (0 : Int) ≤ y5 ∧ y5 < ((x2.2.2.2.2).length : Int) then (if (!(decide (gt x1.2.2.2.2 y5 = gt x2.2.2.2.2 y5))) = true then (some false) else (rec1 (wr .i64 (y5 + 1)))) else none) else none) else smithyref13_Same.j2
def smithyref13_Same.l1 (x1 : (List Int) × Int × (List Int) × (List Int) × (List ((List Int) × (List Int)))) (x2 : (List Int) × Int × (List Int) × (List Int) × (List ((List Int) × (List Int)))) : Nat → Int → Option Bool
  | 0, _ => none
  | q + 1, y5 => smithyref13_Same.b1 x1 x2 (smithyref13_Same.l1 x1 x2 q) y5
def smithyref13_Same.j1 (k : Nat) (x1 : (List Int) × Int × (List Int) × (List Int) × (List ((List Int) × (List Int)))) (x2 : (List Int) × Int × (List Int) × (List Int) × (List ((List Int) × (List Int)))) (y1 : Bool) : Option Bool := if y1 = true then (some false) else (smithyref13_Same.l1 x1 x2 k 0)
def smithyref13_Same.f (k : Nat) (x1 : (List Int) × Int × (List Int) × (List Int) × (List ((List Int) × (List Int)))) (x2 : (List Int) × Int × (List Int) × (List Int) × (List ((List Int) × (List Int)))) : Option Bool := if (!(decide (x1.1 = x2.1))) = true then (smithyref13_Same.j1 k x1 x2 true) else (if (x1.2.1 != x2.2.1) = true then (smithyref13_Same.j1 k x1 x2 true) else (if (!(decide (x1.2.2.1 = x2.2.2.1))) = true then (smithyref13_Same.j1 k x1 x2 true) else (if (!((bstr x1.2.2.2.1).toList == (bstr x2.2.2.2.1).toList)) = true then (smithyref13_Same.j1 k x1 x2 true) else (smithyref13_Same.j1 k x1 x2 (((x1.2.2.2.2).length : Int) != ((x2.2.2.2.2).length : Int))))))
theorem smithyref13_Same.ok (k : Nat) : smithyref13_Same.Ctr (smithyref13_Same.f k) := by
 intro x1 x2 ch_0_0 ch_0_1 ch_0_2 ch_0_3 ch_1_0 ch_1_1 ch_1_2 ch_1_3 r h0 mi w0 ok hm
 delta smithyref13_Same.f at h0
 refine c_enterZ (n := 61) ok hm func16 rfl rfl rfl fun b0 hb a S => c_region (s_box S rfl rfl rfl fun g1 a w S => s_box S rfl rfl rfl fun g2 a w S => s_assign S rfl rfl fun a S => c_end (wp_seq (wp_seq_k fun K1 hK1 => ?_)))
 have j1 : ∀ m y1 g3 g4 a w, St 61 m b0 [(42, (.b y1)), (3, (.p g3)), (2, (.p g4))] [Res.cells g3 34 [.b20 x2.1, .w x2.2.1, .w4 x2.2.2.1, .q yb ch_1_0 ch_1_1 x2.2.2.2.1, .q Y71 ch_1_2 ch_1_3 x2.2.2.2.2], Res.cells g4 34 [.b20 x1.1, .w x1.2.1, .w4 x1.2.2.1, .q yb ch_0_0 ch_0_1 x1.2.2.2.1, .q Y71 ch_0_2 ch_0_3 x1.2.2.2.2]] a w → smithyref13_Same.j1 k x1 x2 y1 = some r → K1 a w := by
  intro m y1 g3 g4 a w S h0
  delta smithyref13_Same.j1 at h0
  refine hK1 a w ?_
  rcases ite_of h0 with ⟨c1, h1⟩ | ⟨c1, h1⟩
  ·refine c_condT S rfl c1 (c_region (s_assign S rfl rfl fun a S => c_end (wp_ret (x_thenR ?_))))
   obtain rfl := Option.some.inj h1
   exact b_ret1 (d := (.b false)) S rfl rfl (S.rt hb)
  ·refine c_condF S rfl c1 (wp_skip (x_thenN (wp_seq_k fun K2 hK2 => ?_)))
   have j2 : ∀ m a w, St 61 m b0 [] [] a w → smithyref13_Same.j2 = some r → K2 a w := by
    intro m a w S h0
    delta smithyref13_Same.j2 at h0
    refine hK2 a w (c_region (s_assign S rfl rfl fun a S => c_end (wp_ret ?_)))
    obtain rfl := Option.some.inj h0
    exact b_ret1 (d := (.b true)) S rfl rfl (S.rt hb)
   refine c_region (s_fieldAddr S rfl I34_4 T32 (by decide) rfl rfl fun a S => s_loadSl S rfl .h1 T32 (A := ch_0_2) (len := (x1.2.2.2.2).length) (cap := ch_0_3) rfl rfl fun a S => s_lenS S rfl underlying32 rfl fun a S => s_move S rfl rfl fun a S => c_end (wp_block ?_))
   refine c_loop (fun q1 a w => ∃ m y5 g15 g16, St 61 m b0 [(46, (.i y5)), (45, (.i ((x1.2.2.2.2).length : Int))), (3, (.p g15)), (2, (.p g16))] [Res.cells g15 34 [.b20 x2.1, .w x2.2.1, .w4 x2.2.2.1, .q yb ch_1_0 ch_1_1 x2.2.2.2.1, .q Y71 ch_1_2 ch_1_3 x2.2.2.2.2], Res.cells g16 34 [.b20 x1.1, .w x1.2.1, .w4 x1.2.2.1, .q yb ch_0_0 ch_0_1 x1.2.2.2.1, .q Y71 ch_0_2 ch_0_3 x1.2.2.2.2]] a w ∧ smithyref13_Same.l1 x1 x2 q1 y5 = some r) ?_ ?_ (k := k) ⟨_, 0, g3, g4, (S.sb rfl (.c0 (.c0 .n))), h1⟩
   ·rintro a w ⟨m, y5, g15, g16, S, h0⟩
    exact (nomatch (show (none : Option Bool) = some r from h0))
   ·clear S h1
    rintro q1 a w ⟨m, y5, g15, g16, S, h0⟩
    replace h0 : smithyref13_Same.b1 x1 x2 (smithyref13_Same.l1 x1 x2 q1) y5 = some r := h0
    delta smithyref13_Same.b1 at h0
    refine c_region (s_bin S rfl rfl rfl rfl fun a S => c_end (wp_seq ?_))
    rcases ite_of h0 with ⟨c2, h1⟩ | ⟨c2, h1⟩
    ·refine c_condT S rfl c2 (wp_skip (x_thenN (wp_seq (wp_block (c_region (s_move S rfl rfl fun a S => s_assign S rfl rfl fun a S => c_end ?_))))))
     refine wp_seq (c_heldS S (.take 0 (.take 1 (.take 2 (.take 3 (.take 4 (.take 5 (.take 6 (.take 7 (.take 8 (.take 9 (.take 10 .done))))))))))) 11 [Res.cells g15 34 [.b20 x2.1, .w x2.2.1, .w4 x2.2.2.1, .q yb ch_1_0 ch_1_1 x2.2.2.2.1, .q Y71 ch_1_2 ch_1_3 x2.2.2.2.2], Res.cells g16 34 [.b20 x1.1, .w x1.2.1, .w4 x1.2.2.1, .q yb ch_0_0 ch_0_1 x1.2.2.2.1, .q Y71 ch_0_2 ch_0_3 x1.2.2.2.2]] (.c0 (.c0 .n)) ⟨Res.stay_cells, Res.stay_cells, trivial⟩ [(5, (.i y5)), (3, (.p g15)), (2, (.p g16))] (subR rfl) (by kernel_rfl) (by kernel_rfl) ?_); clear S; intro w S CL hw le
     refine h_fieldAddr S CL hw le (subR rfl) rfl I34_4 T32 (by decide) rfl rfl rfl trivial fun a S CL => h_loadSl S CL hw le (subR rfl) rfl .h1 T32 (A := ch_0_2) (len := (x1.2.2.2.2).length) (cap := ch_0_3) rfl rfl rfl trivial fun a S CL => h_move S CL hw le (subR rfl) rfl rfl rfl trivial fun a S CL => ?_
     obtain ⟨c3, h2⟩ := chk_of h1; clear h1
     refine h_iaddrS S CL hw le (subR rfl) rfl rfl rfl underlying32 T71 c3.1 c3.2 rfl rfl trivial fun p1 a S CL => h_ldA S CL hw le (subR rfl) (fun (c : Unit × Unit) => [.w4 ((gt x1.2.2.2.2 y5).1), .w4 ((gt x1.2.2.2.2 y5).2)]) rfl T71 (fun _ => rfl) rfl rfl trivial fun ch1 a S CL => ?_
     refine h_fieldAddr S CL hw le (subR rfl) rfl I34_4 T32 (by decide) rfl rfl rfl trivial fun a S CL => h_loadSl S CL hw le (subR rfl) rfl .h T32 (A := ch_1_2) (len := (x2.2.2.2.2).length) (cap := ch_1_3) rfl rfl rfl trivial fun a S CL => h_move S CL hw le (subR rfl) rfl rfl rfl trivial fun a S CL => ?_
     obtain ⟨c4, h3⟩ := chk_of h2; clear h2
     refine h_iaddrS S CL hw le (subR rfl) rfl rfl rfl underlying32 T71 c4.1 c4.2 rfl rfl trivial fun p2 a S CL => h_ldA S CL hw le (subR rfl) (fun (c : Unit × Unit) => [.w4 ((gt x2.2.2.2.2 y5).1), .w4 ((gt x2.2.2.2.2 y5).2)]) rfl T71 (fun _ => rfl) rfl rfl trivial fun ch2 a S CL => ?_
     refine h_neS S CL hw le (subR rfl) (ty' := Y71) (p := gt x1.2.2.2.2 y5) (q := gt x2.2.2.2.2 y5) ((), ()) ((), ()) rfl rfl E71 rfl Q71 rfl rfl trivial fun a S CL => ?_
     refine h_done ?_; clear CL hw le
     refine x_thenN ?_
     rcases ite_of h3 with ⟨c5, h4⟩ | ⟨c5, h4⟩
     ·refine c_condT S rfl c5 (c_region (s_assign S rfl rfl fun a S => c_end (wp_ret (x_blockR (x_thenR (x_thenR (x_blockR (x_thenR ?_))))))))
      obtain rfl := Option.some.inj h4
      exact b_ret1 (d := (.b false)) S rfl rfl (S.rt hb)
     ·refine c_condF S rfl c5 (wp_skip (x_blockN (x_thenN (c_region' (s_bin S rfl rfl rfl rfl fun a S => s_move S rfl rfl fun a S => c_end' (x_thenN ?_))))))
      exact ⟨_, (wr .i64 (y5 + 1)), g15, g16, (S.sb rfl (.c0 (.c0 .n))), h4⟩
    ·refine c_condF S rfl c2 (wp_exit (x_thenX (x_thenX (x_blockX (x_thenN ?_)))))
     exact j2 _ a w (S.sub trivial .nil) h1
 refine c_region' (s_fieldAddr S rfl I34_0 T28 (by decide) rfl rfl fun a S => s_loada S rfl .h1 T28 (s' := [.b20 x1.1]) rfl rfl fun a S => s_fieldAddr S rfl I34_0 T28 (by decide) rfl rfl fun a S => s_loada S rfl .h T28 (s' := [.b20 x2.1]) rfl rfl fun a S => s_nea S rfl rfl underlying28 underlying5 T5 Q28 rfl fun a S => s_move S rfl rfl fun a S => ?_)
 rcases ite_of h0 with ⟨c6, h1⟩ | ⟨c6, h1⟩
 ·refine s_gF S (b := (!(decide (x1.1 = x2.1)))) rfl rfl c6 rfl fun a S => s_gF S (b := (!(decide (x1.1 = x2.1)))) rfl rfl c6 rfl fun a S => s_gF S (b := (!(decide (x1.1 = x2.1)))) rfl rfl c6 rfl fun a S => s_gF S (b := (!(decide (x1.1 = x2.1)))) rfl rfl c6 rfl fun a S => s_gF S (b := (!(decide (x1.1 = x2.1)))) rfl rfl c6 rfl fun a S => s_pick S (b := true) (hc_of rfl c6) rfl rfl fun a S => s_move S rfl rfl fun a S => s_gF S (b := true) rfl rfl rfl rfl fun a S => s_gF S (b := true) rfl rfl rfl rfl fun a S => s_gF S (b := true) rfl rfl rfl rfl fun a S => s_gF S (b := true) rfl rfl rfl rfl fun a S => s_gF S (b := true) rfl rfl rfl rfl fun a S => s_pick S (b := true) (hc_of rfl rfl) rfl rfl fun a S => s_move S rfl rfl fun a S => s_gF S (b := true) rfl rfl rfl rfl fun a S => s_gF S (b := true) rfl rfl rfl rfl fun a S => s_gF S (b := true) rfl rfl rfl rfl fun a S => s_gF S (b := true) rfl rfl rfl rfl fun a S => s_gF S (b := true) rfl rfl rfl rfl fun a S => s_gF S (b := true) rfl rfl rfl rfl fun a S => s_gF S (b := true) rfl rfl rfl rfl fun a S => s_pick S (b := true) (hc_of rfl rfl) rfl rfl fun a S => s_move S rfl rfl fun a S => s_gF S (b := true) rfl rfl rfl rfl fun a S => s_gF S (b := true) rfl rfl rfl rfl fun a S => s_gF S (b := true) rfl rfl rfl rfl fun a S => s_gF S (b := true) rfl rfl rfl rfl fun a S => s_gF S (b := true) rfl rfl rfl rfl fun a S => s_gF S (b := true) rfl rfl rfl rfl fun a S => s_gF S (b := true) rfl rfl rfl rfl fun a S => s_pick S (b := true) (hc_of rfl rfl) rfl rfl fun a S => c_end' (x_thenN ?_)
  exact j1 _ true g2 g1 a w (S.sb rfl (.c0 (.c0 .n))) h1
 ·refine s_gT S (b := (!(decide (x1.1 = x2.1)))) rfl rfl c6 (s_fieldAddr S rfl I34_1 T29 (by decide) rfl rfl fun a S => s_gT S (b := (!(decide (x1.1 = x2.1)))) rfl rfl c6 (s_load1 S rfl .h1 T29 (v := (.int .u64 x1.2.1)) rfl rfl fun a S => s_gT S (b := (!(decide (x1.1 = x2.1)))) rfl rfl c6 (s_fieldAddr S rfl I34_1 T29 (by decide) rfl rfl fun a S => s_gT S (b := (!(decide (x1.1 = x2.1)))) rfl rfl c6 (s_load1 S rfl .h T29 (v := (.int .u64 x2.2.1)) rfl rfl fun a S => s_gT S (b := (!(decide (x1.1 = x2.1)))) rfl rfl c6 (s_bin S rfl rfl rfl rfl fun a S => s_pick S (b := false) (hc_of rfl c6) rfl rfl fun a S => s_move S rfl rfl fun a S => ?_)))))
  rcases ite_of h1 with ⟨c7, h2⟩ | ⟨c7, h2⟩
  ·refine s_gF S (b := (x1.2.1 != x2.2.1)) rfl rfl c7 rfl fun a S => s_gF S (b := (x1.2.1 != x2.2.1)) rfl rfl c7 rfl fun a S => s_gF S (b := (x1.2.1 != x2.2.1)) rfl rfl c7 rfl fun a S => s_gF S (b := (x1.2.1 != x2.2.1)) rfl rfl c7 rfl fun a S => s_gF S (b := (x1.2.1 != x2.2.1)) rfl rfl c7 rfl fun a S => s_pick S (b := true) (hc_of rfl c7) rfl rfl fun a S => s_move S rfl rfl fun a S => s_gF S (b := true) rfl rfl rfl rfl fun a S => s_gF S (b := true) rfl rfl rfl rfl fun a S => s_gF S (b := true) rfl rfl rfl rfl fun a S => s_gF S (b := true) rfl rfl rfl rfl fun a S => s_gF S (b := true) rfl rfl rfl rfl fun a S => s_gF S (b := true) rfl rfl rfl rfl fun a S => s_gF S (b := true) rfl rfl rfl rfl fun a S => s_pick S (b := true) (hc_of rfl rfl) rfl rfl fun a S => s_move S rfl rfl fun a S => s_gF S (b := true) rfl rfl rfl rfl fun a S => s_gF S (b := true) rfl rfl rfl rfl fun a S => s_gF S (b := true) rfl rfl rfl rfl fun a S => s_gF S (b := true) rfl rfl rfl rfl fun a S => s_gF S (b := true) rfl rfl rfl rfl fun a S => s_gF S (b := true) rfl rfl rfl rfl fun a S => s_gF S (b := true) rfl rfl rfl rfl fun a S => s_pick S (b := true) (hc_of rfl rfl) rfl rfl fun a S => c_end' (x_thenN ?_)
   exact j1 _ true g2 g1 a w (S.sb rfl (.c0 (.c0 .n))) h2
  ·refine s_gT S (b := (x1.2.1 != x2.2.1)) rfl rfl c7 (s_fieldAddr S rfl I34_2 T31 (by decide) rfl rfl fun a S => s_gT S (b := (x1.2.1 != x2.2.1)) rfl rfl c7 (s_loada S rfl .h1 T31 (s' := [.w4 x1.2.2.1]) rfl rfl fun a S => s_gT S (b := (x1.2.1 != x2.2.1)) rfl rfl c7 (s_fieldAddr S rfl I34_2 T31 (by decide) rfl rfl fun a S => s_gT S (b := (x1.2.1 != x2.2.1)) rfl rfl c7 (s_loada S rfl .h T31 (s' := [.w4 x2.2.2.1]) rfl rfl fun a S => s_gT S (b := (x1.2.1 != x2.2.1)) rfl rfl c7 (s_nea S rfl rfl underlying31 underlying29 T29 Q31 rfl fun a S => s_pick S (b := false) (hc_of rfl c7) rfl rfl fun a S => s_move S rfl rfl fun a S => ?_)))))
   rcases ite_of h2 with ⟨c8, h3⟩ | ⟨c8, h3⟩
   ·refine s_gF S (b := (!(decide (x1.2.2.1 = x2.2.2.1)))) rfl rfl c8 rfl fun a S => s_gF S (b := (!(decide (x1.2.2.1 = x2.2.2.1)))) rfl rfl c8 rfl fun a S => s_gF S (b := (!(decide (x1.2.2.1 = x2.2.2.1)))) rfl rfl c8 rfl fun a S => s_gF S (b := (!(decide (x1.2.2.1 = x2.2.2.1)))) rfl rfl c8 rfl fun a S => s_gF S (b := (!(decide (x1.2.2.1 = x2.2.2.1)))) rfl rfl c8 rfl fun a S => s_gF S (b := (!(decide (x1.2.2.1 = x2.2.2.1)))) rfl rfl c8 rfl fun a S => s_gF S (b := (!(decide (x1.2.2.1 = x2.2.2.1)))) rfl rfl c8 rfl fun a S => s_pick S (b := true) (hc_of rfl c8) rfl rfl fun a S => s_move S rfl rfl fun a S => s_gF S (b := true) rfl rfl rfl rfl fun a S => s_gF S (b := true) rfl rfl rfl rfl fun a S => s_gF S (b := true) rfl rfl rfl rfl fun a S => s_gF S (b := true) rfl rfl rfl rfl fun a S => s_gF S (b := true) rfl rfl rfl rfl fun a S => s_gF S (b := true) rfl rfl rfl rfl fun a S => s_gF S (b := true) rfl rfl rfl rfl fun a S => s_pick S (b := true) (hc_of rfl rfl) rfl rfl fun a S => c_end' (x_thenN ?_)
    exact j1 _ true g2 g1 a w (S.sb rfl (.c0 (.c0 .n))) h3
   ·refine s_gT S (b := (!(decide (x1.2.2.1 = x2.2.2.1)))) rfl rfl c8 (s_fieldAddr S rfl I34_3 T24 (by decide) rfl rfl fun a S => s_gT S (b := (!(decide (x1.2.2.1 = x2.2.2.1)))) rfl rfl c8 (s_loadSl S rfl .h1 T24 (A := ch_0_0) (len := (x1.2.2.2.1).length) (cap := ch_0_1) rfl rfl fun a S => s_gT S (b := (!(decide (x1.2.2.1 = x2.2.2.1)))) rfl rfl c8 (s_strS S rfl rfl underlying24 underlying5 underlying9 rfl fun a S => s_gT S (b := (!(decide (x1.2.2.1 = x2.2.2.1)))) rfl rfl c8 (s_fieldAddr S rfl I34_3 T24 (by decide) rfl rfl fun a S => s_gT S (b := (!(decide (x1.2.2.1 = x2.2.2.1)))) rfl rfl c8 (s_loadSl S rfl .h T24 (A := ch_1_0) (len := (x2.2.2.2.1).length) (cap := ch_1_1) rfl rfl fun a S => s_gT S (b := (!(decide (x1.2.2.1 = x2.2.2.1)))) rfl rfl c8 (s_strS S rfl rfl underlying24 underlying5 underlying9 rfl fun a S => s_gT S (b := (!(decide (x1.2.2.1 = x2.2.2.1)))) rfl rfl c8 (s_neT S rfl rfl rfl fun a S => s_pick S (b := false) (hc_of rfl c8) rfl rfl fun a S => s_move S rfl rfl fun a S => ?_)))))))
    rcases ite_of h3 with ⟨c9, h4⟩ | ⟨c9, h4⟩
    ·refine s_gF S (b := (!((bstr x1.2.2.2.1).toList == (bstr x2.2.2.2.1).toList))) rfl rfl c9 rfl fun a S => s_gF S (b := (!((bstr x1.2.2.2.1).toList == (bstr x2.2.2.2.1).toList))) rfl rfl c9 rfl fun a S => s_gF S (b := (!((bstr x1.2.2.2.1).toList == (bstr x2.2.2.2.1).toList))) rfl rfl c9 rfl fun a S => s_gF S (b := (!((bstr x1.2.2.2.1).toList == (bstr x2.2.2.2.1).toList))) rfl rfl c9 rfl fun a S => s_gF S (b := (!((bstr x1.2.2.2.1).toList == (bstr x2.2.2.2.1).toList))) rfl rfl c9 rfl fun a S => s_gF S (b := (!((bstr x1.2.2.2.1).toList == (bstr x2.2.2.2.1).toList))) rfl rfl c9 rfl fun a S => s_gF S (b := (!((bstr x1.2.2.2.1).toList == (bstr x2.2.2.2.1).toList))) rfl rfl c9 rfl fun a S => s_pick S (b := true) (hc_of rfl c9) rfl rfl fun a S => c_end' (x_thenN ?_)
     exact j1 _ true g2 g1 a w (S.sb rfl (.c0 (.c0 .n))) h4
    ·refine s_gT S (b := (!((bstr x1.2.2.2.1).toList == (bstr x2.2.2.2.1).toList))) rfl rfl c9 (s_fieldAddr S rfl I34_4 T32 (by decide) rfl rfl fun a S => s_gT S (b := (!((bstr x1.2.2.2.1).toList == (bstr x2.2.2.2.1).toList))) rfl rfl c9 (s_loadSl S rfl .h1 T32 (A := ch_0_2) (len := (x1.2.2.2.2).length) (cap := ch_0_3) rfl rfl fun a S => s_gT S (b := (!((bstr x1.2.2.2.1).toList == (bstr x2.2.2.2.1).toList))) rfl rfl c9 (s_lenS S rfl underlying32 rfl fun a S => s_gT S (b := (!((bstr x1.2.2.2.1).toList == (bstr x2.2.2.2.1).toList))) rfl rfl c9 (s_fieldAddr S rfl I34_4 T32 (by decide) rfl rfl fun a S => s_gT S (b := (!((bstr x1.2.2.2.1).toList == (bstr x2.2.2.2.1).toList))) rfl rfl c9 (s_loadSl S rfl .h T32 (A := ch_1_2) (len := (x2.2.2.2.2).length) (cap := ch_1_3) rfl rfl fun a S => s_gT S (b := (!((bstr x1.2.2.2.1).toList == (bstr x2.2.2.2.1).toList))) rfl rfl c9 (s_lenS S rfl underlying32 rfl fun a S => s_gT S (b := (!((bstr x1.2.2.2.1).toList == (bstr x2.2.2.2.1).toList))) rfl rfl c9 (s_bin S rfl rfl rfl rfl fun a S => s_pick S (b := false) (hc_of rfl c9) rfl rfl fun a S => c_end' (x_thenN ?_))))))))
     exact j1 _ (((x1.2.2.2.2).length : Int) != ((x2.2.2.2.2).length : Int)) g2 g1 a w (S.sb rfl (.c0 (.c0 .n))) h4
abbrev fork_Cache_Account_0nil.Ty : Type := (List Int) → Option (((List Int) × Int × (List Int) × (List Int) × (List ((List Int) × (List Int)))) × Bool)
def fork_Cache_Account_0nil.Ctr (s : fork_Cache_Account_0nil.Ty) : Prop := ∀ (x1 : List Int) (r : ((List Int) × Int × (List Int) × (List Int) × (List ((List Int) × (List Int)))) × Bool), Ct (C := ((Option Addr) × Nat × (Option Addr) × Nat)) Try.prog 15 (s x1 = some r) [] [(.v (.pointer none)), (.agg [.b20 x1])] (fun ch => (.tup [(true, [.b20 r.1.1, .w r.1.2.1, .w4 r.1.2.2.1, .q yb ch.1 ch.2.1 r.1.2.2.2.1, .q Y71 ch.2.2.1 ch.2.2.2 r.1.2.2.2.2]), (false, [.b r.2])])) fun _ => []
def fork_Cache_Account_0nil.f (x1 : List Int) : Option (((List Int) × Int × (List Int) × (List Int) × (List ((List Int) × (List Int)))) × Bool) := some ((x1, 0, [0, 0, 0, 0], ([] : List Int), ([] : List ((List Int) × (List Int)))), false)
theorem fork_Cache_Account_0nil.ok : fork_Cache_Account_0nil.Ctr (fork_Cache_Account_0nil.f) := by
 intro x1 r h0 mi w0 ok hm
 delta fork_Cache_Account_0nil.f at h0
 refine c_enterZ (n := 24) ok hm func15 rfl rfl rfl fun b0 hb a S => c_region (s_box S rfl rfl rfl fun g1 a w S => s_alloc S Z34 rfl ⟨rfl, rfl, rfl, rfl, rfl, trivial⟩ rfl fun g2 a w S => s_assign S rfl rfl fun a S => c_end (wp_seq (c_region (s_move S rfl rfl fun a S => s_nep S (b := false) rfl rfl underlying36 rfl rfl fun a S => c_end (c_condF S rfl rfl (wp_skip (x_thenN (c_region (s_loada S rfl .h1 T28 (s' := [.b20 x1]) rfl rfl fun a S => s_bldS S (ds := [(0, (.agg [.b20 x1]))]) (zs := [.b20 z20, .w 0, .w4 [0, 0, 0, 0], .s none 0 0, .s none 0 0]) (s' := [.b20 x1, .w 0, .w4 [0, 0, 0, 0], .s none 0 0, .s none 0 0]) rfl underlying34 P34 Z34 ⟨rfl, rfl, rfl, rfl, rfl, trivial⟩ rfl rfl fun a S => s_store S rfl rfl rfl (s' := [.b20 x1, .w 0, .w4 [0, 0, 0, 0], .s none 0 0, .s none 0 0]) .h T34 rfl rfl fun w S => s_assign S rfl rfl fun a S => c_end (wp_ret ?_))))))))))
 replace S := S.cellro (s' := [.b20 x1, .w 0, .w4 [0, 0, 0, 0], .q yb none 0 ([] : List Int), .s none 0 0]) .h rfl (fun h => ⟨h.1, h.2.1, h.2.2.1, ok_nil, h.2.2.2.2.1, trivial⟩)
 replace S := S.cellro (s' := [.b20 x1, .w 0, .w4 [0, 0, 0, 0], .q yb none 0 ([] : List Int), .q Y71 none 0 ([] : List ((List Int) × (List Int)))]) .h rfl (fun h => ⟨h.1, h.2.1, h.2.2.1, h.2.2.2.1, ok_nil, trivial⟩)
 obtain rfl := Option.some.inj h0
 exact b_ret2 (d1 := (.agg [.b20 x1, .w 0, .w4 [0, 0, 0, 0], .q yb none 0 ([] : List Int), .q Y71 none 0 ([] : List ((List Int) × (List Int)))])) (d2 := (.b false)) S rfl (resD_cell rfl .h T34 rfl rfl) rfl fun ok1 ok2 => S.retX (Hx := []) hb _ _ ((none, 0, none, 0) : (Option Addr) × Nat × (Option Addr) × Nat) .nil ⟨ok1, ⟨ok2, trivial⟩, trivial⟩
abbrev fork_Cache_Want_0nil.Ty : Type := (List Int) → Option Int
def fork_Cache_Want_0nil.Ctr (s : fork_Cache_Want_0nil.Ty) : Prop := ∀ (x1 : List Int) (r : Int), Ct (C := Unit) Try.prog 12 (s x1 = some r) [] [(.v (.pointer none)), (.agg [.b20 x1])] (fun _ => (.v (.int .u8 r))) fun _ => []
def fork_Cache_Want_0nil.f (x1 : List Int) : Option Int := some 0
theorem fork_Cache_Want_0nil.ok : fork_Cache_Want_0nil.Ctr (fork_Cache_Want_0nil.f) := by
 intro x1 r h0 mi w0 ok hm
 delta fork_Cache_Want_0nil.f at h0
 refine c_enterZ (n := 36) ok hm func12 rfl rfl rfl fun b0 hb a S => c_region (s_box S rfl rfl rfl fun g1 a w S => s_assign S rfl rfl fun a S => c_end (wp_seq (c_region (s_move S rfl rfl fun a S => s_eqp S (b := true) rfl rfl underlying36 rfl rfl fun a S => c_end (c_condT S rfl rfl (c_region (s_assign S rfl rfl fun a S => c_end (wp_ret (x_thenR ?_)))))))))
 obtain rfl := Option.some.inj h0
 exact b_ret1 (d := (.v (.int .u8 0))) S rfl rfl (S.rt hb)
abbrev fork_Cache_Fill_0nil.Ty : Type := ((List Int) × Int × (List Int) × (List Int) × (List ((List Int) × (List Int)))) → Option Bool
def fork_Cache_Fill_0nil.Ctr (s : fork_Cache_Fill_0nil.Ty) : Prop := ∀ (x1 : (List Int) × Int × (List Int) × (List Int) × (List ((List Int) × (List Int)))) (ch_1_0 : Option Addr) (ch_1_1 : Nat) (ch_1_2 : Option Addr) (ch_1_3 : Nat) (r : Bool), Ct (C := Unit) Try.prog 14 (s x1 = some r) [] [(.v (.pointer none)), (.agg [.b20 x1.1, .w x1.2.1, .w4 x1.2.2.1, .q yb ch_1_0 ch_1_1 x1.2.2.2.1, .q Y71 ch_1_2 ch_1_3 x1.2.2.2.2])] (fun _ => (.b r)) fun _ => []
def fork_Cache_Fill_0nil.f (x1 : (List Int) × Int × (List Int) × (List Int) × (List ((List Int) × (List Int)))) : Option Bool := some false
theorem fork_Cache_Fill_0nil.ok : fork_Cache_Fill_0nil.Ctr (fork_Cache_Fill_0nil.f) := by
 intro x1 ch_1_0 ch_1_1 ch_1_2 ch_1_3 r h0 mi w0 ok hm
 delta fork_Cache_Fill_0nil.f at h0
 refine c_enterZ (n := 40) ok hm func14 rfl rfl rfl fun b0 hb a S => c_region (s_box S rfl rfl rfl fun g1 a w S => s_assign S rfl rfl fun a S => c_end (wp_seq (c_region (s_move S rfl rfl fun a S => s_eqp S (b := true) rfl rfl underlying36 rfl rfl fun a S => s_move S rfl rfl fun a S => s_gF S (b := true) rfl rfl rfl rfl fun a S => s_gF S (b := true) rfl rfl rfl rfl fun a S => s_gF S (b := true) rfl rfl rfl rfl fun a S => s_pick S (b := true) (hc_of rfl rfl) rfl rfl fun a S => c_end (c_condT S rfl rfl (c_region (s_assign S rfl rfl fun a S => c_end (wp_ret (x_thenR ?_)))))))))
 obtain rfl := Option.some.inj h0
 exact b_ret1 (d := (.b false)) S rfl rfl (S.rt hb)
abbrev fork_Cache_Fail_0nil.Ty : Type := (List Int) → Option Int
def fork_Cache_Fail_0nil.Ctr (s : fork_Cache_Fail_0nil.Ty) : Prop := ∀ (x1 : List Int) (r : Int), Ct (C := Unit) Try.prog 13 (s x1 = some r) [] [(.v (.pointer none)), (.agg [.b20 x1])] (fun _ => (.v (.int .u8 r))) fun _ => []
def fork_Cache_Fail_0nil.f (x1 : List Int) : Option Int := some 0
theorem fork_Cache_Fail_0nil.ok : fork_Cache_Fail_0nil.Ctr (fork_Cache_Fail_0nil.f) := by
 intro x1 r h0 mi w0 ok hm
 delta fork_Cache_Fail_0nil.f at h0
 refine c_enterZ (n := 37) ok hm func13 rfl rfl rfl fun b0 hb a S => c_region (s_box S rfl rfl rfl fun g1 a w S => s_assign S rfl rfl fun a S => c_end (wp_seq (c_region (s_move S rfl rfl fun a S => s_eqp S (b := true) rfl rfl underlying36 rfl rfl fun a S => c_end (c_condT S rfl rfl (c_region (s_assign S rfl rfl fun a S => c_end (wp_ret (x_thenR ?_)))))))))
 obtain rfl := Option.some.inj h0
 exact b_ret1 (d := (.v (.int .u8 0))) S rfl rfl (S.rt hb)
abbrev fork_Cache_Tries_0nil.Ty : Type := (List Int) → Option Int
def fork_Cache_Tries_0nil.Ctr (s : fork_Cache_Tries_0nil.Ty) : Prop := ∀ (x1 : List Int) (r : Int), Ct (C := Unit) Try.prog 25 (s x1 = some r) [] [(.v (.pointer none)), (.agg [.b20 x1])] (fun _ => (.i r)) fun _ => []
def fork_Cache_Tries_0nil.f (x1 : List Int) : Option Int := some 0
theorem fork_Cache_Tries_0nil.ok : fork_Cache_Tries_0nil.Ctr (fork_Cache_Tries_0nil.f) := by
 intro x1 r h0 mi w0 ok hm
 delta fork_Cache_Tries_0nil.f at h0
 refine c_enterZ (n := 13) ok hm func25 rfl rfl rfl fun b0 hb a S => c_region (s_box S rfl rfl rfl fun g1 a w S => s_assign S rfl rfl fun a S => c_end (wp_seq (c_region (s_move S rfl rfl fun a S => s_eqp S (b := true) rfl rfl underlying36 rfl rfl fun a S => c_end (c_condT S rfl rfl (c_region (s_assign S rfl rfl fun a S => c_end (wp_ret (x_thenR ?_)))))))))
 obtain rfl := Option.some.inj h0
 exact b_ret1 (d := (.i 0)) S rfl rfl (S.rt hb)
end
end GW
