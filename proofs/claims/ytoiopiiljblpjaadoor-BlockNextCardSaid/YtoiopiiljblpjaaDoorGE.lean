import Derived.Test.YtoiopiiljblpjaaDoorProg
import Derived.Test.YtoiopiiljblpjaaDoorGD
set_option linter.unusedVariables false
set_option maxRecDepth 10000
namespace GW
open Go Go.RowKit Go.Proofs Go.Proofs.Tryd
abbrev smithyref21_Top.Ty : Type := Option ((List Int))
def smithyref21_Top.Ctr (s : smithyref21_Top.Ty) : Prop := ∀ (r : (List Int)), Ct (C := Unit) Tryd.prog 82 (s = some r) [] [] (fun _ => (.a4 r)) fun _ => []
def smithyref21_Top.f : Option ((List Int)) := some [18446744073709551615, 18446744073709551615, 18446744073709551615, 18446744073709551615]
theorem smithyref21_Top.ok : smithyref21_Top.Ctr (smithyref21_Top.f) := by
 intro r h0 mi w0 ok hm
 delta smithyref21_Top.f at h0
 refine c_enterZ (n := 2) ok hm func82 rfl rfl rfl fun b0 hb a S => c_region (s_alloc S Z26 rfl ⟨rfl, trivial⟩ rfl fun g1 a w S => c_end (c_region (s_build S (ds := [(0, (.w 18446744073709551615)), (1, (.w 18446744073709551615)), (2, (.w 18446744073709551615)), (3, (.w 18446744073709551615))]) (dv := (.a4 [18446744073709551615, 18446744073709551615, 18446744073709551615, 18446744073709551615])) rfl (fun _ => by kernel_rfl) ⟨rfl, trivial⟩ rfl fun a S => s_store S rfl rfl rfl (s' := [.w4 [18446744073709551615, 18446744073709551615, 18446744073709551615, 18446744073709551615]]) .h T26 rfl rfl fun w S => c_end (wp_ret ?_))))
 obtain rfl := Option.some.inj h0
 exact b_ret1 (d := (.a4 [18446744073709551615, 18446744073709551615, 18446744073709551615, 18446744073709551615])) S rfl (resD_cell rfl .h T26 rfl rfl) (S.rt hb)
abbrev smithyref01_D_Word.Ty : Type := (List Int) → Option ((List Int))
def smithyref01_D_Word.Ctr (s : smithyref01_D_Word.Ty) : Prop := ∀ (x1 : List Int) (r : (List Int)), Ct (C := Unit) Tryd.prog 66 (s x1 = some r) [] [(.agg [.ints .i64 x1 32])] (fun _ => (.a4 r)) fun _ => []
def smithyref01_D_Word.j1 (y1 : List Int) : Option ((List Int)) := some y1
def smithyref01_D_Word.b1 (x1 : List Int) (rec1 : Int → (List Int) → Option ((List Int))) (y4 : Int) (y5 : List Int) : Option ((List Int)) := if (decide (0 ≤ y4)) = true then (if (0 : Int) ≤ (wr .i64 (Int.tdiv y4 8)) ∧ (wr .i64 (Int.tdiv y4 8)) < 4 then (if (0 : Int) ≤ y4 ∧ y4 < 32 then (rec1 (wr .i64 (y4 - 1)) (y5.set (Int.toNat (wr .i64 (Int.tdiv y4 8))) (wr .u64 ((wr .u64 ((rd y5 (wr .i64 (Int.tdiv y4 8))) * 256)) + (wr .u64 (rd x1 y4)))))) else none) else none) else (smithyref01_D_Word.j1 y5)
def smithyref01_D_Word.l1 (x1 : List Int) : Nat → Int → (List Int) → Option ((List Int))
  | 0, _, _ => none
  | q + 1, y4, y5 => smithyref01_D_Word.b1 x1 (smithyref01_D_Word.l1 x1 q) y4 y5
def smithyref01_D_Word.f (k : Nat) (x1 : List Int) : Option ((List Int)) := smithyref01_D_Word.l1 x1 k 31 [0, 0, 0, 0]
theorem smithyref01_D_Word.ok (k : Nat) : smithyref01_D_Word.Ctr (smithyref01_D_Word.f k) := by
 intro x1 r h0 mi w0 ok hm
 delta smithyref01_D_Word.f at h0
 refine c_enterZ (n := 24) ok hm func66 rfl rfl rfl fun b0 hb a S => c_region (s_box S rfl rfl rfl fun g1 a w S => s_alloc S Z26 rfl ⟨rfl, trivial⟩ rfl fun g2 a w S => c_end (c_region (s_build S (ds := []) (dv := (.a4 [0, 0, 0, 0])) rfl (fun _ => by kernel_rfl) ⟨rfl, trivial⟩ rfl fun a S => s_alloc S Z26 rfl ⟨rfl, trivial⟩ rfl fun g3 a w S => s_store S rfl rfl rfl (s' := [.w4 [0, 0, 0, 0]]) .h T26 rfl rfl fun w S => c_end (wp_seq_k fun K1 hK1 => ?_))))
 have j1 : ∀ m g13 g14 y1 a w, St 24 m b0 [(3, (.p g13)), (2, (.p g14))] [Res.cells g13 26 [.w4 y1], Res.cells g14 26 [.w4 [0, 0, 0, 0]]] a w → smithyref01_D_Word.j1 y1 = some r → K1 a w := by
  intro m g13 g14 y1 a w S h0
  delta smithyref01_D_Word.j1 at h0
  refine hK1 a w (c_region (s_loada S rfl .h T26 (s' := [.w4 y1]) rfl rfl fun a S => s_store S rfl rfl rfl (s' := [.w4 y1]) .h1 T26 rfl rfl fun w S => c_end (wp_ret ?_)))
  obtain rfl := Option.some.inj h0
  exact b_ret1 (d := (.a4 y1)) S rfl (resD_cell rfl .h1 T26 rfl rfl) (S.rt hb)
 refine c_region (s_assign S rfl rfl fun a S => c_end (wp_block ?_))
 refine c_loop (fun q1 a w => ∃ m y4 g21 g22 g23 y5, St 24 m b0 [(4, (.i y4)), (3, (.p g21)), (2, (.p g22)), (1, (.p g23))] [Res.cells g21 26 [.w4 y5], Res.cells g22 26 [.w4 [0, 0, 0, 0]], Res.cells g23 81 [.ints .i64 x1 32]] a w ∧ smithyref01_D_Word.l1 x1 q1 y4 y5 = some r) ?_ ?_ (k := k) ⟨_, 31, g3, g2, g1, [0, 0, 0, 0], (S.sb rfl (.c0 (.c0 (.c0 .n)))), h0⟩
 ·rintro a w ⟨m, y4, g21, g22, g23, y5, S, h0⟩
  exact (nomatch (show (none : Option ((List Int))) = some r from h0))
 ·clear S h0
  rintro q1 a w ⟨m, y4, g21, g22, g23, y5, S, h0⟩
  replace h0 : smithyref01_D_Word.b1 x1 (smithyref01_D_Word.l1 x1 q1) y4 y5 = some r := h0
  delta smithyref01_D_Word.b1 at h0
  refine wp_seq (c_region (s_move S rfl rfl fun a S => s_bin S rfl rfl rfl rfl fun a S => c_end ?_))
  rcases ite_of h0 with ⟨c1, h1⟩ | ⟨c1, h1⟩
  ·refine c_condT S rfl c1 (wp_skip (x_thenN (wp_seq (wp_block (c_heldS S (.take 0 (.take 1 (.take 2 (.take 3 (.take 4 (.take 5 (.take 6 (.take 7 (.take 8 (.take 9 (.take 10 (.take 11 (.take 12 (.alts (.run 13 false .done .nil))))))))))))))) 13 [Res.cells g21 26 [.w4 y5], Res.cells g22 26 [.w4 [0, 0, 0, 0]], Res.cells g23 81 [.ints .i64 x1 32]] (.c0 (.c0 (.c0 .n))) ⟨Res.stay_cells, Res.stay_cells, Res.stay_cells, trivial⟩ [(4, (.i y4)), (3, (.p g21)), (1, (.p g23))] (subR rfl) (by kernel_rfl) (by kernel_rfl) fun w S CL hw le => ?_)))))
   refine h_move S CL hw le (subR rfl) rfl rfl rfl trivial fun a S CL => h_quo S CL hw le (subR rfl) rfl rfl (by decide) rfl rfl trivial fun a S CL => h_move S CL hw le (subR rfl) rfl rfl rfl trivial fun a S CL => h_quo S CL hw le (subR rfl) rfl rfl (by decide) rfl rfl trivial fun a S CL => ?_
   obtain ⟨c2, h2⟩ := chk_of h1; clear h1
   refine h_iaddr S CL hw le (subR rfl) rfl rfl underlying26 T24 c2.1 c2.2 (mul1 _ _) rfl rfl trivial fun a S CL => h_loadi S CL hw le (subR rfl) (i := (wr .i64 (Int.tdiv y4 8))) rfl .h T24 .h rfl c2.1 c2.2 rfl rfl trivial fun a S CL => h_bin S CL hw le (subR rfl) rfl rfl rfl rfl rfl trivial fun a S CL => h_move S CL hw le (subR rfl) rfl rfl rfl trivial fun a S CL => ?_
   obtain ⟨c3, h3⟩ := chk_of h2; clear h2
   refine h_iaddr S CL hw le (subR rfl) rfl rfl underlying81 T3 c3.1 c3.2 (mul1 _ _) rfl rfl trivial fun a S CL => h_loadi S CL hw le (subR rfl) (i := y4) rfl .h2 T3 .h rfl c3.1 c3.2 rfl rfl trivial fun a S CL => h_conv S CL hw le (subR rfl) rfl rfl underlying24 rfl rfl trivial fun a S CL => h_bin S CL hw le (subR rfl) rfl rfl rfl rfl rfl trivial fun a S CL => h_iaddr S CL hw le (subR rfl) rfl rfl underlying26 T24 c2.1 c2.2 (mul1 _ _) rfl rfl trivial fun a S CL => h_run' S rfl trivial (s_storei S (i := (wr .i64 (Int.tdiv y4 8))) rfl rfl .h T24 .h rfl c2.1 c2.2 fun w S => ?_)
   refine h_back ⟨fun h => (nomatch h), ?_⟩
   refine h_done ?_; clear CL hw le
   refine x_blockN (x_thenN (c_region' (s_move S rfl rfl fun a S => s_bin S rfl rfl rfl rfl fun a S => s_assign S rfl rfl fun a S => c_end' (x_thenN ?_))))
   exact ⟨_, (wr .i64 (y4 - 1)), g21, g22, g23, (y5.set (Int.toNat (wr .i64 (Int.tdiv y4 8))) (wr .u64 ((wr .u64 ((rd y5 (wr .i64 (Int.tdiv y4 8))) * 256)) + (wr .u64 (rd x1 y4))))), (S.sb rfl (.c0 (.c0 (.c0 .n)))), h3⟩
  ·refine c_condF S rfl c1 (wp_exit (x_thenX (x_thenX (x_blockX (x_thenN ?_)))))
   exact j1 _ g21 g22 y5 a w (S.sb rfl (.c0 (.c0 .n))) h1
abbrev smithyref02_N_Word.Ty : Type := (List Int) → Option ((List Int))
def smithyref02_N_Word.Ctr (s : smithyref02_N_Word.Ty) : Prop := ∀ (x1 : List Int) (ch_0_0 : Option Addr) (ch_0_1 : Nat) (r : (List Int)), Ct (C := Unit) Tryd.prog 62 (s x1 = some r) [] [(.q yi ch_0_0 ch_0_1 x1)] (fun _ => (.a4 r)) fun _ => []
def smithyref02_N_Word.j1 (k : Nat) (y1 : List Int) : Option ((List Int)) := (smithyref01_D_Word.f k y1).bind fun t1 => (some t1)
def smithyref02_N_Word.b1 (k : Nat) (x1 : List Int) (rec1 : Int → (List Int) → Option ((List Int))) (y4 : Int) (y5 : List Int) : Option ((List Int)) := if (decide (y4 < 32)) = true then ((smithyref02_at.f x1 y4).bind fun t4 => (if (0 : Int) ≤ y4 ∧ y4 < 32 then (rec1 (wr .i64 (y4 + 1)) (y5.set (Int.toNat y4) t4)) else none)) else (smithyref02_N_Word.j1 k y5)
def smithyref02_N_Word.l1 (k : Nat) (x1 : List Int) : Nat → Int → (List Int) → Option ((List Int))
  | 0, _, _ => none
  | q + 1, y4, y5 => smithyref02_N_Word.b1 k x1 (smithyref02_N_Word.l1 k x1 q) y4 y5
def smithyref02_N_Word.f (k : Nat) (x1 : List Int) : Option ((List Int)) := smithyref02_N_Word.l1 k x1 k 0 [0, 0, 0, 0, 0, 0, 0, 0, 0, 0, 0, 0, 0, 0, 0, 0, 0, 0, 0, 0, 0, 0, 0, 0, 0, 0, 0, 0, 0, 0, 0, 0]
theorem smithyref02_N_Word.ok (k : Nat) : smithyref02_N_Word.Ctr (smithyref02_N_Word.f k) := by
 intro x1 ch_0_0 ch_0_1 r h0 mi w0 ok hm
 delta smithyref02_N_Word.f at h0
 refine c_enterZ (n := 17) ok hm func62 rfl rfl rfl fun b0 hb a S => c_region (s_alloc S Z26 rfl ⟨rfl, trivial⟩ rfl fun g1 a w S => c_end (c_region (s_build S (ds := []) (dv := (.agg [.ints .i64 z32 32])) rfl (fun _ => by kernel_rfl) ⟨rfl, trivial⟩ rfl fun a S => s_alloc S Z81 rfl ⟨rfl, trivial⟩ rfl fun g2 a w S => s_store S rfl rfl rfl (s' := [.ints .i64 z32 32]) .h T81 rfl rfl fun w S => c_end (wp_seq_k fun K1 hK1 => ?_))))
 have j1 : ∀ m g9 g10 y1 a w, St 17 m b0 [(3, (.p g9)), (2, (.p g10))] [Res.cells g9 81 [.ints .i64 y1 32], Res.cells g10 26 [.w4 [0, 0, 0, 0]]] a w → smithyref02_N_Word.j1 k y1 = some r → K1 a w := by
  intro m g9 g10 y1 a w S h0
  delta smithyref02_N_Word.j1 at h0
  refine hK1 a w (c_region (s_loada S rfl .h T81 (s' := [.ints .i64 y1 32]) rfl rfl fun a S => bindX h0 fun t1 et1 h1 => s_callP S _ N66 rfl rfl (smithyref01_D_Word.ok k y1 t1 et1 _ _) fun ch1 m le1 a w S => s_store S rfl rfl rfl (s' := [.w4 t1]) .h1 T26 rfl rfl fun w S => c_end (wp_ret ?_)))
  obtain rfl := Option.some.inj h1
  exact b_ret1 (d := (.a4 t1)) S rfl (resD_cell rfl .h1 T26 rfl rfl) (S.rt hb)
 refine c_region (s_assign S rfl rfl fun a S => c_end (wp_block ?_))
 refine c_loop (fun q1 a w => ∃ m y4 g15 g16 y5, St 17 m b0 [(4, (.i y4)), (3, (.p g15)), (2, (.p g16)), (0, (.q yi ch_0_0 ch_0_1 x1))] [Res.cells g15 81 [.ints .i64 y5 32], Res.cells g16 26 [.w4 [0, 0, 0, 0]]] a w ∧ smithyref02_N_Word.l1 k x1 q1 y4 y5 = some r) ?_ ?_ (k := k) ⟨_, 0, g2, g1, z32, (S.sb rfl (.c0 (.c0 .n))), h0⟩
 ·rintro a w ⟨m, y4, g15, g16, y5, S, h0⟩
  exact (nomatch (show (none : Option ((List Int))) = some r from h0))
 ·clear S h0
  rintro q1 a w ⟨m, y4, g15, g16, y5, S, h0⟩
  replace h0 : smithyref02_N_Word.b1 k x1 (smithyref02_N_Word.l1 k x1 q1) y4 y5 = some r := h0
  delta smithyref02_N_Word.b1 at h0
  refine wp_seq (c_region (s_move S rfl rfl fun a S => s_bin S rfl rfl rfl rfl fun a S => c_end ?_))
  rcases ite_of h0 with ⟨c1, h1⟩ | ⟨c1, h1⟩
  ·refine c_condT S rfl c1 (wp_skip (x_thenN (wp_seq (wp_block (c_region' (s_move S rfl rfl fun a S => s_move S rfl rfl fun a S => s_move S rfl rfl fun a S => bindX h1 fun t4 et4 h2 => s_callP S _ N79 rfl rfl (smithyref02_at.ok x1 y4 ch_0_0 ch_0_1 t4 et4 _ _) fun ch2 m le1 a w S => ?_))))))
   obtain ⟨c2, h3⟩ := chk_of h2; clear h2
   refine s_iaddr S rfl rfl underlying81 T3 c2.1 c2.2 (mul1 _ _) rfl fun a S => s_storei S (i := y4) rfl rfl .h T3 .h rfl c2.1 c2.2 fun w S => c_end' (x_blockN (x_thenN (c_region' (s_move S rfl rfl fun a S => s_bin S rfl rfl rfl rfl fun a S => s_assign S rfl rfl fun a S => c_end' (x_thenN ?_)))))
   exact ⟨_, (wr .i64 (y4 + 1)), g15, g16, (y5.set (Int.toNat y4) t4), (S.sb rfl (.c0 (.c0 .n))), h3⟩
  ·refine c_condF S rfl c1 (wp_exit (x_thenX (x_thenX (x_blockX (x_thenN ?_)))))
   exact j1 _ g15 g16 y5 a w (S.sb rfl (.c0 (.c0 .n))) h1
abbrev smithyref21_most.Ty : Type := (List Int) → Option ((List Int))
def smithyref21_most.Ctr (s : smithyref21_most.Ty) : Prop := ∀ (x1 : List Int) (ch_0_0 : Option Addr) (ch_0_1 : Nat) (r : (List Int)), Ct (C := Unit) Tryd.prog 63 (s x1 = some r) [] [(.q yi ch_0_0 ch_0_1 x1)] (fun _ => (.a4 r)) fun _ => []
def smithyref21_most.f (k : Nat) (x1 : List Int) : Option ((List Int)) := (smithyref02_N_High.f x1).bind fun t1 => ((smithyref02_Zero.f k t1).bind fun t2 => (if (!t2) = true then ((smithyref21_Top.f).bind fun t3 => (some t3)) else ((smithyref02_N_Word.f k x1).bind fun t4 => (some t4))))
theorem smithyref21_most.ok (k : Nat) : smithyref21_most.Ctr (smithyref21_most.f k) := by
 intro x1 ch_0_0 ch_0_1 r h0 mi w0 ok hm
 delta smithyref21_most.f at h0
 refine c_enterZ (n := 10) ok hm func63 rfl rfl rfl fun b0 hb a S => c_region (s_alloc S Z26 rfl ⟨rfl, trivial⟩ rfl fun g1 a w S => c_end (wp_seq (c_region (s_move S rfl rfl fun a S => bindX h0 fun t1 et1 h1 => s_callP S _ N81 rfl rfl (smithyref02_N_High.ok x1 ch_0_0 ch_0_1 t1 et1 _ _) fun ch1 m le1 a w S => bindX h1 fun t2 et2 h2 => s_callP S _ N80 rfl rfl (smithyref02_Zero.ok k t1 ch1.1 ch1.2 t2 et2 _ _) fun ch2 m le1 a w S => s_not S rfl rfl fun a S => c_end ?_))))
 rcases ite_of h2 with ⟨c1, h3⟩ | ⟨c1, h3⟩
 ·refine c_condT S rfl c1 (c_region (bindX h3 fun t3 et3 h4 => s_callP S _ N82 rfl rfl (smithyref21_Top.ok t3 et3 _ _) fun ch3 m le1 a w S => s_store S rfl rfl rfl (s' := [.w4 t3]) .h T26 rfl rfl fun w S => c_end (wp_ret (x_thenR ?_))))
  obtain rfl := Option.some.inj h4
  exact b_ret1 (d := (.a4 t3)) S rfl (resD_cell rfl .h T26 rfl rfl) (S.rt hb)
 ·refine c_condF S rfl c1 (wp_skip (x_thenN (c_region (s_move S rfl rfl fun a S => bindX h3 fun t4 et4 h4 => s_callP S _ N62 rfl rfl (smithyref02_N_Word.ok k x1 ch_0_0 ch_0_1 t4 et4 _ _) fun ch4 m le1 a w S => s_store S rfl rfl rfl (s' := [.w4 t4]) .h T26 rfl rfl fun w S => c_end (wp_ret ?_)))))
  obtain rfl := Option.some.inj h4
  exact b_ret1 (d := (.a4 t4)) S rfl (resD_cell rfl .h T26 rfl rfl) (S.rt hb)
abbrev smithyref21_Step.Ty : Type := (List Int) → Int → Int → Option ((List Int))
def smithyref21_Step.Ctr (s : smithyref21_Step.Ty) : Prop := ∀ (x1 : List Int) (x2 : Int) (x3 : Int) (r : (List Int)), Ct (C := Unit) Tryd.prog 59 (s x1 x2 x3 = some r) [] [(.a4 x1), (.w x2), (.w x3)] (fun _ => (.a4 r)) fun _ => []
def smithyref21_Step.f (k : Nat) (x1 : List Int) (x2 : Int) (x3 : Int) : Option ((List Int)) := if (x3 == 0) = true then (some [0, 0, 0, 0]) else ((smithyref02_Of.f k x1).bind fun t1 => ((smithyref02_Of.f k [x2, 0, 0, 0]).bind fun t2 => ((smithyref02_Times.f k t1 t2).bind fun t3 => ((smithyref02_Of.f k [x3, 0, 0, 0]).bind fun t4 => ((smithyref02_Div.f k t3 t4).bind fun t5 => ((smithyref02_Of.f k [8, 0, 0, 0]).bind fun t6 => ((smithyref02_Div.f k t5.1 t6).bind fun t7 => ((smithyref21_most.f k t7.1).bind fun t8 => (some t8)))))))))
theorem smithyref21_Step.ok (k : Nat) : smithyref21_Step.Ctr (smithyref21_Step.f k) := by
 intro x1 x2 x3 r h0 mi w0 ok hm
 delta smithyref21_Step.f at h0
 refine c_enterZ (n := 36) ok hm func59 rfl rfl rfl fun b0 hb a S => c_region (s_box S rfl rfl rfl fun g1 a w S => s_alloc S Z26 rfl ⟨rfl, trivial⟩ rfl fun g2 a w S => c_end (wp_seq (c_region (s_move S rfl rfl fun a S => s_bin S rfl rfl rfl rfl fun a S => c_end ?_))))
 rcases ite_of h0 with ⟨c1, h1⟩ | ⟨c1, h1⟩
 ·refine c_condT S rfl c1 (c_region (s_build S (ds := []) (dv := (.a4 [0, 0, 0, 0])) rfl (fun _ => by kernel_rfl) ⟨rfl, trivial⟩ rfl fun a S => s_store S rfl rfl rfl (s' := [.w4 [0, 0, 0, 0]]) .h T26 rfl rfl fun w S => c_end (wp_ret (x_thenR ?_))))
  obtain rfl := Option.some.inj h1
  exact b_ret1 (d := (.a4 [0, 0, 0, 0])) S rfl (resD_cell rfl .h T26 rfl rfl) (S.rt hb)
 ·refine c_condF S rfl c1 (wp_skip (x_thenN (c_region (s_loada S rfl .h1 T26 (s' := [.w4 x1]) rfl rfl fun a S => bindX h1 fun t1 et1 h2 => s_callR S (fun (ch : (Option Addr) × Nat × Nat) => ((.s ch.1 ch.2.1 ch.2.2) : D)) (fun (ch : (Option Addr) × Nat × Nat) => Res.row yi 3 ch.1 ch.2.1 ch.2.2 t1) N58 rfl rfl (smithyref02_Of.ok k x1 t1 et1 _ _) fun ch1 m le1 a w S => s_move S rfl rfl fun a S => s_build S (ds := [(0, (.w x2))]) (dv := (.a4 [x2, 0, 0, 0])) rfl (fun _ => by kernel_rfl) ⟨rfl, trivial⟩ rfl fun a S => bindX h2 fun t2 et2 h3 => s_callR S (fun (ch : (Option Addr) × Nat × Nat) => ((.s ch.1 ch.2.1 ch.2.2) : D)) (fun (ch : (Option Addr) × Nat × Nat) => Res.row yi 3 ch.1 ch.2.1 ch.2.2 t2) N58 rfl rfl (smithyref02_Of.ok k [x2, 0, 0, 0] t2 et2 _ _) fun ch2 m le1 a w S => ?_))))
  replace S := S.rowfro .h1
  obtain ⟨m, le1, S, hro⟩ := S
  replace S := S.slotro (u := 14) rfl hro
  replace S := S.rowfro .h
  obtain ⟨m, le1, S, hro⟩ := S
  replace S := S.slotro (u := 17) rfl hro
  refine bindX h3 fun t3 et3 h4 => s_callR S (fun (ch : (Option Addr) × Nat × Nat) => ((.s ch.1 ch.2.1 ch.2.2) : D)) (fun (ch : (Option Addr) × Nat × Nat) => Res.row yi 3 ch.1 ch.2.1 ch.2.2 t3) N77 rfl rfl (smithyref02_Times.ok k t1 t2 ch1.1 ch1.2.2 ch2.1 ch2.2.2 t3 et3 _ _) fun ch3 m le1 a w S => s_assign S rfl rfl fun a S => c_end (c_region (s_move S rfl rfl fun a S => s_move S rfl rfl fun a S => s_build S (ds := [(0, (.w x3))]) (dv := (.a4 [x3, 0, 0, 0])) rfl (fun _ => by kernel_rfl) ⟨rfl, trivial⟩ rfl fun a S => bindX h4 fun t4 et4 h5 => s_callR S (fun (ch : (Option Addr) × Nat × Nat) => ((.s ch.1 ch.2.1 ch.2.2) : D)) (fun (ch : (Option Addr) × Nat × Nat) => Res.row yi 3 ch.1 ch.2.1 ch.2.2 t4) N58 rfl rfl (smithyref02_Of.ok k [x3, 0, 0, 0] t4 et4 _ _) fun ch4 m le1 a w S => ?_))
  replace S := S.rowfro .h1
  obtain ⟨m, le1, S, hro⟩ := S
  replace S := S.slotro (u := 20) rfl hro
  replace S := S.slotro (u := 7) rfl hro
  replace S := S.slotro (u := 18) rfl hro
  replace S := S.rowfro .h
  obtain ⟨m, le1, S, hro⟩ := S
  replace S := S.slotro (u := 23) rfl hro
  refine bindX h5 fun t5 et5 h6 => s_callR S (fun (ch : (Option Addr) × Nat × Nat × (Option Addr) × Nat) => ((.tup [(false, [.s ch.1 ch.2.1 ch.2.2.1]), (false, [.q yi ch.2.2.2.1 ch.2.2.2.2 t5.2])]) : D)) (fun (ch : (Option Addr) × Nat × Nat × (Option Addr) × Nat) => Res.row yi 3 ch.1 ch.2.1 ch.2.2.1 t5.1) N78 rfl rfl (smithyref02_Div.ok k t3 t4 ch3.1 ch3.2.2 ch4.1 ch4.2.2 t5 et5 _ _) fun ch5 m le1 a w S => s_move S rfl rfl fun a S => s_extract S rfl rfl rfl rfl fun a S => s_extract S rfl rfl rfl rfl fun a S => s_assign S rfl rfl fun a S => s_assign S rfl rfl fun a S => c_end (c_region (s_move S rfl rfl fun a S => s_build S (ds := [(0, (.w 8))]) (dv := (.a4 [8, 0, 0, 0])) rfl (fun _ => by kernel_rfl) ⟨rfl, trivial⟩ rfl fun a S => bindX h6 fun t6 et6 h7 => s_callR S (fun (ch : (Option Addr) × Nat × Nat) => ((.s ch.1 ch.2.1 ch.2.2) : D)) (fun (ch : (Option Addr) × Nat × Nat) => Res.row yi 3 ch.1 ch.2.1 ch.2.2 t6) N58 rfl rfl (smithyref02_Of.ok k [8, 0, 0, 0] t6 et6 _ _) fun ch6 m le1 a w S => ?_))
  replace S := S.rowfro .h1
  obtain ⟨m, le1, S, hro⟩ := S
  replace S := S.slotro (u := 28) rfl hro
  replace S := S.slotro (u := 8) rfl hro
  replace S := S.slotro (u := 25) rfl hro
  replace S := S.rowfro .h
  obtain ⟨m, le1, S, hro⟩ := S
  replace S := S.slotro (u := 30) rfl hro
  refine bindX h7 fun t7 et7 h8 => s_callR S (fun (ch : (Option Addr) × Nat × Nat × (Option Addr) × Nat) => ((.tup [(false, [.s ch.1 ch.2.1 ch.2.2.1]), (false, [.q yi ch.2.2.2.1 ch.2.2.2.2 t7.2])]) : D)) (fun (ch : (Option Addr) × Nat × Nat × (Option Addr) × Nat) => Res.row yi 3 ch.1 ch.2.1 ch.2.2.1 t7.1) N78 rfl rfl (smithyref02_Div.ok k t5.1 t6 ch5.1 ch5.2.2.1 ch6.1 ch6.2.2 t7 et7 _ _) fun ch7 m le1 a w S => s_move S rfl rfl fun a S => s_extract S rfl rfl rfl rfl fun a S => s_extract S rfl rfl rfl rfl fun a S => s_assign S rfl rfl fun a S => c_end (c_region (s_move S rfl rfl fun a S => ?_))
  replace S := S.rowfro .h
  obtain ⟨m, le1, S, hro⟩ := S
  replace S := S.slotro (u := 34) rfl hro
  replace S := S.slotro (u := 8) rfl hro
  replace S := S.slotro (u := 32) rfl hro
  refine bindX h8 fun t8 et8 h9 => s_callP S _ N63 rfl rfl (smithyref21_most.ok k t7.1 ch7.1 ch7.2.2.1 t8 et8 _ _) fun ch8 m le1 a w S => s_store S rfl rfl rfl (s' := [.w4 t8]) .h T26 rfl rfl fun w S => c_end (wp_ret ?_)
  obtain rfl := Option.some.inj h9
  exact b_ret1 (d := (.a4 t8)) S rfl (resD_cell rfl .h T26 rfl rfl) (S.rt hb)
abbrev smithyref02_Plus.Ty : Type := (List Int) → (List Int) → Option ((List Int))
def smithyref02_Plus.Ctr (s : smithyref02_Plus.Ty) : Prop := ∀ (x1 : List Int) (x2 : List Int) (ch_0_0 : Option Addr) (ch_0_1 : Nat) (ch_1_0 : Option Addr) (ch_1_1 : Nat) (r : (List Int)), Ct (C := ((Option Addr) × Nat × Nat)) Tryd.prog 64 (s x1 x2 = some r) [] [(.q yi ch_0_0 ch_0_1 x1), (.q yi ch_1_0 ch_1_1 x2)] (fun ch => (.s ch.1 ch.2.1 ch.2.2)) fun ch => [Res.row yi 3 ch.1 ch.2.1 ch.2.2 r]
def smithyref02_Plus.j1 (y1 : List Int) : Option ((List Int)) := some y1
def smithyref02_Plus.b1 (x1 : List Int) (x2 : List Int) (rec1 : Int → Int → (List Int) → Option ((List Int))) (y5 : Int) (y6 : Int) (y7 : List Int) : Option ((List Int)) := if (decide (y5 < (wr .i64 ((imax ((x1).length : Int) ((x2).length : Int)) + 1)))) = true then ((smithyref02_at.f x1 y5).bind fun t1 => ((smithyref02_at.f x2 y5).bind fun t2 => (if ((y7).length + ([Int.tmod (wr .i64 ((wr .i64 (t1 + t2)) + y6)) 256]).length) * 8 ≤ 140737488355328 then (rec1 (wr .i64 (y5 + 1)) (wr .i64 (Int.tdiv (wr .i64 ((wr .i64 (t1 + t2)) + y6)) 256)) (y7 ++ [Int.tmod (wr .i64 ((wr .i64 (t1 + t2)) + y6)) 256])) else none))) else (smithyref02_Plus.j1 y7)
def smithyref02_Plus.l1 (x1 : List Int) (x2 : List Int) : Nat → Int → Int → (List Int) → Option ((List Int))
  | 0, _, _, _ => none
  | q + 1, y5, y6, y7 => smithyref02_Plus.b1 x1 x2 (smithyref02_Plus.l1 x1 x2 q) y5 y6 y7
def smithyref02_Plus.f (k : Nat) (x1 : List Int) (x2 : List Int) : Option ((List Int)) := smithyref02_Plus.l1 x1 x2 k 0 0 ([] : List Int)
theorem smithyref02_Plus.ok (k : Nat) : smithyref02_Plus.Ctr (smithyref02_Plus.f k) := by
 intro x1 x2 ch_0_0 ch_0_1 ch_1_0 ch_1_1 r h0 mi w0 ok hm
 delta smithyref02_Plus.f at h0
 refine c_enterZ (n := 37) ok hm func64 rfl rfl rfl fun b0 hb a S => c_region (s_assign S rfl rfl fun a S => c_end (c_region (s_bldSl S (ty' := yi) (ds := []) (z := 0) (c0 := ()) (ys := ([] : List Int)) (cs := []) rfl underlying89 J3 Z3 rfl ⟨rfl, trivial⟩ rfl rfl rfl rfl rfl rfl fun g1 a w S => s_assign S rfl rfl fun a S => c_end (c_region (s_assign S rfl rfl fun a S => c_end (wp_seq_k fun K1 hK1 => ?_))))))
 have j1 : ∀ m A1 nn1 cp1 y1 a w, St 37 m b0 [(5, (.s A1 nn1 cp1))] [Res.row yi 3 A1 nn1 cp1 y1] a w → smithyref02_Plus.j1 y1 = some r → K1 a w := by
  intro m A1 nn1 cp1 y1 a w S h0
  delta smithyref02_Plus.j1 at h0
  refine hK1 a w (c_region (s_move S rfl rfl fun a S => s_assign S rfl rfl fun a S => c_end (wp_ret ?_)))
  obtain rfl := Option.some.inj h0
  exact b_ret1 (d := (.s A1 nn1 cp1)) S rfl rfl fun ok => S.retX (Hx := []) hb _ _ ((A1, nn1, cp1) : (Option Addr) × Nat × Nat) (.c0 .n) ok
 refine c_region (s_assign S rfl rfl fun a S => c_end (wp_block ?_))
 refine c_loop (fun q1 a w => ∃ m y5 y6 A2 nn3 cp5 y7, St 37 m b0 [(7, (.i y5)), (6, (.i y6)), (5, (.s A2 nn3 cp5)), (0, (.q yi ch_0_0 ch_0_1 x1)), (1, (.q yi ch_1_0 ch_1_1 x2))] [Res.row yi 3 A2 nn3 cp5 y7] a w ∧ smithyref02_Plus.l1 x1 x2 q1 y5 y6 y7 = some r) ?_ ?_ (k := k) ⟨_, 0, 0, (ad g1), 0, 0, ([] : List Int), (S.sb rfl (.c0 .n)), h0⟩
 ·rintro a w ⟨m, y5, y6, A2, nn3, cp5, y7, S, h0⟩
  exact (nomatch (show (none : Option ((List Int))) = some r from h0))
 ·clear S h0
  rintro q1 a w ⟨m, y5, y6, A2, nn3, cp5, y7, S, h0⟩
  replace h0 : smithyref02_Plus.b1 x1 x2 (smithyref02_Plus.l1 x1 x2 q1) y5 y6 y7 = some r := h0
  delta smithyref02_Plus.b1 at h0
  refine wp_seq (c_region (s_move S rfl rfl fun a S => s_move S rfl rfl fun a S => s_lenS S rfl underlying89 rfl fun a S => s_move S rfl rfl fun a S => s_lenS S rfl underlying89 rfl fun a S => s_max2 S rfl rfl rfl fun a S => s_bin S rfl rfl rfl rfl fun a S => s_bin S rfl rfl rfl rfl fun a S => c_end ?_))
  rcases ite_of h0 with ⟨c1, h1⟩ | ⟨c1, h1⟩
  ·refine c_condT S rfl c1 (wp_skip (x_thenN (wp_seq (wp_block (c_region (s_move S rfl rfl fun a S => s_move S rfl rfl fun a S => bindX h1 fun t1 et1 h2 => s_callP S _ N79 rfl rfl (smithyref02_at.ok x1 y5 ch_0_0 ch_0_1 t1 et1 _ _) fun ch1 m le1 a w S => s_move S rfl rfl fun a S => s_move S rfl rfl fun a S => bindX h2 fun t2 et2 h3 => s_callP S _ N79 rfl rfl (smithyref02_at.ok x2 y5 ch_1_0 ch_1_1 t2 et2 _ _) fun ch2 m le1 a w S => s_bin S rfl rfl rfl rfl fun a S => s_move S rfl rfl fun a S => s_bin S rfl rfl rfl rfl fun a S => s_assign S rfl rfl fun a S => c_end (c_region (s_move S rfl rfl fun a S => s_move S rfl rfl fun a S => s_rem S rfl rfl (by decide) rfl fun a S => s_bldSl S (ty' := yi) (ds := [(0, (.i (Int.tmod (wr .i64 ((wr .i64 (t1 + t2)) + y6)) 256)))]) (z := 0) (c0 := ()) (ys := [Int.tmod (wr .i64 ((wr .i64 (t1 + t2)) + y6)) 256]) (cs := [()]) rfl underlying89 J3 Z3 rfl ⟨rfl, trivial⟩ rfl rfl rfl rfl rfl rfl fun g4 a w S => ?_))))))))
   obtain ⟨c2, h4⟩ := chk_of h3; clear h3
   refine s_app S (k2 := 1) (ys := [Int.tmod (wr .i64 ((wr .i64 (t1 + t2)) + y6)) 256]) rfl (fun _ _ => .h1) rfl rfl (S.holds _ (Pull.mem .h).1).1 (Res.row.src (S.holds _ (Pull.mem .h).1)) underlying89 J3 c2 rfl fun A3 cp6 a w S => s_assign S rfl rfl fun a S => c_end (c_region' (s_move S rfl rfl fun a S => s_quo S rfl rfl (by decide) rfl fun a S => s_assign S rfl rfl fun a S => c_end' (x_blockN (x_thenN (c_region' (s_move S rfl rfl fun a S => s_bin S rfl rfl rfl rfl fun a S => s_assign S rfl rfl fun a S => c_end' (x_thenN ?_)))))))
   exact ⟨_, (wr .i64 (y5 + 1)), (wr .i64 (Int.tdiv (wr .i64 ((wr .i64 (t1 + t2)) + y6)) 256)), A3, (nn3 + 1), cp6, (y7 ++ [Int.tmod (wr .i64 ((wr .i64 (t1 + t2)) + y6)) 256]), (S.sb rfl (.c1 .n)), h4⟩
  ·refine c_condF S rfl c1 (wp_exit (x_thenX (x_thenX (x_blockX (x_thenN ?_)))))
   exact j1 _ A2 nn3 cp5 y7 a w (S.sub ⟨rfl, trivial⟩ (.c0 .n)) h1
abbrev smithyref21_Next.Ty : Type := (List Int) → Int → Int → Option ((List Int))
def smithyref21_Next.Ctr (s : smithyref21_Next.Ty) : Prop := ∀ (x1 : List Int) (x2 : Int) (x3 : Int) (r : (List Int)), Ct (C := Unit) Tryd.prog 39 (s x1 x2 x3 = some r) [] [(.a4 x1), (.w x2), (.w x3)] (fun _ => (.a4 r)) fun _ => []
def smithyref21_Next.j2 (k : Nat) (t1 : (List Int)) (y2 : List Int) : Option ((List Int)) := (smithyref02_Of.f k y2).bind fun t8 => ((smithyref02_Plus.f k t1 t8).bind fun t9 => ((smithyref21_most.f k t9).bind fun t10 => (some t10)))
def smithyref21_Next.j1 (k : Nat) (x1 : List Int) (x2 : Int) (x3 : Int) (y1 : Bool) : Option ((List Int)) := if y1 = true then (some x1) else ((smithyref02_Of.f k x1).bind fun t1 => (if (decide (x2 < (wr .u64 (Int.tdiv x3 2)))) = true then ((smithyref21_Step.f k x1 (wr .u64 ((wr .u64 (Int.tdiv x3 2)) - x2)) (wr .u64 (Int.tdiv x3 2))).bind fun t2 => ((smithyref02_Of.f k t2).bind fun t3 => ((smithyref02_Less.f k t1 t3).bind fun t4 => (if t4 = true then (some [0, 0, 0, 0]) else ((smithyref02_Minus.f k t1 t3).bind fun t5 => ((smithyref02_N_Word.f k t5).bind fun t6 => (some t6))))))) else ((smithyref21_Step.f k x1 (wr .u64 (x2 - (wr .u64 (Int.tdiv x3 2)))) (wr .u64 (Int.tdiv x3 2))).bind fun t7 => (if (decide (t7 = [0, 0, 0, 0])) = true then (smithyref21_Next.j2 k t1 [1, 0, 0, 0]) else (smithyref21_Next.j2 k t1 t7)))))
def smithyref21_Next.f (k : Nat) (x1 : List Int) (x2 : Int) (x3 : Int) : Option ((List Int)) := if ((wr .u64 (Int.tdiv x3 2)) == 0) = true then (smithyref21_Next.j1 k x1 x2 x3 true) else (smithyref21_Next.j1 k x1 x2 x3 (x2 == (wr .u64 (Int.tdiv x3 2))))
theorem smithyref21_Next.ok (k : Nat) : smithyref21_Next.Ctr (smithyref21_Next.f k) := by
 intro x1 x2 x3 r h0 mi w0 ok hm
 delta smithyref21_Next.f at h0
 refine c_enterZ (n := 56) ok hm func39 rfl rfl rfl fun b0 hb a S => c_region (s_box S rfl rfl rfl fun g1 a w S => s_alloc S Z26 rfl ⟨rfl, trivial⟩ rfl fun g2 a w S => c_end (c_region (s_move S rfl rfl fun a S => s_quo S rfl rfl (by decide) rfl fun a S => s_assign S rfl rfl fun a S => c_end (wp_seq (wp_seq_k fun K1 hK1 => ?_)))))
 have j1 : ∀ m y1 g3 g4 a w, St 56 m b0 [(19, (.b y1)), (7, (.w (wr .u64 (Int.tdiv x3 2)))), (6, (.p g3)), (3, (.p g4)), (1, (.w x2))] [Res.cells g3 26 [.w4 [0, 0, 0, 0]], Res.cells g4 26 [.w4 x1]] a w → smithyref21_Next.j1 k x1 x2 x3 y1 = some r → K1 a w := by
  intro m y1 g3 g4 a w S h0
  delta smithyref21_Next.j1 at h0
  refine hK1 a w ?_
  rcases ite_of h0 with ⟨c1, h1⟩ | ⟨c1, h1⟩
  ·refine c_condT S rfl c1 (c_region (s_loada S rfl .h1 T26 (s' := [.w4 x1]) rfl rfl fun a S => s_store S rfl rfl rfl (s' := [.w4 x1]) .h T26 rfl rfl fun w S => c_end (wp_ret (x_thenR ?_))))
   obtain rfl := Option.some.inj h1
   exact b_ret1 (d := (.a4 x1)) S rfl (resD_cell rfl .h T26 rfl rfl) (S.rt hb)
  ·refine c_condF S rfl c1 (wp_skip (x_thenN (c_region (s_loada S rfl .h1 T26 (s' := [.w4 x1]) rfl rfl fun a S => bindX h1 fun t1 et1 h2 => s_callR S (fun (ch : (Option Addr) × Nat × Nat) => ((.s ch.1 ch.2.1 ch.2.2) : D)) (fun (ch : (Option Addr) × Nat × Nat) => Res.row yi 3 ch.1 ch.2.1 ch.2.2 t1) N58 rfl rfl (smithyref02_Of.ok k x1 t1 et1 _ _) fun ch1 m le1 a w S => s_assign S rfl rfl fun a S => c_end (wp_seq (c_region (s_move S rfl rfl fun a S => s_move S rfl rfl fun a S => s_bin S rfl rfl rfl rfl fun a S => c_end ?_)))))))
   rcases ite_of h2 with ⟨c2, h3⟩ | ⟨c2, h3⟩
   ·refine c_condT S rfl c2 (c_region (s_loada S rfl .h2 T26 (s' := [.w4 x1]) rfl rfl fun a S => s_move S rfl rfl fun a S => s_move S rfl rfl fun a S => s_bin S rfl rfl rfl rfl fun a S => s_move S rfl rfl fun a S => bindX h3 fun t2 et2 h4 => s_callP S _ N59 rfl rfl (smithyref21_Step.ok k x1 (wr .u64 ((wr .u64 (Int.tdiv x3 2)) - x2)) (wr .u64 (Int.tdiv x3 2)) t2 et2 _ _) fun ch2 m le1 a w S => bindX h4 fun t3 et3 h5 => s_callR S (fun (ch : (Option Addr) × Nat × Nat) => ((.s ch.1 ch.2.1 ch.2.2) : D)) (fun (ch : (Option Addr) × Nat × Nat) => Res.row yi 3 ch.1 ch.2.1 ch.2.2 t3) N58 rfl rfl (smithyref02_Of.ok k t2 t3 et3 _ _) fun ch3 m le1 a w S => s_assign S rfl rfl fun a S => c_end (wp_seq (c_region (s_move S rfl rfl fun a S => s_move S rfl rfl fun a S => ?_)))))
    replace S := S.rowfro .h1
    obtain ⟨m, le1, S, hro⟩ := S
    replace S := S.slotro (u := 33) rfl hro
    replace S := S.slotro (u := 8) rfl hro
    replace S := S.slotro (u := 22) rfl hro
    replace S := S.rowfro .h
    obtain ⟨m, le1, S, hro⟩ := S
    replace S := S.slotro (u := 34) rfl hro
    replace S := S.slotro (u := 9) rfl hro
    replace S := S.slotro (u := 32) rfl hro
    refine bindX h5 fun t4 et4 h6 => s_callP S _ N60 rfl rfl (smithyref02_Less.ok k t1 t3 ch1.1 ch1.2.2 ch3.1 ch3.2.2 t4 et4 _ _) fun ch4 m le1 a w S => c_end ?_
    rcases ite_of h6 with ⟨c3, h7⟩ | ⟨c3, h7⟩
    ·refine c_condT S rfl c3 (c_region (s_build S (ds := []) (dv := (.a4 [0, 0, 0, 0])) rfl (fun _ => by kernel_rfl) ⟨rfl, trivial⟩ rfl fun a S => s_store S rfl rfl rfl (s' := [.w4 [0, 0, 0, 0]]) .h T26 rfl rfl fun w S => c_end (wp_ret (x_thenR (x_thenR ?_)))))
     obtain rfl := Option.some.inj h7
     exact b_ret1 (d := (.a4 [0, 0, 0, 0])) S rfl (resD_cell rfl .h T26 rfl rfl) (S.rt hb)
    ·refine c_condF S rfl c3 (wp_skip (x_thenN (c_region (s_move S rfl rfl fun a S => s_move S rfl rfl fun a S => bindX h7 fun t5 et5 h8 => s_callR S (fun (ch : (Option Addr) × Nat × Nat) => ((.s ch.1 ch.2.1 ch.2.2) : D)) (fun (ch : (Option Addr) × Nat × Nat) => Res.row yi 3 ch.1 ch.2.1 ch.2.2 t5) N61 rfl rfl (smithyref02_Minus.ok k t1 t3 ch1.1 ch1.2.2 ch3.1 ch3.2.2 t5 et5 _ _) fun ch5 m le1 a w S => ?_))))
     replace S := S.rowfro .h
     obtain ⟨m, le1, S, hro⟩ := S
     replace S := S.slotro (u := 39) rfl hro
     refine bindX h8 fun t6 et6 h9 => s_callP S _ N62 rfl rfl (smithyref02_N_Word.ok k t5 ch5.1 ch5.2.2 t6 et6 _ _) fun ch6 m le1 a w S => s_store S rfl rfl rfl (s' := [.w4 t6]) .h T26 rfl rfl fun w S => c_end (wp_ret (x_thenR ?_))
     obtain rfl := Option.some.inj h9
     exact b_ret1 (d := (.a4 t6)) S rfl (resD_cell rfl .h T26 rfl rfl) (S.rt hb)
   ·refine c_condF S rfl c2 (wp_skip (x_thenN (c_region (s_loada S rfl .h2 T26 (s' := [.w4 x1]) rfl rfl fun a S => s_move S rfl rfl fun a S => s_move S rfl rfl fun a S => s_bin S rfl rfl rfl rfl fun a S => s_move S rfl rfl fun a S => bindX h3 fun t7 et7 h4 => s_callP S _ N59 rfl rfl (smithyref21_Step.ok k x1 (wr .u64 (x2 - (wr .u64 (Int.tdiv x3 2)))) (wr .u64 (Int.tdiv x3 2)) t7 et7 _ _) fun ch7 m le1 a w S => s_alloc S Z26 rfl ⟨rfl, trivial⟩ rfl fun g5 a w S => s_store S rfl rfl rfl (s' := [.w4 t7]) .h T26 rfl rfl fun w S => c_end (wp_seq_k fun K2 hK2 => ?_)))))
    have j2 : ∀ m g6 A1 nn1 cp1 g7 y2 a w, St 56 m b0 [(10, (.p g6)), (8, (.s A1 nn1 cp1)), (6, (.p g7))] [Res.cells g6 26 [.w4 y2], Res.row yi 3 A1 nn1 cp1 t1, Res.cells g7 26 [.w4 [0, 0, 0, 0]]] a w → smithyref21_Next.j2 k t1 y2 = some r → K2 a w := by
     intro m g6 A1 nn1 cp1 g7 y2 a w S h0
     delta smithyref21_Next.j2 at h0
     refine hK2 a w (c_region (s_move S rfl rfl fun a S => s_loada S rfl .h T26 (s' := [.w4 y2]) rfl rfl fun a S => bindX h0 fun t8 et8 h1 => s_callR S (fun (ch : (Option Addr) × Nat × Nat) => ((.s ch.1 ch.2.1 ch.2.2) : D)) (fun (ch : (Option Addr) × Nat × Nat) => Res.row yi 3 ch.1 ch.2.1 ch.2.2 t8) N58 rfl rfl (smithyref02_Of.ok k y2 t8 et8 _ _) fun ch8 m le1 a w S => ?_))
     replace S := S.rowfro .h2
     obtain ⟨m, le1, S, hro⟩ := S
     replace S := S.slotro (u := 51) rfl hro
     replace S := S.slotro (u := 8) rfl hro
     replace S := S.rowfro .h
     obtain ⟨m, le1, S, hro⟩ := S
     replace S := S.slotro (u := 53) rfl hro
     refine bindX h1 fun t9 et9 h2 => s_callR S (fun (ch : (Option Addr) × Nat × Nat) => ((.s ch.1 ch.2.1 ch.2.2) : D)) (fun (ch : (Option Addr) × Nat × Nat) => Res.row yi 3 ch.1 ch.2.1 ch.2.2 t9) N64 rfl rfl (smithyref02_Plus.ok k t1 t8 A1 cp1 ch8.1 ch8.2.2 t9 et9 _ _) fun ch9 m le1 a w S => ?_
     replace S := S.rowfro .h
     obtain ⟨m, le1, S, hro⟩ := S
     replace S := S.slotro (u := 54) rfl hro
     refine bindX h2 fun t10 et10 h3 => s_callP S _ N63 rfl rfl (smithyref21_most.ok k t9 ch9.1 ch9.2.2 t10 et10 _ _) fun ch10 m le1 a w S => s_store S rfl rfl rfl (s' := [.w4 t10]) .h1 T26 rfl rfl fun w S => c_end (wp_ret ?_)
     obtain rfl := Option.some.inj h3
     exact b_ret1 (d := (.a4 t10)) S rfl (resD_cell rfl .h1 T26 rfl rfl) (S.rt hb)
    refine c_region (s_loada S rfl .h T26 (s' := [.w4 t7]) rfl rfl fun a S => s_build S (ds := []) (dv := (.a4 [0, 0, 0, 0])) rfl (fun _ => by kernel_rfl) ⟨rfl, trivial⟩ rfl fun a S => s_eqa S rfl rfl underlying26 underlying24 T24 Q26 rfl fun a S => c_end ?_)
    rcases ite_of h4 with ⟨c4, h5⟩ | ⟨c4, h5⟩
    ·refine c_condT S rfl c4 (c_region' (s_build S (ds := [(0, (.w 1))]) (dv := (.a4 [1, 0, 0, 0])) rfl (fun _ => by kernel_rfl) ⟨rfl, trivial⟩ rfl fun a S => s_store S rfl rfl rfl (s' := [.w4 [1, 0, 0, 0]]) .h T26 rfl rfl fun w S => c_end' (x_thenN ?_)))
     exact j2 _ g5 ch1.1 ch1.2.1 ch1.2.2 g3 [1, 0, 0, 0] a w (S.sb rfl (.c0 (.c0 (.c0 .n)))) h5
    ·refine c_condF S rfl c4 (wp_skip (x_thenN ?_))
     exact j2 _ g5 ch1.1 ch1.2.1 ch1.2.2 g3 t7 a w (S.sb rfl (.c0 (.c0 (.c0 .n)))) h5
 refine c_region' (s_move S rfl rfl fun a S => s_bin S rfl rfl rfl rfl fun a S => s_move S rfl rfl fun a S => ?_)
 rcases ite_of h0 with ⟨c5, h1⟩ | ⟨c5, h1⟩
 ·refine s_gF S (b := ((wr .u64 (Int.tdiv x3 2)) == 0)) rfl rfl c5 rfl fun a S => s_gF S (b := ((wr .u64 (Int.tdiv x3 2)) == 0)) rfl rfl c5 rfl fun a S => s_gF S (b := ((wr .u64 (Int.tdiv x3 2)) == 0)) rfl rfl c5 rfl fun a S => s_pick S (b := true) (hc_of rfl c5) rfl rfl fun a S => c_end' (x_thenN ?_)
  exact j1 _ true g2 g1 a w (S.sb rfl (.c0 (.c0 .n))) h1
 ·refine s_gT S (b := ((wr .u64 (Int.tdiv x3 2)) == 0)) rfl rfl c5 (s_move S rfl rfl fun a S => s_gT S (b := ((wr .u64 (Int.tdiv x3 2)) == 0)) rfl rfl c5 (s_move S rfl rfl fun a S => s_gT S (b := ((wr .u64 (Int.tdiv x3 2)) == 0)) rfl rfl c5 (s_bin S rfl rfl rfl rfl fun a S => s_pick S (b := false) (hc_of rfl c5) rfl rfl fun a S => c_end' (x_thenN ?_))))
  exact j1 _ (x2 == (wr .u64 (Int.tdiv x3 2))) g2 g1 a w (S.sb rfl (.c0 (.c0 .n))) h1
abbrev smithyref01_From.Ty : Type := (List Int) → Option ((List Int))
def smithyref01_From.Ctr (s : smithyref01_From.Ty) : Prop := ∀ (x1 : List Int) (ch_0_0 : Option Addr) (ch_0_1 : Nat) (r : (List Int)), Ct (C := Unit) Tryd.prog 65 (s x1 = some r) [] [(.q yb ch_0_0 ch_0_1 x1)] (fun _ => (.agg [.ints .i64 r 32])) fun _ => []
def smithyref01_From.j1 (y1 : List Int) : Option ((List Int)) := some y1
def smithyref01_From.j2 (x1 : List Int) (y5 : Int) (y6 : List Int) (rec1 : Int → (List Int) → Option ((List Int))) (y7 : Bool) : Option ((List Int)) := if y7 = true then (if (0 : Int) ≤ (wr .i64 ((wr .i64 (((x1).length : Int) - 1)) - y5)) ∧ (wr .i64 ((wr .i64 (((x1).length : Int) - 1)) - y5)) < ((x1).length : Int) then (if (0 : Int) ≤ y5 ∧ y5 < 32 then (rec1 (wr .i64 (y5 + 1)) (y6.set (Int.toNat y5) (wr .i64 (rd x1 (wr .i64 ((wr .i64 (((x1).length : Int) - 1)) - y5)))))) else none) else none) else (smithyref01_From.j1 y6)
def smithyref01_From.b1 (x1 : List Int) (rec1 : Int → (List Int) → Option ((List Int))) (y5 : Int) (y6 : List Int) : Option ((List Int)) := if (decide (y5 < 32)) = true then (smithyref01_From.j2 x1 y5 y6 rec1 (decide (y5 < ((x1).length : Int)))) else (smithyref01_From.j2 x1 y5 y6 rec1 false)
def smithyref01_From.l1 (x1 : List Int) : Nat → Int → (List Int) → Option ((List Int))
  | 0, _, _ => none
  | q + 1, y5, y6 => smithyref01_From.b1 x1 (smithyref01_From.l1 x1 q) y5 y6
def smithyref01_From.f (k : Nat) (x1 : List Int) : Option ((List Int)) := smithyref01_From.l1 x1 k 0 [0, 0, 0, 0, 0, 0, 0, 0, 0, 0, 0, 0, 0, 0, 0, 0, 0, 0, 0, 0, 0, 0, 0, 0, 0, 0, 0, 0, 0, 0, 0, 0]
theorem smithyref01_From.ok (k : Nat) : smithyref01_From.Ctr (smithyref01_From.f k) := by
 intro x1 ch_0_0 ch_0_1 r h0 mi w0 ok hm
 delta smithyref01_From.f at h0
 refine c_enterZ (n := 28) ok hm func65 rfl rfl rfl fun b0 hb a S => c_region (s_alloc S Z81 rfl ⟨rfl, trivial⟩ rfl fun g1 a w S => c_end (c_region (s_build S (ds := []) (dv := (.agg [.ints .i64 z32 32])) rfl (fun _ => by kernel_rfl) ⟨rfl, trivial⟩ rfl fun a S => s_alloc S Z81 rfl ⟨rfl, trivial⟩ rfl fun g2 a w S => s_store S rfl rfl rfl (s' := [.ints .i64 z32 32]) .h T81 rfl rfl fun w S => c_end (wp_seq_k fun K1 hK1 => ?_))))
 have j1 : ∀ m g13 g14 y1 a w, St 28 m b0 [(3, (.p g13)), (2, (.p g14))] [Res.cells g13 81 [.ints .i64 y1 32], Res.cells g14 81 [.ints .i64 z32 32]] a w → smithyref01_From.j1 y1 = some r → K1 a w := by
  intro m g13 g14 y1 a w S h0
  delta smithyref01_From.j1 at h0
  refine hK1 a w (c_region (s_loada S rfl .h T81 (s' := [.ints .i64 y1 32]) rfl rfl fun a S => s_store S rfl rfl rfl (s' := [.ints .i64 y1 32]) .h1 T81 rfl rfl fun w S => c_end (wp_ret ?_)))
  obtain rfl := Option.some.inj h0
  exact b_ret1 (d := (.agg [.ints .i64 y1 32])) S rfl (resD_cell rfl .h1 T81 rfl rfl) (S.rt hb)
 refine c_region (s_assign S rfl rfl fun a S => c_end (wp_block ?_))
 refine c_loop (fun q1 a w => ∃ m y5 g21 g22 y6, St 28 m b0 [(4, (.i y5)), (3, (.p g21)), (2, (.p g22)), (0, (.q yb ch_0_0 ch_0_1 x1))] [Res.cells g21 81 [.ints .i64 y6 32], Res.cells g22 81 [.ints .i64 z32 32]] a w ∧ smithyref01_From.l1 x1 q1 y5 y6 = some r) ?_ ?_ (k := k) ⟨_, 0, g2, g1, z32, (S.sb rfl (.c0 (.c0 .n))), h0⟩
 ·rintro a w ⟨m, y5, g21, g22, y6, S, h0⟩
  exact (nomatch (show (none : Option ((List Int))) = some r from h0))
 ·clear S h0
  rintro q1 a w ⟨m, y5, g21, g22, y6, S, h0⟩
  replace h0 : smithyref01_From.b1 x1 (smithyref01_From.l1 x1 q1) y5 y6 = some r := h0
  delta smithyref01_From.b1 at h0
  refine wp_seq (wp_seq_k fun K2 hK2 => ?_)
  have j2 : ∀ m y7 g23 g24 a w, St 28 m b0 [(13, (.b y7)), (4, (.i y5)), (3, (.p g23)), (2, (.p g24)), (0, (.q yb ch_0_0 ch_0_1 x1))] [Res.cells g23 81 [.ints .i64 y6 32], Res.cells g24 81 [.ints .i64 z32 32]] a w → smithyref01_From.j2 x1 y5 y6 (smithyref01_From.l1 x1 q1) y7 = some r → K2 a w := by
   intro m y7 g23 g24 a w S h0
   delta smithyref01_From.j2 at h0
   refine hK2 a w ?_
   rcases ite_of h0 with ⟨c1, h1⟩ | ⟨c1, h1⟩
   ·refine c_condT S rfl c1 (wp_skip (x_thenN (wp_seq (wp_block (c_region' (s_move S rfl rfl fun a S => s_move S rfl rfl fun a S => s_move S rfl rfl fun a S => s_lenS S rfl underlying37 rfl fun a S => s_bin S rfl rfl rfl rfl fun a S => s_move S rfl rfl fun a S => s_bin S rfl rfl rfl rfl fun a S => ?_))))))
    obtain ⟨c2, h2⟩ := chk_of h1; clear h1
    refine s_iaddrS S rfl rfl rfl underlying37 T5 c2.1 c2.2 rfl fun p1 a S => s_ld1 S (v := (.int .u8 (rd x1 (wr .i64 ((wr .i64 (((x1).length : Int) - 1)) - y5))))) rfl T5 (fun _ => rfl) rfl fun a S => s_conv S rfl rfl underlying3 rfl fun a S => ?_
    obtain ⟨c3, h3⟩ := chk_of h2; clear h2
    refine s_iaddr S rfl rfl underlying81 T3 c3.1 c3.2 (mul1 _ _) rfl fun a S => s_storei S (i := y5) rfl rfl .h T3 .h rfl c3.1 c3.2 fun w S => c_end' (x_blockN (x_thenN (c_region' (s_move S rfl rfl fun a S => s_bin S rfl rfl rfl rfl fun a S => s_assign S rfl rfl fun a S => c_end' (x_thenN ?_)))))
    exact ⟨_, (wr .i64 (y5 + 1)), g23, g24, (y6.set (Int.toNat y5) (wr .i64 (rd x1 (wr .i64 ((wr .i64 (((x1).length : Int) - 1)) - y5))))), (S.sb rfl (.c0 (.c0 .n))), h3⟩
   ·refine c_condF S rfl c1 (wp_exit (x_thenX (x_thenX (x_blockX (x_thenN ?_)))))
    exact j1 _ g23 g24 y6 a w (S.sb rfl (.c0 (.c0 .n))) h1
  refine c_region' (s_move S rfl rfl fun a S => s_bin S rfl rfl rfl rfl fun a S => s_move S rfl rfl fun a S => ?_)
  rcases ite_of h0 with ⟨c4, h1⟩ | ⟨c4, h1⟩
  ·refine s_gT S (b := (decide (y5 < 32))) rfl rfl c4 (s_move S rfl rfl fun a S => s_gT S (b := (decide (y5 < 32))) rfl rfl c4 (s_move S rfl rfl fun a S => s_gT S (b := (decide (y5 < 32))) rfl rfl c4 (s_lenS S rfl underlying37 rfl fun a S => s_gT S (b := (decide (y5 < 32))) rfl rfl c4 (s_bin S rfl rfl rfl rfl fun a S => s_pick S (b := true) (hc_of rfl c4) rfl rfl fun a S => c_end' (x_thenN ?_)))))
   exact j2 _ (decide (y5 < ((x1).length : Int))) g21 g22 a w (S.sb rfl (.c0 (.c0 .n))) h1
  ·refine s_gF S (b := (decide (y5 < 32))) rfl rfl c4 rfl fun a S => s_gF S (b := (decide (y5 < 32))) rfl rfl c4 rfl fun a S => s_gF S (b := (decide (y5 < 32))) rfl rfl c4 rfl fun a S => s_gF S (b := (decide (y5 < 32))) rfl rfl c4 rfl fun a S => s_pick S (b := false) (hc_of rfl c4) rfl rfl fun a S => c_end' (x_thenN ?_)
   exact j2 _ false g21 g22 a w (S.sb rfl (.c0 (.c0 .n))) h1
abbrev smithyref05_Word.Ty : Type := (List Int) → Option ((List Int))
def smithyref05_Word.Ctr (s : smithyref05_Word.Ty) : Prop := ∀ (x1 : List Int) (ch_0_0 : Option Addr) (ch_0_1 : Nat) (r : (List Int)), Ct (C := Unit) Tryd.prog 40 (s x1 = some r) [] [(.q yb ch_0_0 ch_0_1 x1)] (fun _ => (.a4 r)) fun _ => []
def smithyref05_Word.f (k : Nat) (x1 : List Int) : Option ((List Int)) := (smithyref05_Sum.f k x1).bind fun t1 => ((smithyref01_From.f k (((t1).drop 0).take 32)).bind fun t2 => ((smithyref01_D_Word.f k t2).bind fun t3 => (some t3)))
theorem smithyref05_Word.ok (k : Nat) : smithyref05_Word.Ctr (smithyref05_Word.f k) := by
 intro x1 ch_0_0 ch_0_1 r h0 mi w0 ok hm
 delta smithyref05_Word.f at h0
 refine c_enterZ (n := 9) ok hm func40 rfl rfl rfl fun b0 hb a S => c_region (s_alloc S Z26 rfl ⟨rfl, trivial⟩ rfl fun g1 a w S => c_end (c_region (s_move S rfl rfl fun a S => bindX h0 fun t1 et1 h1 => s_callP S _ N46 rfl rfl (smithyref05_Sum.ok k x1 ch_0_0 ch_0_1 t1 et1 _ _) fun ch1 m le1 a w S => s_alloc S Z23 rfl ⟨rfl, trivial⟩ rfl fun g2 a w S => s_store S rfl rfl rfl (s' := [.b32 t1]) .h T23 rfl rfl fun w S => c_end (c_region (s_sliceA S (i := 0) (j := 32) (o' := 0) (len := 32) (cap := 32) rfl underlying23 T5 (.inl ⟨rfl, rfl⟩) (.inl ⟨rfl, rfl⟩) (by decide) rfl rfl rfl rfl fun a S => ?_)))))
 replace S := S.freeze .h
 obtain ⟨m, le1, S⟩ := S
 replace S := (S.slup' (u := 6) (lo := 0) (c := 32) (ys := ((t1).drop 0).take 32) rfl (Pull.mem .h).1 .h (.inl rfl) (by decide) (by decide) rfl).2
 refine bindX h1 fun t2 et2 h2 => s_callP S _ N65 rfl rfl (smithyref01_From.ok k (((t1).drop 0).take 32) (ad g2) 32 t2 et2 _ _) fun ch2 m le1 a w S => bindX h2 fun t3 et3 h3 => s_callP S _ N66 rfl rfl (smithyref01_D_Word.ok k t2 t3 et3 _ _) fun ch3 m le1 a w S => s_store S rfl rfl rfl (s' := [.w4 t3]) .h1 T26 rfl rfl fun w S => c_end (wp_ret ?_)
 obtain rfl := Option.some.inj h3
 exact b_ret1 (d := (.a4 t3)) S rfl (resD_cell rfl .h1 T26 rfl rfl) (S.rt hb)
abbrev smithyref23_Next.Ty : Type := L30 → Int → Int → Option L30
def smithyref23_Next.Ctr (s : smithyref23_Next.Ty) : Prop := ∀ (x1 : L30) (x2 : Int) (x3 : Int) (r : L30), Ct (C := Unit) Tryd.prog 16 (s x1 x2 x3 = some r) [] [(.agg [.b32 x1.1, .w x1.2.1, .w x1.2.2.1, .w x1.2.2.2.1, .w x1.2.2.2.2.1, .w4 x1.2.2.2.2.2.1, .b20 x1.2.2.2.2.2.2.1, .w4 x1.2.2.2.2.2.2.2.1, .b32 x1.2.2.2.2.2.2.2.2.1, .b32 x1.2.2.2.2.2.2.2.2.2]), (.w x2), (.w x3)] (fun _ => (.agg [.b32 r.1, .w r.2.1, .w r.2.2.1, .w r.2.2.2.1, .w r.2.2.2.2.1, .w4 r.2.2.2.2.2.1, .b20 r.2.2.2.2.2.2.1, .w4 r.2.2.2.2.2.2.2.1, .b32 r.2.2.2.2.2.2.2.2.1, .b32 r.2.2.2.2.2.2.2.2.2])) fun _ => []
def smithyref23_Next.f (k : Nat) (x1 : L30) (x2 : Int) (x3 : Int) : Option L30 := (smithyref23_Root.f k ([] : List (List Int))).bind fun t1 => ((smithyref23_Hash.f k (x1.1, x1.2.1, x1.2.2.1, x1.2.2.2.1, x1.2.2.2.2.1, x1.2.2.2.2.2.1, x1.2.2.2.2.2.2.1, x1.2.2.2.2.2.2.2.1, x1.2.2.2.2.2.2.2.2.1, x1.2.2.2.2.2.2.2.2.2)).bind fun t2 => ((smithyref21_Next.f k x1.2.2.2.2.2.1 x1.2.2.2.2.1 x1.2.2.2.1).bind fun t3 => ((smithyref05_Word.f k (((t2).drop 0).take 32)).bind fun t4 => (some (t2, wr .u64 (x1.2.1 + 1), x2, x3, 0, t3, x1.2.2.2.2.2.2.1, t4, t1, t1)))))
theorem smithyref23_Next.ok (k : Nat) : smithyref23_Next.Ctr (smithyref23_Next.f k) := by
 intro x1 x2 x3 r h0 mi w0 ok hm
 delta smithyref23_Next.f at h0
 refine c_enterZ (n := 37) ok hm func16 rfl rfl rfl fun b0 hb a S => c_region (s_box S rfl rfl rfl fun g1 a w S => s_alloc S Z30 rfl ⟨rfl, rfl, rfl, rfl, rfl, rfl, rfl, rfl, rfl, rfl, trivial⟩ rfl fun g2 a w S => c_end (c_region (s_bldSl S (ty' := (Ty.arr .u8 32)) (ds := []) (z := z32) (c0 := ()) (ys := ([] : List (List Int))) (cs := []) rfl underlying31 J23 Z23 rfl ⟨rfl, trivial⟩ rfl rfl rfl rfl rfl rfl fun g3 a w S => ?_)))
 replace S := S.rowfro .h
 obtain ⟨m, le1, S, hro⟩ := S
 replace S := S.slotro (u := 10) rfl hro
 refine bindX h0 fun t1 et1 h1 => s_callP S _ N10 rfl rfl (smithyref23_Root.ok k ([] : List (List Int)) (ad g3) 0 t1 et1 _ _) fun ch1 m le1 a w S => s_alloc S Z23 rfl ⟨rfl, trivial⟩ rfl fun g4 a w S => s_store S rfl rfl rfl (s' := [.b32 t1]) .h T23 rfl rfl fun w S => c_end (c_region (s_loada S rfl .h2 T30 (s' := [.b32 x1.1, .w x1.2.1, .w x1.2.2.1, .w x1.2.2.2.1, .w x1.2.2.2.2.1, .w4 x1.2.2.2.2.2.1, .b20 x1.2.2.2.2.2.2.1, .w4 x1.2.2.2.2.2.2.2.1, .b32 x1.2.2.2.2.2.2.2.2.1, .b32 x1.2.2.2.2.2.2.2.2.2]) rfl rfl fun a S => bindX h1 fun t2 et2 h2 => s_callP S _ N8 rfl rfl (smithyref23_Hash.ok k (x1.1, x1.2.1, x1.2.2.1, x1.2.2.2.1, x1.2.2.2.2.1, x1.2.2.2.2.2.1, x1.2.2.2.2.2.2.1, x1.2.2.2.2.2.2.2.1, x1.2.2.2.2.2.2.2.2.1, x1.2.2.2.2.2.2.2.2.2) t2 et2 _ _) fun ch2 m le1 a w S => s_alloc S Z23 rfl ⟨rfl, trivial⟩ rfl fun g5 a w S => s_store S rfl rfl rfl (s' := [.b32 t2]) .h T23 rfl rfl fun w S => c_end (c_region (s_loada S rfl .h T23 (s' := [.b32 t2]) rfl rfl fun a S => s_fieldAddr S rfl I30_1 T24 (by decide) rfl rfl fun a S => s_load1 S rfl .h3 T24 (v := (.int .u64 x1.2.1)) rfl rfl fun a S => s_bin S rfl rfl rfl rfl fun a S => s_move S rfl rfl fun a S => s_move S rfl rfl fun a S => s_fieldAddr S rfl I30_6 T28 (by decide) rfl rfl fun a S => s_loada S rfl .h3 T28 (s' := [.b20 x1.2.2.2.2.2.2.1]) rfl rfl fun a S => s_loada S rfl .h1 T23 (s' := [.b32 t1]) rfl rfl fun a S => s_loada S rfl .h1 T23 (s' := [.b32 t1]) rfl rfl fun a S => s_bldS S (ds := [(0, (.a32 t2)), (1, (.w (wr .u64 (x1.2.1 + 1)))), (2, (.w x2)), (3, (.w x3)), (6, (.agg [.b20 x1.2.2.2.2.2.2.1])), (8, (.a32 t1)), (9, (.a32 t1))]) (zs := [.b32 z32, .w 0, .w 0, .w 0, .w 0, .w4 [0, 0, 0, 0], .b20 z20, .w4 [0, 0, 0, 0], .b32 z32, .b32 z32]) (s' := [.b32 t2, .w (wr .u64 (x1.2.1 + 1)), .w x2, .w x3, .w 0, .w4 [0, 0, 0, 0], .b20 x1.2.2.2.2.2.2.1, .w4 [0, 0, 0, 0], .b32 t1, .b32 t1]) rfl underlying30 P30 Z30 ⟨rfl, rfl, rfl, rfl, rfl, rfl, rfl, rfl, rfl, rfl, trivial⟩ rfl rfl fun a S => s_alloc S Z30 rfl ⟨rfl, rfl, rfl, rfl, rfl, rfl, rfl, rfl, rfl, rfl, trivial⟩ rfl fun g6 a w S => s_store S rfl rfl rfl (s' := [.b32 t2, .w (wr .u64 (x1.2.1 + 1)), .w x2, .w x3, .w 0, .w4 [0, 0, 0, 0], .b20 x1.2.2.2.2.2.2.1, .w4 [0, 0, 0, 0], .b32 t1, .b32 t1]) .h T30 rfl rfl fun w S => c_end (c_region (s_fieldAddr S rfl I30_5 T26 (by decide) rfl rfl fun a S => s_loada S rfl .h4 T26 (s' := [.w4 x1.2.2.2.2.2.1]) rfl rfl fun a S => s_fieldAddr S rfl I30_4 T24 (by decide) rfl rfl fun a S => s_load1 S rfl .h4 T24 (v := (.int .u64 x1.2.2.2.2.1)) rfl rfl fun a S => s_fieldAddr S rfl I30_3 T24 (by decide) rfl rfl fun a S => s_load1 S rfl .h4 T24 (v := (.int .u64 x1.2.2.2.1)) rfl rfl fun a S => bindX h2 fun t3 et3 h3 => s_callP S _ N39 rfl rfl (smithyref21_Next.ok k x1.2.2.2.2.2.1 x1.2.2.2.2.1 x1.2.2.2.1 t3 et3 _ _) fun ch3 m le1 a w S => s_fieldAddr S rfl I30_5 T26 (by decide) rfl rfl fun a S => s_store S rfl rfl rfl (s' := [.b32 t2, .w (wr .u64 (x1.2.1 + 1)), .w x2, .w x3, .w 0, .w4 t3, .b20 x1.2.2.2.2.2.2.1, .w4 [0, 0, 0, 0], .b32 t1, .b32 t1]) .h T26 rfl rfl fun w S => c_end (c_region (s_sliceA S (i := 0) (j := 32) (o' := 0) (len := 32) (cap := 32) rfl underlying23 T5 (.inl ⟨rfl, rfl⟩) (.inl ⟨rfl, rfl⟩) (by decide) rfl rfl rfl rfl fun a S => ?_))))))))
 replace S := S.freeze .h1
 obtain ⟨m, le1, S⟩ := S
 replace S := (S.slup' (u := 33) (lo := 0) (c := 32) (ys := ((t2).drop 0).take 32) rfl (Pull.mem .h1).1 .h (.inl rfl) (by decide) (by decide) rfl).2
 refine bindX h3 fun t4 et4 h4 => s_callP S _ N40 rfl rfl (smithyref05_Word.ok k (((t2).drop 0).take 32) (ad g5) 32 t4 et4 _ _) fun ch4 m le1 a w S => s_fieldAddr S rfl I30_7 T26 (by decide) rfl rfl fun a S => s_store S rfl rfl rfl (s' := [.b32 t2, .w (wr .u64 (x1.2.1 + 1)), .w x2, .w x3, .w 0, .w4 t3, .b20 x1.2.2.2.2.2.2.1, .w4 t4, .b32 t1, .b32 t1]) .h T26 rfl rfl fun w S => c_end (c_region (s_loada S rfl .h T30 (s' := [.b32 t2, .w (wr .u64 (x1.2.1 + 1)), .w x2, .w x3, .w 0, .w4 t3, .b20 x1.2.2.2.2.2.2.1, .w4 t4, .b32 t1, .b32 t1]) rfl rfl fun a S => s_store S rfl rfl rfl (s' := [.b32 t2, .w (wr .u64 (x1.2.1 + 1)), .w x2, .w x3, .w 0, .w4 t3, .b20 x1.2.2.2.2.2.2.1, .w4 t4, .b32 t1, .b32 t1]) .h3 T30 rfl rfl fun w S => c_end (wp_ret ?_)))
 obtain rfl := Option.some.inj h4
 exact b_ret1 (d := (.agg [.b32 t2, .w (wr .u64 (x1.2.1 + 1)), .w x2, .w x3, .w 0, .w4 t3, .b20 x1.2.2.2.2.2.2.1, .w4 t4, .b32 t1, .b32 t1])) S rfl (resD_cell rfl .h3 T30 rfl rfl) (S.rt hb)
abbrev block_Genesis.Ty : Type := Int → Int → (List Int) → Option L30
def block_Genesis.Ctr (s : block_Genesis.Ty) : Prop := ∀ (x1 : Int) (x2 : Int) (x3 : List Int) (r : L30), CtG (C := Unit) Tryd.prog Glob 17 (s x1 x2 x3 = some r) [] [(.w x1), (.w x2), (.a4 x3)] (fun _ => (.agg [.b32 r.1, .w r.2.1, .w r.2.2.1, .w r.2.2.2.1, .w r.2.2.2.2.1, .w4 r.2.2.2.2.2.1, .b20 r.2.2.2.2.2.2.1, .w4 r.2.2.2.2.2.2.2.1, .b32 r.2.2.2.2.2.2.2.2.1, .b32 r.2.2.2.2.2.2.2.2.2])) fun _ => []
def block_Genesis.f (k : Nat) (x1 : Int) (x2 : Int) (x3 : List Int) : Option L30 := (block_Root.f k ([] : List (List Int))).bind fun t1 => ((block_Root.f k ([] : List (List Int))).bind fun t2 => (some ([0, 0, 0, 0, 0, 0, 0, 0, 0, 0, 0, 0, 0, 0, 0, 0, 0, 0, 0, 0, 0, 0, 0, 0, 0, 0, 0, 0, 0, 0, 0, 0], 0, x1, x2, 0, x3, [0, 0, 0, 0, 0, 0, 0, 0, 0, 0, 0, 0, 0, 0, 0, 0, 0, 0, 0, 0], [0, 0, 0, 0], t1, t2)))
theorem block_Genesis.ok (k : Nat) : block_Genesis.Ctr (block_Genesis.f k) := by
 intro x1 x2 x3 r h0 mi w0 G ok hm
 delta block_Genesis.f at h0
 refine c_enterZ (n := 13) ok hm func17 rfl rfl rfl fun b0 hb a S => c_region (s_box S rfl rfl rfl fun g1 a w S => s_alloc S Z30 rfl ⟨rfl, rfl, rfl, rfl, rfl, rfl, rfl, rfl, rfl, rfl, trivial⟩ rfl fun g2 a w S => c_end ?_)
 refine wp_seq (c_heldS S (.take 0 (.take 1 (.take 2 (.alts (.run 3 true (.alts (.run 4 true (.take 5 (.alts (.run 6 false .done .nil))) .nil)) .nil))))) 6 [Res.cells g2 30 [.b32 z32, .w 0, .w 0, .w 0, .w 0, .w4 [0, 0, 0, 0], .b20 z20, .w4 [0, 0, 0, 0], .b32 z32, .b32 z32], Res.cells g1 26 [.w4 x3]] (.c0 (.c0 .n)) ⟨Res.stay_cells, Res.stay_cells, trivial⟩ [(5, (.p g1)), (0, (.w x1)), (1, (.w x2))] (subR rfl) (by kernel_rfl) (by kernel_rfl) ?_); clear S; intro w S CL hw le
 refine h_move S CL hw le (subR rfl) rfl rfl rfl trivial fun a S CL => h_move S CL hw le (subR rfl) rfl rfl rfl trivial fun a S CL => h_loada S CL hw le (subR rfl) rfl .h1 T26 (s' := [.w4 x3]) rfl rfl rfl trivial fun a S CL => h_run' S rfl trivial (bindX h0 fun t1 et1 h1 => s_callX S (ds' := [(.s none 0 0)]) (ds := [(.q (Ty.arr .u8 32) none 0 ([] : List (List Int)))]) [] [Res.cells g2 30 [.b32 z32, .w 0, .w 0, .w 0, .w 0, .w4 [0, 0, 0, 0], .b20 z20, .w4 [0, 0, 0, 0], .b32 z32, .b32 z32], Res.cells g1 26 [.w4 x3]] (fun (ch : Unit) => ((.a32 t1) : D)) (fun (ch : Unit) => []) (fun (ch : Unit) => [Res.cells g2 30 [.b32 z32, .w 0, .w 0, .w 0, .w 0, .w4 [0, 0, 0, 0], .b20 z20, .w4 [0, 0, 0, 0], .b32 z32, .b32 z32], Res.cells g1 26 [.w4 x3]]) (fun _ => rfl) N9 rfl rfl (fun ok => ⟨ok_nil, trivial⟩) (.c0 (.c0 .n)) rfl (block_Root.ok k ([] : List (List Int)) none 0 t1 et1 _ _ (G.mono (S.leB hb))) fun ch1 m le1 a w S => ?_)
 replace le := le.trans le1
 replace hw := CL.again hw S (.c0 (.c0 .n)) le
 refine h_back ⟨fun _ => hw, ?_⟩
 replace CL := CL.add (t := 10) (d := (.a32 t1)) S rfl rfl
 refine h_run' S rfl trivial (bindX h1 fun t2 et2 h2 => s_callX S (ds' := [(.s none 0 0)]) (ds := [(.q (Ty.arr .u8 32) none 0 ([] : List (List Int)))]) [] [Res.cells g2 30 [.b32 z32, .w 0, .w 0, .w 0, .w 0, .w4 [0, 0, 0, 0], .b20 z20, .w4 [0, 0, 0, 0], .b32 z32, .b32 z32], Res.cells g1 26 [.w4 x3]] (fun (ch : Unit) => ((.a32 t2) : D)) (fun (ch : Unit) => []) (fun (ch : Unit) => [Res.cells g2 30 [.b32 z32, .w 0, .w 0, .w 0, .w 0, .w4 [0, 0, 0, 0], .b20 z20, .w4 [0, 0, 0, 0], .b32 z32, .b32 z32], Res.cells g1 26 [.w4 x3]]) (fun _ => rfl) N9 rfl rfl (fun ok => ⟨ok_nil, trivial⟩) (.c0 (.c0 .n)) rfl (block_Root.ok k ([] : List (List Int)) none 0 t2 et2 _ _ (G.mono (S.leB hb))) fun ch2 m le1 a w S => ?_)
 replace le := le.trans le1
 replace hw := CL.again hw S (.c0 (.c0 .n)) le
 refine h_back ⟨fun _ => hw, ?_⟩
 replace CL := CL.add (t := 11) (d := (.a32 t2)) S rfl rfl
 refine h_bldS S CL hw le (subR rfl) (ds := [(2, (.w x1)), (3, (.w x2)), (5, (.a4 x3)), (8, (.a32 t1)), (9, (.a32 t2))]) (zs := [.b32 z32, .w 0, .w 0, .w 0, .w 0, .w4 [0, 0, 0, 0], .b20 z20, .w4 [0, 0, 0, 0], .b32 z32, .b32 z32]) (s' := [.b32 z32, .w 0, .w x1, .w x2, .w 0, .w4 x3, .b20 z20, .w4 [0, 0, 0, 0], .b32 t1, .b32 t2]) rfl underlying30 P30 Z30 ⟨rfl, rfl, rfl, rfl, rfl, rfl, rfl, rfl, rfl, rfl, trivial⟩ rfl rfl rfl trivial fun a S CL => h_run' S rfl trivial (s_store S rfl rfl rfl (s' := [.b32 z32, .w 0, .w x1, .w x2, .w 0, .w4 x3, .b20 z20, .w4 [0, 0, 0, 0], .b32 t1, .b32 t2]) .h T30 rfl rfl fun w S => ?_)
 refine h_back ⟨fun h => (nomatch h), ?_⟩
 refine h_done ?_; clear CL hw le
 refine x_thenN (wp_ret ?_)
 obtain rfl := Option.some.inj h2
 exact b_ret1 (d := (.agg [.b32 z32, .w 0, .w x1, .w x2, .w 0, .w4 x3, .b20 z20, .w4 [0, 0, 0, 0], .b32 t1, .b32 t2])) S rfl (resD_cell rfl .h T30 rfl rfl) (S.rt hb)
abbrev smithyref23_Genesis.Ty : Type := Int → Int → (List Int) → Option L30
def smithyref23_Genesis.Ctr (s : smithyref23_Genesis.Ty) : Prop := ∀ (x1 : Int) (x2 : Int) (x3 : List Int) (r : L30), Ct (C := Unit) Tryd.prog 18 (s x1 x2 x3 = some r) [] [(.w x1), (.w x2), (.a4 x3)] (fun _ => (.agg [.b32 r.1, .w r.2.1, .w r.2.2.1, .w r.2.2.2.1, .w r.2.2.2.2.1, .w4 r.2.2.2.2.2.1, .b20 r.2.2.2.2.2.2.1, .w4 r.2.2.2.2.2.2.2.1, .b32 r.2.2.2.2.2.2.2.2.1, .b32 r.2.2.2.2.2.2.2.2.2])) fun _ => []
def smithyref23_Genesis.f (k : Nat) (x1 : Int) (x2 : Int) (x3 : List Int) : Option L30 := (smithyref23_Root.f k ([] : List (List Int))).bind fun t1 => (some ([0, 0, 0, 0, 0, 0, 0, 0, 0, 0, 0, 0, 0, 0, 0, 0, 0, 0, 0, 0, 0, 0, 0, 0, 0, 0, 0, 0, 0, 0, 0, 0], 0, x1, x2, 0, x3, [0, 0, 0, 0, 0, 0, 0, 0, 0, 0, 0, 0, 0, 0, 0, 0, 0, 0, 0, 0], [0, 0, 0, 0], t1, t1))
theorem smithyref23_Genesis.ok (k : Nat) : smithyref23_Genesis.Ctr (smithyref23_Genesis.f k) := by
 intro x1 x2 x3 r h0 mi w0 ok hm
 delta smithyref23_Genesis.f at h0
 refine c_enterZ (n := 16) ok hm func18 rfl rfl rfl fun b0 hb a S => c_region (s_box S rfl rfl rfl fun g1 a w S => s_alloc S Z30 rfl ⟨rfl, rfl, rfl, rfl, rfl, rfl, rfl, rfl, rfl, rfl, trivial⟩ rfl fun g2 a w S => c_end (c_region (s_bldSl S (ty' := (Ty.arr .u8 32)) (ds := []) (z := z32) (c0 := ()) (ys := ([] : List (List Int))) (cs := []) rfl underlying31 J23 Z23 rfl ⟨rfl, trivial⟩ rfl rfl rfl rfl rfl rfl fun g3 a w S => ?_)))
 replace S := S.rowfro .h
 obtain ⟨m, le1, S, hro⟩ := S
 replace S := S.slotro (u := 8) rfl hro
 refine bindX h0 fun t1 et1 h1 => s_callP S _ N10 rfl rfl (smithyref23_Root.ok k ([] : List (List Int)) (ad g3) 0 t1 et1 _ _) fun ch1 m le1 a w S => s_alloc S Z23 rfl ⟨rfl, trivial⟩ rfl fun g4 a w S => s_store S rfl rfl rfl (s' := [.b32 t1]) .h T23 rfl rfl fun w S => c_end (c_region (s_move S rfl rfl fun a S => s_move S rfl rfl fun a S => s_loada S rfl .h2 T26 (s' := [.w4 x3]) rfl rfl fun a S => s_loada S rfl .h T23 (s' := [.b32 t1]) rfl rfl fun a S => s_loada S rfl .h T23 (s' := [.b32 t1]) rfl rfl fun a S => s_bldS S (ds := [(2, (.w x1)), (3, (.w x2)), (5, (.a4 x3)), (8, (.a32 t1)), (9, (.a32 t1))]) (zs := [.b32 z32, .w 0, .w 0, .w 0, .w 0, .w4 [0, 0, 0, 0], .b20 z20, .w4 [0, 0, 0, 0], .b32 z32, .b32 z32]) (s' := [.b32 z32, .w 0, .w x1, .w x2, .w 0, .w4 x3, .b20 z20, .w4 [0, 0, 0, 0], .b32 t1, .b32 t1]) rfl underlying30 P30 Z30 ⟨rfl, rfl, rfl, rfl, rfl, rfl, rfl, rfl, rfl, rfl, trivial⟩ rfl rfl fun a S => s_store S rfl rfl rfl (s' := [.b32 z32, .w 0, .w x1, .w x2, .w 0, .w4 x3, .b20 z20, .w4 [0, 0, 0, 0], .b32 t1, .b32 t1]) .h1 T30 rfl rfl fun w S => c_end (wp_ret ?_)))
 obtain rfl := Option.some.inj h1
 exact b_ret1 (d := (.agg [.b32 z32, .w 0, .w x1, .w x2, .w 0, .w4 x3, .b20 z20, .w4 [0, 0, 0, 0], .b32 t1, .b32 t1])) S rfl (resD_cell rfl .h1 T30 rfl rfl) (S.rt hb)
abbrev api_Word_1f26.Ty : Type := (List (List Int)) → Option ((List (Bool × (List Int) × Int)))
def api_Word_1f26.Ctr (s : api_Word_1f26.Ty) : Prop := ∀ (x1 : List (List Int)) (ch_0_0 : Option Addr) (ch_0_1 : Nat) (r : (List (Bool × (List Int) × Int))), Ct (C := ((Option Addr) × Nat × Nat)) Tryd.prog 51 (s x1 = some r) [] [(.q (Ty.arr .u64 4) ch_0_0 ch_0_1 x1), (.v (.func (.func 26) #[] #[]))] (fun ch => (.s ch.1 ch.2.1 ch.2.2)) fun ch => [Res.row Y54 54 ch.1 ch.2.1 ch.2.2 r]
def api_Word_1f26.j1 (y1 : List (Bool × (List Int) × Int)) : Option ((List (Bool × (List Int) × Int))) := some y1
def api_Word_1f26.b1 (k : Nat) (x1 : List (List Int)) (rec1 : (List (Bool × (List Int) × Int)) → Int → Option ((List (Bool × (List Int) × Int)))) (y4 : List (Bool × (List Int) × Int)) (y5 : Int) : Option ((List (Bool × (List Int) × Int))) := if (decide (y5 < ((x1).length : Int))) = true then (if (0 : Int) ≤ y5 ∧ y5 < ((x1).length : Int) then ((block_full.f k (gt x1 y5)).bind fun t1 => (if ((y4).length + ([(t1.1, t1.2.1, t1.2.2)]).length) * 40 ≤ 140737488355328 then (rec1 (y4 ++ [(t1.1, t1.2.1, t1.2.2)]) (wr .i64 (y5 + 1))) else none)) else none) else (api_Word_1f26.j1 y4)
def api_Word_1f26.l1 (k : Nat) (x1 : List (List Int)) : Nat → (List (Bool × (List Int) × Int)) → Int → Option ((List (Bool × (List Int) × Int)))
  | 0, _, _ => none
  | q + 1, y4, y5 => api_Word_1f26.b1 k x1 (api_Word_1f26.l1 k x1 q) y4 y5
def api_Word_1f26.f (k : Nat) (x1 : List (List Int)) : Option ((List (Bool × (List Int) × Int))) := api_Word_1f26.l1 k x1 k ([] : List (Bool × (List Int) × Int)) 0
theorem api_Word_1f26.ok (k : Nat) : api_Word_1f26.Ctr (api_Word_1f26.f k) := by
 intro x1 ch_0_0 ch_0_1 r h0 mi w0 ok hm
 delta api_Word_1f26.f at h0
 refine c_enterZ (n := 22) ok hm func51 rfl rfl rfl fun b0 hb a S => c_region (s_assign S rfl rfl fun a S => c_end (c_region (s_assign S rfl rfl fun a S => c_end (wp_seq_k fun K1 hK1 => ?_))))
 have j1 : ∀ m A1 nn1 cp1 y1 a w, St 22 m b0 [(5, (.s A1 nn1 cp1))] [Res.row Y54 54 A1 nn1 cp1 y1] a w → api_Word_1f26.j1 y1 = some r → K1 a w := by
  intro m A1 nn1 cp1 y1 a w S h0
  delta api_Word_1f26.j1 at h0
  refine hK1 a w (c_region (s_move S rfl rfl fun a S => s_assign S rfl rfl fun a S => c_end (wp_ret ?_)))
  obtain rfl := Option.some.inj h0
  exact b_ret1 (d := (.s A1 nn1 cp1)) S rfl rfl fun ok => S.retX (Hx := []) hb _ _ ((A1, nn1, cp1) : (Option Addr) × Nat × Nat) (.c0 .n) ok
 refine c_region (s_move S rfl rfl fun a S => s_lenS S rfl underlying66 rfl fun a S => s_move S rfl rfl fun a S => c_end (wp_block ?_))
 replace S := S.nilrow Y54 54
 refine c_loop (fun q1 a w => ∃ m A2 nn3 cp5 y4 y5, St 22 m b0 [(5, (.s A2 nn3 cp5)), (10, (.i y5)), (9, (.i ((x1).length : Int))), (8, (.q (Ty.arr .u64 4) ch_0_0 ch_0_1 x1)), (1, (.v (.func (.func 26) #[] #[])))] [Res.row Y54 54 A2 nn3 cp5 y4] a w ∧ api_Word_1f26.l1 k x1 q1 y4 y5 = some r) ?_ ?_ (k := k) ⟨_, none, 0, 0, ([] : List (Bool × (List Int) × Int)), 0, (S.sb rfl (.c0 .n)), h0⟩
 ·rintro a w ⟨m, A2, nn3, cp5, y4, y5, S, h0⟩
  exact (nomatch (show (none : Option ((List (Bool × (List Int) × Int)))) = some r from h0))
 ·clear S h0
  rintro q1 a w ⟨m, A2, nn3, cp5, y4, y5, S, h0⟩
  replace h0 : api_Word_1f26.b1 k x1 (api_Word_1f26.l1 k x1 q1) y4 y5 = some r := h0
  delta api_Word_1f26.b1 at h0
  refine c_region (s_bin S rfl rfl rfl rfl fun a S => c_end (wp_seq ?_))
  rcases ite_of h0 with ⟨c1, h1⟩ | ⟨c1, h1⟩
  ·refine c_condT S rfl c1 (wp_skip (x_thenN (wp_seq (wp_block (c_region ?_)))))
   obtain ⟨c2, h2⟩ := chk_of h1; clear h1
   refine s_iaddrS S rfl rfl rfl underlying66 T26 c2.1 c2.2 rfl fun p1 a S => s_ldA S (fun (c : Unit) => [.w4 (gt x1 y5)]) rfl T26 (fun _ => rfl) rfl fun ch1 a S => s_alloc S Z26 rfl ⟨rfl, trivial⟩ rfl fun g1 a w S => s_store S rfl rfl rfl (s' := [.w4 (gt x1 y5)]) .h T26 rfl rfl fun w S => c_end (c_region' (s_move S rfl rfl fun a S => s_move S rfl rfl fun a S => s_loada S rfl .h T26 (s' := [.w4 (gt x1 y5)]) rfl rfl fun a S => bindX h2 fun t1 et1 h3 => s_callP S _ N26 rfl rfl (block_full.ok k (gt x1 y5) t1 et1 _ _) fun ch2 m le1 a w S => s_bldSl S (ty' := Y54) (ds := [(0, (.agg [.b t1.1, .q yb ch2.1 ch2.2 t1.2.1, .i t1.2.2]))]) (z := (false, ([] : List Int), 0)) (c0 := ((), (none, 0), ())) (ys := [(t1.1, t1.2.1, t1.2.2)]) (cs := [((), (ch2.1, ch2.2), ())]) rfl underlying51 J54 Z54 rfl ⟨rfl, ⟨Nat.le_refl _, Nat.zero_le _, RdS.nil _ _ _, RdS.mono _ _ _⟩, rfl, trivial⟩ rfl rfl rfl rfl rfl rfl fun g2 a w S => ?_))
   obtain ⟨c3, h4⟩ := chk_of h3; clear h3
   refine s_app S (k2 := 1) (ys := [(t1.1, t1.2.1, t1.2.2)]) rfl (fun _ _ => .h2) rfl rfl (S.holds _ (Pull.mem .h).1).1 (Res.row.src (S.holds _ (Pull.mem .h).1)) underlying51 J54 c3 rfl fun A3 cp6 a w S => s_assign S rfl rfl fun a S => c_end' (x_blockN (x_thenN (c_region' (s_bin S rfl rfl rfl rfl fun a S => s_move S rfl rfl fun a S => c_end' (x_thenN ?_)))))
   exact ⟨_, A3, (nn3 + 1), cp6, (y4 ++ [(t1.1, t1.2.1, t1.2.2)]), (wr .i64 (y5 + 1)), (S.sb rfl (.c2 .n)), h4⟩
  ·refine c_condF S rfl c1 (wp_exit (x_thenX (x_thenX (x_blockX (x_thenN ?_)))))
   exact j1 _ A2 nn3 cp5 y4 a w (S.sub ⟨rfl, trivial⟩ (.c0 .n)) h1
abbrev block_logs.Ty : Type := (List L68) → Option ((List (Bool × (List Int) × Int)))
def block_logs.Ctr (s : block_logs.Ty) : Prop := ∀ (x1 : List L68) (ch_0_0 : Option Addr) (ch_0_1 : Nat) (r : (List (Bool × (List Int) × Int))), Ct (C := ((Option Addr) × Nat × Nat)) Tryd.prog 35 (s x1 = some r) [] [(.q Y68 ch_0_0 ch_0_1 x1)] (fun ch => (.s ch.1 ch.2.1 ch.2.2)) fun ch => [Res.row Y54 54 ch.1 ch.2.1 ch.2.2 r]
def block_logs.j1 (k : Nat) (y1 : List (List (Bool × (List Int) × Int))) : Option ((List (Bool × (List Int) × Int))) := (block_list.f k y1).bind fun t1 => (some t1)
def block_logs.j2 (y7 : Int) (rec1 : (List (List (Bool × (List Int) × Int))) → Int → Option ((List (Bool × (List Int) × Int)))) (y8 : List (List (Bool × (List Int) × Int))) : Option ((List (Bool × (List Int) × Int))) := rec1 y8 (wr .i64 (y7 + 1))
def block_logs.b1 (k : Nat) (x1 : List L68) (rec1 : (List (List (Bool × (List Int) × Int))) → Int → Option ((List (Bool × (List Int) × Int)))) (y6 : List (List (Bool × (List Int) × Int))) (y7 : Int) : Option ((List (Bool × (List Int) × Int))) := if (decide (y7 < ((x1).length : Int))) = true then (if (0 : Int) ≤ y7 ∧ y7 < ((x1).length : Int) then ((block_item.f ((((gt x1 y7).1).drop 0).take 20)).bind fun t7 => ((api_Word_1f26.f k ((gt x1 y7).2.1)).bind fun t8 => ((block_list.f k [t8]).bind fun t9 => ((block_item.f ((gt x1 y7).2.2)).bind fun t10 => ((block_list.f k [[(t7.1, t7.2.1, t7.2.2)], t9, [(t10.1, t10.2.1, t10.2.2)]]).bind fun t11 => (if ((y6).length + ([t11]).length) * 24 ≤ 140737488355328 then (block_logs.j2 y7 rec1 (y6 ++ [t11])) else none)))))) else none) else (block_logs.j1 k y6)
def block_logs.l1 (k : Nat) (x1 : List L68) : Nat → (List (List (Bool × (List Int) × Int))) → Int → Option ((List (Bool × (List Int) × Int)))
  | 0, _, _ => none
  | q + 1, y6, y7 => block_logs.b1 k x1 (block_logs.l1 k x1 q) y6 y7
def block_logs.f (k : Nat) (x1 : List L68) : Option ((List (Bool × (List Int) × Int))) := block_logs.l1 k x1 k ([] : List (List (Bool × (List Int) × Int))) 0
theorem block_logs.ok (k : Nat) : block_logs.Ctr (block_logs.f k) := by
 intro x1 ch_0_0 ch_0_1 r h0 mi w0 ok hm
 delta block_logs.f at h0
 refine c_enterZ (n := 33) ok hm func35 rfl rfl rfl fun b0 hb a S => c_region (s_assign S rfl rfl fun a S => c_end (c_region (s_assign S rfl rfl fun a S => c_end (wp_seq_k fun K1 hK1 => ?_))))
 have j1 : ∀ (m : Mem) (A1 : Option Addr) (nn1 : Nat) (cp1 : Nat) (y1 : List (List (Bool × (List Int) × Int))) (a : Act) (w : World), St 33 m b0 [(3, (.s A1 nn1 cp1))] [Res.row (Ty.slice Y54) 51 A1 nn1 cp1 y1] a w → block_logs.j1 k y1 = some r → K1 a w := by
  intro m A1 nn1 cp1 y1 a w S h0
  delta block_logs.j1 at h0
  refine hK1 a w (c_region (s_move S rfl rfl fun a S => ?_))
  replace S := S.rowfro .h
  obtain ⟨m, le1, S, hro⟩ := S
  replace S := S.slotro (u := 31) rfl hro
  replace S := S.slotro (u := 3) rfl hro
  refine bindX h0 fun t1 et1 h1 => s_callR S (fun (ch : (Option Addr) × Nat × Nat) => ((.s ch.1 ch.2.1 ch.2.2) : D)) (fun (ch : (Option Addr) × Nat × Nat) => Res.row Y54 54 ch.1 ch.2.1 ch.2.2 t1) N22 rfl rfl (block_list.ok k y1 A1 cp1 t1 et1 _ _) fun ch1 m le1 a w S => s_assign S rfl rfl fun a S => c_end (wp_ret ?_)
  obtain rfl := Option.some.inj h1
  exact b_ret1 (d := (.s ch1.1 ch1.2.1 ch1.2.2)) S rfl rfl fun ok => S.retX (Hx := []) hb _ _ ((ch1.1, ch1.2.1, ch1.2.2) : (Option Addr) × Nat × Nat) (.c0 .n) ok
 refine c_region (s_move S rfl rfl fun a S => s_lenS S rfl underlying36 rfl fun a S => s_move S rfl rfl fun a S => c_end (wp_block ?_))
 replace S := S.nilrow (Ty.slice Y54) 51
 refine c_loop (fun q1 a w => ∃ (m : Mem) (A2 : Option Addr) (nn3 : Nat) (cp7 : Nat) (y6 : List (List (Bool × (List Int) × Int))) (y7 : Int), St 33 m b0 [(3, (.s A2 nn3 cp7)), (8, (.i y7)), (7, (.i ((x1).length : Int))), (6, (.q Y68 ch_0_0 ch_0_1 x1))] [Res.row (Ty.slice Y54) 51 A2 nn3 cp7 y6] a w ∧ block_logs.l1 k x1 q1 y6 y7 = some r) ?_ ?_ (k := k) ⟨_, none, 0, 0, ([] : List (List (Bool × (List Int) × Int))), 0, (S.sb rfl (.c0 .n)), h0⟩
 ·rintro a w ⟨m, A2, nn3, cp7, y6, y7, S, h0⟩
  exact (nomatch (show (none : Option ((List (Bool × (List Int) × Int)))) = some r from h0))
 ·clear S h0
  rintro q1 a w ⟨m, A2, nn3, cp7, y6, y7, S, h0⟩
  replace h0 : block_logs.b1 k x1 (block_logs.l1 k x1 q1) y6 y7 = some r := h0
  delta block_logs.b1 at h0
  refine c_region (s_bin S rfl rfl rfl rfl fun a S => c_end (wp_seq ?_))
  rcases ite_of h0 with ⟨c1, h1⟩ | ⟨c1, h1⟩
  ·refine c_condT S rfl c1 (wp_skip (x_thenN (wp_seq_k fun K2 hK2 => ?_)))
   have j2 : ∀ (m : Mem) (A3 : Option Addr) (cp9 : Nat) (y8 : List (List (Bool × (List Int) × Int))) (a : Act) (w : World), St 33 m b0 [(3, (.s A3 (nn3 + 1) cp9)), (8, (.i y7)), (7, (.i ((x1).length : Int))), (6, (.q Y68 ch_0_0 ch_0_1 x1))] [Res.row (Ty.slice Y54) 51 A3 (nn3 + 1) cp9 y8] a w → block_logs.j2 y7 (block_logs.l1 k x1 q1) y8 = some r → K2 a w := by
    intro m A3 cp9 y8 a w S h0
    delta block_logs.j2 at h0
    refine hK2 a w (c_region' (s_bin S rfl rfl rfl rfl fun a S => s_move S rfl rfl fun a S => c_end' (x_thenN ?_)))
    exact ⟨_, A3, (nn3 + 1), cp9, y8, (wr .i64 (y7 + 1)), (S.sb rfl (.c0 .n)), h0⟩
   refine wp_block (c_region ?_)
   obtain ⟨c2, h2⟩ := chk_of h1; clear h1
   refine s_iaddrS S rfl rfl rfl underlying36 T68 c2.1 c2.2 rfl fun p1 a S => s_ldA S (fun (c : Unit × (Option Addr × Nat) × (Option Addr × Nat)) => [.b20 ((gt x1 y7).1), .q (Ty.arr .u64 4) c.2.1.1 c.2.1.2 ((gt x1 y7).2.1), .q yb c.2.2.1 c.2.2.2 ((gt x1 y7).2.2)]) rfl T68 (fun _ => rfl) rfl fun ch8 a S => s_alloc S Z68 rfl ⟨rfl, rfl, rfl, trivial⟩ rfl fun g1 a w S => s_store S rfl rfl rfl (s' := [.b20 ((gt x1 y7).1), .q (Ty.arr .u64 4) ch8.2.1.1 ch8.2.1.2 ((gt x1 y7).2.1), .q yb ch8.2.2.1 ch8.2.2.2 ((gt x1 y7).2.2)]) .h T68 rfl rfl fun w S => c_end ?_
   replace S := S.freeze .h
   obtain ⟨m, le1, S⟩ := S
   refine c_heldS S (.take 0 (.take 1 (.take 2 (.take 5 (.take 6 (.take 10 (.take 11 (.alts (.run 3 true (.alts (.run 4 true (.alts (.run 7 true (.alts (.run 8 true (.alts (.run 9 true (.alts (.run 12 true (.alts (.run 13 true (.alts (.run 14 true (.alts (.run 15 true (.alts (.run 16 true (.alts (.run 17 false (.alts (.run 18 false .done .nil)) .nil)) .nil)) .nil)) .nil)) .nil)) .nil)) .nil)) .nil)) .nil)) (.run 7 true (.alts (.run 4 true (.alts (.run 8 true (.alts (.run 9 true (.alts (.run 12 true (.alts (.run 13 true (.alts (.run 14 true (.alts (.run 15 true (.alts (.run 16 true (.alts (.run 17 false (.alts (.run 18 false .done .nil)) .nil)) .nil)) .nil)) .nil)) .nil)) .nil)) .nil)) .nil)) (.run 8 true (.alts (.run 4 true (.alts (.run 9 true (.alts (.run 12 true (.alts (.run 13 true (.alts (.run 14 true (.alts (.run 15 true (.alts (.run 16 true (.alts (.run 17 false (.alts (.run 18 false .done .nil)) .nil)) .nil)) .nil)) .nil)) .nil)) .nil)) .nil)) (.run 9 true (.alts (.run 4 true (.alts (.run 12 true (.alts (.run 13 true (.alts (.run 14 true (.alts (.run 15 true (.alts (.run 16 true (.alts (.run 17 false (.alts (.run 18 false .done .nil)) .nil)) .nil)) .nil)) .nil)) .nil)) .nil)) (.run 12 true (.alts (.run 4 true (.alts (.run 13 true (.alts (.run 14 true (.alts (.run 15 true (.alts (.run 16 true (.alts (.run 17 false (.alts (.run 18 false .done .nil)) .nil)) .nil)) .nil)) .nil)) .nil)) (.run 13 true (.alts (.run 4 true (.alts (.run 14 true (.alts (.run 15 true (.alts (.run 16 true (.alts (.run 17 false (.alts (.run 18 false .done .nil)) .nil)) .nil)) .nil)) .nil)) .nil)) .nil))) .nil))) .nil))) .nil))) .nil))) .nil))))))))) 17 [Res.fro g1 68 [.b20 ((gt x1 y7).1), .q (Ty.arr .u64 4) ch8.2.1.1 ch8.2.1.2 ((gt x1 y7).2.1), .q yb ch8.2.2.1 ch8.2.2.2 ((gt x1 y7).2.2)]] (.c0 .n) ⟨Res.stay_fro, trivial⟩ [(5, (.p g1)), (3, (.s A2 nn3 cp7))] (subR rfl) (by kernel_rfl) (by kernel_rfl) fun w S CL hw le => ?_
   refine h_move S CL hw le (subR rfl) rfl rfl rfl trivial fun a S CL => h_fieldAddr S CL hw le (subR rfl) rfl I68_0 T28 (by decide) rfl rfl rfl trivial fun a S CL => h_sliceA S CL hw le (subR rfl) (i := 0) (j := 20) (o' := 0) (len := 20) (cap := 20) rfl underlying28 T5 (.inl ⟨rfl, rfl⟩) (.inl ⟨rfl, rfl⟩) (by decide) rfl rfl rfl rfl rfl trivial fun a S CL => h_fieldAddr S CL hw le (subR rfl) rfl I68_1 T66 (by decide) rfl rfl rfl trivial fun a S CL => h_loadSlF S CL hw le (subR rfl) rfl .h T66 (A := ch8.2.1.1) (len := ((gt x1 y7).2.1).length) (cap := ch8.2.1.2) rfl rfl rfl trivial fun a S CL => h_fieldAddr S CL hw le (subR rfl) rfl I68_2 T37 (by decide) rfl rfl rfl trivial fun a S CL => h_loadSlF S CL hw le (subR rfl) rfl .h T37 (A := ch8.2.2.1) (len := ((gt x1 y7).2.2).length) (cap := ch8.2.2.2) rfl rfl rfl trivial fun a S CL => h_run' S rfl trivial ?_
   replace S := (S.slup' (u := 14) (lo := 0) (c := 20) (ys := (((gt x1 y7).1).drop 0).take 20) rfl (Pull.mem .h).1 .h (.inl rfl) (by decide) (by decide) rfl).2
   replace CL := CL.drop (lq' := [(23, (.q yb ch8.2.2.1 ch8.2.2.2 ((gt x1 y7).2.2))), (22, (.o g1 21)), (18, (.q (Ty.arr .u64 4) ch8.2.1.1 ch8.2.1.2 ((gt x1 y7).2.1))), (17, (.o g1 20)), (13, (.p g1)), (12, (.s A2 nn3 cp7)), (5, (.p g1)), (3, (.s A2 nn3 cp7))]) (subR rfl)
   refine bindX h2 fun t7 et7 h3 => s_callP S _ N23 rfl rfl (block_item.ok ((((gt x1 y7).1).drop 0).take 20) (ad g1) 20 t7 et7 _ _) fun ch9 m le1 a w S => ?_
   replace le := le.trans le1
   replace hw := CL.again hw S (.c0 .n) le
   refine h_back ⟨fun _ => hw, ?_⟩
   refine bindX h3 fun t8 et8 h4 => bindX h4 fun t9 et9 h5 => bindX h5 fun t10 et10 h6 => bindX h6 fun t11 et11 h7 => ?_
   obtain ⟨c3, h8⟩ := chk_of h7; clear h7
   refine h_alts ?_
   refine h_runO S rfl trivial ?_ ?_
   ·refine s_bldSl S (ty' := Y54) (ds := [(0, (.agg [.b t7.1, .q yb ch9.1 ch9.2 t7.2.1, .i t7.2.2]))]) (z := (false, ([] : List Int), 0)) (c0 := ((), (none, 0), ())) (ys := [(t7.1, t7.2.1, t7.2.2)]) (cs := [((), (ch9.1, ch9.2), ())]) rfl underlying51 J54 Z54 rfl ⟨rfl, ⟨Nat.le_refl _, Nat.zero_le _, RdS.nil _ _ _, RdS.mono _ _ _⟩, rfl, trivial⟩ rfl rfl rfl rfl rfl rfl fun g2 a w S => ?_
    replace hw := CL.again hw S (.c1 .n) le
    refine h_back ⟨fun _ => hw, ?_⟩
    refine h_run' S rfl trivial (s_callR S (fun (ch : (Option Addr) × Nat × Nat) => ((.s ch.1 ch.2.1 ch.2.2) : D)) (fun (ch : (Option Addr) × Nat × Nat) => Res.row Y54 54 ch.1 ch.2.1 ch.2.2 t8) N51 rfl rfl (api_Word_1f26.ok k ((gt x1 y7).2.1) ch8.2.1.1 ch8.2.1.2 t8 et8 _ _) fun ch10 m le1 a w S => ?_)
    replace le := le.trans le1
    replace hw := CL.again hw S (.c2 .n) le
    refine h_back ⟨fun _ => hw, ?_⟩
    refine h_run' S rfl trivial ?_
    replace S := S.rowfro .h
    obtain ⟨m, le1, S, hro⟩ := S
    replace le := le.trans le1
    replace S := S.slotro (u := 19) rfl hro
    refine s_bldSl S (ty' := (Ty.slice Y54)) (ds := [(0, (.q Y54 ch10.1 ch10.2.2 t8))]) (z := ([] : List (Bool × (List Int) × Int))) (c0 := (none, 0)) (ys := [t8]) (cs := [(ch10.1, ch10.2.2)]) rfl underlying76 J51 Z51 rfl ⟨⟨Nat.le_refl _, Nat.zero_le _, RdS.nil _ _ _, RdS.mono _ _ _⟩, trivial⟩ rfl rfl rfl rfl rfl rfl fun g3 a w S => ?_
    replace hw := CL.again hw S (.c2 .n) le
    refine h_back ⟨fun _ => hw, ?_⟩
    refine h_run' S rfl trivial ?_
    replace S := S.rowfro .h
    obtain ⟨m, le1, S, hro⟩ := S
    replace le := le.trans le1
    replace S := S.slotro (u := 20) rfl hro
    refine s_callR S (fun (ch : (Option Addr) × Nat × Nat) => ((.s ch.1 ch.2.1 ch.2.2) : D)) (fun (ch : (Option Addr) × Nat × Nat) => Res.row Y54 54 ch.1 ch.2.1 ch.2.2 t9) N22 rfl rfl (block_list.ok k [t8] (ad g3) 1 t9 et9 _ _) fun ch11 m le1 a w S => ?_
    replace le := le.trans le1
    replace hw := CL.again hw S (.c2 .n) le
    refine h_back ⟨fun _ => hw, ?_⟩
    refine h_run' S rfl trivial (s_callP S _ N23 rfl rfl (block_item.ok ((gt x1 y7).2.2) ch8.2.2.1 ch8.2.2.2 t10 et10 _ _) fun ch12 m le1 a w S => ?_)
    replace le := le.trans le1
    replace hw := CL.again hw S (.c2 .n) le
    refine h_back ⟨fun _ => hw, ?_⟩
    refine h_run' S rfl trivial (s_bldSl S (ty' := Y54) (ds := [(0, (.agg [.b t10.1, .q yb ch12.1 ch12.2 t10.2.1, .i t10.2.2]))]) (z := (false, ([] : List Int), 0)) (c0 := ((), (none, 0), ())) (ys := [(t10.1, t10.2.1, t10.2.2)]) (cs := [((), (ch12.1, ch12.2), ())]) rfl underlying51 J54 Z54 rfl ⟨rfl, ⟨Nat.le_refl _, Nat.zero_le _, RdS.nil _ _ _, RdS.mono _ _ _⟩, rfl, trivial⟩ rfl rfl rfl rfl rfl rfl fun g4 a w S => ?_)
    replace hw := CL.again hw S (.c3 .n) le
    refine h_back ⟨fun _ => hw, ?_⟩
    refine h_run' S rfl trivial ?_
    replace S := S.rowfro .h2
    obtain ⟨m, le1, S, hro⟩ := S
    replace le := le.trans le1
    replace S := S.slotro (u := 16) rfl hro
    replace S := S.rowfro .h1
    obtain ⟨m, le1, S, hro⟩ := S
    replace le := le.trans le1
    replace S := S.slotro (u := 21) rfl hro
    replace S := S.rowfro .h
    obtain ⟨m, le1, S, hro⟩ := S
    replace le := le.trans le1
    replace S := S.slotro (u := 25) rfl hro
    refine s_bldSl S (ty' := (Ty.slice Y54)) (ds := [(0, (.q Y54 (ad g2) 1 [(t7.1, t7.2.1, t7.2.2)])), (1, (.q Y54 ch11.1 ch11.2.2 t9)), (2, (.q Y54 (ad g4) 1 [(t10.1, t10.2.1, t10.2.2)]))]) (z := ([] : List (Bool × (List Int) × Int))) (c0 := (none, 0)) (ys := [[(t7.1, t7.2.1, t7.2.2)], t9, [(t10.1, t10.2.1, t10.2.2)]]) (cs := [((ad g2), 1), (ch11.1, ch11.2.2), ((ad g4), 1)]) rfl underlying76 J51 Z51 rfl ⟨⟨Nat.le_refl _, Nat.zero_le _, RdS.nil _ _ _, RdS.mono _ _ _⟩, trivial⟩ rfl rfl rfl rfl rfl rfl fun g5 a w S => ?_
    replace hw := CL.again hw S (.c1 .n) le
    refine h_back ⟨fun _ => hw, ?_⟩
    refine h_run' S rfl trivial ?_
    replace S := S.rowfro .h
    obtain ⟨m, le1, S, hro⟩ := S
    replace le := le.trans le1
    replace S := S.slotro (u := 26) rfl hro
    refine s_callR S (fun (ch : (Option Addr) × Nat × Nat) => ((.s ch.1 ch.2.1 ch.2.2) : D)) (fun (ch : (Option Addr) × Nat × Nat) => Res.row Y54 54 ch.1 ch.2.1 ch.2.2 t11) N22 rfl rfl (block_list.ok k [[(t7.1, t7.2.1, t7.2.2)], t9, [(t10.1, t10.2.1, t10.2.2)]] (ad g5) 3 t11 et11 _ _) fun ch13 m le1 a w S => ?_
    replace le := le.trans le1
    replace hw := CL.again hw S (.c1 .n) le
    refine h_back ⟨fun _ => hw, ?_⟩
    refine h_run' S rfl trivial ?_
    replace S := S.rowfro .h
    obtain ⟨m, le1, S, hro⟩ := S
    replace le := le.trans le1
    replace S := S.slotro (u := 27) rfl hro
    refine s_bldSl S (ty' := (Ty.slice Y54)) (ds := [(0, (.q Y54 ch13.1 ch13.2.2 t11))]) (z := ([] : List (Bool × (List Int) × Int))) (c0 := (none, 0)) (ys := [t11]) (cs := [(ch13.1, ch13.2.2)]) rfl underlying76 J51 Z51 rfl ⟨⟨Nat.le_refl _, Nat.zero_le _, RdS.nil _ _ _, RdS.mono _ _ _⟩, trivial⟩ rfl rfl rfl rfl rfl rfl fun g6 a w S => ?_
    replace hw := CL.again hw S (.c1 .n) le
    refine h_back ⟨fun _ => hw, ?_⟩
    refine h_run' S rfl trivial (s_app S (k2 := 1) (ys := [t11]) rfl (fun _ _ => .h2) rfl rfl (S.holds _ (Pull.mem .h).1).1 (Res.row.src (S.holds _ (Pull.mem .h).1)) underlying76 J51 c3 rfl fun A4 cp10 a w S => ?_)
    refine h_back ⟨fun h => (nomatch h), ?_⟩
    refine h_run' S rfl trivial (s_assign S rfl rfl fun a S => ?_)
    refine h_back ⟨fun h => (nomatch h), ?_⟩
    replace CL := CL.drop (lq' := [(23, (.q yb ch8.2.2.1 ch8.2.2.2 ((gt x1 y7).2.2))), (22, (.o g1 21)), (18, (.q (Ty.arr .u64 4) ch8.2.1.1 ch8.2.1.2 ((gt x1 y7).2.1))), (17, (.o g1 20)), (13, (.p g1)), (12, (.s A2 nn3 cp7)), (5, (.p g1))]) (subR rfl)
    refine h_done ?_; clear CL hw le
    refine x_blockN (x_thenN ?_)
    exact j2 _ A4 cp10 (y6 ++ [t11]) a w (S.sb rfl (.c2 .n)) h8
   refine h_runO S rfl trivial ?_ ?_
   ·refine s_callR S (fun (ch : (Option Addr) × Nat × Nat) => ((.s ch.1 ch.2.1 ch.2.2) : D)) (fun (ch : (Option Addr) × Nat × Nat) => Res.row Y54 54 ch.1 ch.2.1 ch.2.2 t8) N51 rfl rfl (api_Word_1f26.ok k ((gt x1 y7).2.1) ch8.2.1.1 ch8.2.1.2 t8 et8 _ _) fun ch10 m le1 a w S => ?_
    replace le := le.trans le1
    replace hw := CL.again hw S (.c1 .n) le
    refine h_back ⟨fun _ => hw, ?_⟩
    refine h_alts ?_
    refine h_runO S rfl trivial ?_ ?_
    ·refine s_bldSl S (ty' := Y54) (ds := [(0, (.agg [.b t7.1, .q yb ch9.1 ch9.2 t7.2.1, .i t7.2.2]))]) (z := (false, ([] : List Int), 0)) (c0 := ((), (none, 0), ())) (ys := [(t7.1, t7.2.1, t7.2.2)]) (cs := [((), (ch9.1, ch9.2), ())]) rfl underlying51 J54 Z54 rfl ⟨rfl, ⟨Nat.le_refl _, Nat.zero_le _, RdS.nil _ _ _, RdS.mono _ _ _⟩, rfl, trivial⟩ rfl rfl rfl rfl rfl rfl fun g2 a w S => ?_
     replace hw := CL.again hw S (.c2 .n) le
     refine h_back ⟨fun _ => hw, ?_⟩
     refine h_run' S rfl trivial ?_
     replace S := S.rowfro .h1
     obtain ⟨m, le1, S, hro⟩ := S
     replace le := le.trans le1
     replace S := S.slotro (u := 19) rfl hro
     refine s_bldSl S (ty' := (Ty.slice Y54)) (ds := [(0, (.q Y54 ch10.1 ch10.2.2 t8))]) (z := ([] : List (Bool × (List Int) × Int))) (c0 := (none, 0)) (ys := [t8]) (cs := [(ch10.1, ch10.2.2)]) rfl underlying76 J51 Z51 rfl ⟨⟨Nat.le_refl _, Nat.zero_le _, RdS.nil _ _ _, RdS.mono _ _ _⟩, trivial⟩ rfl rfl rfl rfl rfl rfl fun g3 a w S => ?_
     replace hw := CL.again hw S (.c2 .n) le
     refine h_back ⟨fun _ => hw, ?_⟩
     refine h_run' S rfl trivial ?_
     replace S := S.rowfro .h
     obtain ⟨m, le1, S, hro⟩ := S
     replace le := le.trans le1
     replace S := S.slotro (u := 20) rfl hro
     refine s_callR S (fun (ch : (Option Addr) × Nat × Nat) => ((.s ch.1 ch.2.1 ch.2.2) : D)) (fun (ch : (Option Addr) × Nat × Nat) => Res.row Y54 54 ch.1 ch.2.1 ch.2.2 t9) N22 rfl rfl (block_list.ok k [t8] (ad g3) 1 t9 et9 _ _) fun ch11 m le1 a w S => ?_
     replace le := le.trans le1
     replace hw := CL.again hw S (.c2 .n) le
     refine h_back ⟨fun _ => hw, ?_⟩
     refine h_run' S rfl trivial (s_callP S _ N23 rfl rfl (block_item.ok ((gt x1 y7).2.2) ch8.2.2.1 ch8.2.2.2 t10 et10 _ _) fun ch12 m le1 a w S => ?_)
     replace le := le.trans le1
     replace hw := CL.again hw S (.c2 .n) le
     refine h_back ⟨fun _ => hw, ?_⟩
     refine h_run' S rfl trivial (s_bldSl S (ty' := Y54) (ds := [(0, (.agg [.b t10.1, .q yb ch12.1 ch12.2 t10.2.1, .i t10.2.2]))]) (z := (false, ([] : List Int), 0)) (c0 := ((), (none, 0), ())) (ys := [(t10.1, t10.2.1, t10.2.2)]) (cs := [((), (ch12.1, ch12.2), ())]) rfl underlying51 J54 Z54 rfl ⟨rfl, ⟨Nat.le_refl _, Nat.zero_le _, RdS.nil _ _ _, RdS.mono _ _ _⟩, rfl, trivial⟩ rfl rfl rfl rfl rfl rfl fun g4 a w S => ?_)
     replace hw := CL.again hw S (.c3 .n) le
     refine h_back ⟨fun _ => hw, ?_⟩
     refine h_run' S rfl trivial ?_
     replace S := S.rowfro .h2
     obtain ⟨m, le1, S, hro⟩ := S
     replace le := le.trans le1
     replace S := S.slotro (u := 16) rfl hro
     replace S := S.rowfro .h1
     obtain ⟨m, le1, S, hro⟩ := S
     replace le := le.trans le1
     replace S := S.slotro (u := 21) rfl hro
     replace S := S.rowfro .h
     obtain ⟨m, le1, S, hro⟩ := S
     replace le := le.trans le1
     replace S := S.slotro (u := 25) rfl hro
     refine s_bldSl S (ty' := (Ty.slice Y54)) (ds := [(0, (.q Y54 (ad g2) 1 [(t7.1, t7.2.1, t7.2.2)])), (1, (.q Y54 ch11.1 ch11.2.2 t9)), (2, (.q Y54 (ad g4) 1 [(t10.1, t10.2.1, t10.2.2)]))]) (z := ([] : List (Bool × (List Int) × Int))) (c0 := (none, 0)) (ys := [[(t7.1, t7.2.1, t7.2.2)], t9, [(t10.1, t10.2.1, t10.2.2)]]) (cs := [((ad g2), 1), (ch11.1, ch11.2.2), ((ad g4), 1)]) rfl underlying76 J51 Z51 rfl ⟨⟨Nat.le_refl _, Nat.zero_le _, RdS.nil _ _ _, RdS.mono _ _ _⟩, trivial⟩ rfl rfl rfl rfl rfl rfl fun g5 a w S => ?_
     replace hw := CL.again hw S (.c1 .n) le
     refine h_back ⟨fun _ => hw, ?_⟩
     refine h_run' S rfl trivial ?_
     replace S := S.rowfro .h
     obtain ⟨m, le1, S, hro⟩ := S
     replace le := le.trans le1
     replace S := S.slotro (u := 26) rfl hro
     refine s_callR S (fun (ch : (Option Addr) × Nat × Nat) => ((.s ch.1 ch.2.1 ch.2.2) : D)) (fun (ch : (Option Addr) × Nat × Nat) => Res.row Y54 54 ch.1 ch.2.1 ch.2.2 t11) N22 rfl rfl (block_list.ok k [[(t7.1, t7.2.1, t7.2.2)], t9, [(t10.1, t10.2.1, t10.2.2)]] (ad g5) 3 t11 et11 _ _) fun ch13 m le1 a w S => ?_
     replace le := le.trans le1
     replace hw := CL.again hw S (.c1 .n) le
     refine h_back ⟨fun _ => hw, ?_⟩
     refine h_run' S rfl trivial ?_
     replace S := S.rowfro .h
     obtain ⟨m, le1, S, hro⟩ := S
     replace le := le.trans le1
     replace S := S.slotro (u := 27) rfl hro
     refine s_bldSl S (ty' := (Ty.slice Y54)) (ds := [(0, (.q Y54 ch13.1 ch13.2.2 t11))]) (z := ([] : List (Bool × (List Int) × Int))) (c0 := (none, 0)) (ys := [t11]) (cs := [(ch13.1, ch13.2.2)]) rfl underlying76 J51 Z51 rfl ⟨⟨Nat.le_refl _, Nat.zero_le _, RdS.nil _ _ _, RdS.mono _ _ _⟩, trivial⟩ rfl rfl rfl rfl rfl rfl fun g6 a w S => ?_
     replace hw := CL.again hw S (.c1 .n) le
     refine h_back ⟨fun _ => hw, ?_⟩
     refine h_run' S rfl trivial (s_app S (k2 := 1) (ys := [t11]) rfl (fun _ _ => .h2) rfl rfl (S.holds _ (Pull.mem .h).1).1 (Res.row.src (S.holds _ (Pull.mem .h).1)) underlying76 J51 c3 rfl fun A4 cp10 a w S => ?_)
     refine h_back ⟨fun h => (nomatch h), ?_⟩
     refine h_run' S rfl trivial (s_assign S rfl rfl fun a S => ?_)
     refine h_back ⟨fun h => (nomatch h), ?_⟩
     replace CL := CL.drop (lq' := [(23, (.q yb ch8.2.2.1 ch8.2.2.2 ((gt x1 y7).2.2))), (22, (.o g1 21)), (18, (.q (Ty.arr .u64 4) ch8.2.1.1 ch8.2.1.2 ((gt x1 y7).2.1))), (17, (.o g1 20)), (13, (.p g1)), (12, (.s A2 nn3 cp7)), (5, (.p g1))]) (subR rfl)
     refine h_done ?_; clear CL hw le
     refine x_blockN (x_thenN ?_)
     exact j2 _ A4 cp10 (y6 ++ [t11]) a w (S.sb rfl (.c2 .n)) h8
    refine h_runO S rfl trivial ?_ ?_
    ·replace S := S.rowfro .h
     obtain ⟨m, le1, S, hro⟩ := S
     replace le := le.trans le1
     replace S := S.slotro (u := 19) rfl hro
     refine s_bldSl S (ty' := (Ty.slice Y54)) (ds := [(0, (.q Y54 ch10.1 ch10.2.2 t8))]) (z := ([] : List (Bool × (List Int) × Int))) (c0 := (none, 0)) (ys := [t8]) (cs := [(ch10.1, ch10.2.2)]) rfl underlying76 J51 Z51 rfl ⟨⟨Nat.le_refl _, Nat.zero_le _, RdS.nil _ _ _, RdS.mono _ _ _⟩, trivial⟩ rfl rfl rfl rfl rfl rfl fun g2 a w S => ?_
     replace hw := CL.again hw S (.c1 .n) le
     refine h_back ⟨fun _ => hw, ?_⟩
     refine h_alts ?_
     refine h_runO S rfl trivial ?_ ?_
     ·refine s_bldSl S (ty' := Y54) (ds := [(0, (.agg [.b t7.1, .q yb ch9.1 ch9.2 t7.2.1, .i t7.2.2]))]) (z := (false, ([] : List Int), 0)) (c0 := ((), (none, 0), ())) (ys := [(t7.1, t7.2.1, t7.2.2)]) (cs := [((), (ch9.1, ch9.2), ())]) rfl underlying51 J54 Z54 rfl ⟨rfl, ⟨Nat.le_refl _, Nat.zero_le _, RdS.nil _ _ _, RdS.mono _ _ _⟩, rfl, trivial⟩ rfl rfl rfl rfl rfl rfl fun g3 a w S => ?_
      replace hw := CL.again hw S (.c2 .n) le
      refine h_back ⟨fun _ => hw, ?_⟩
      refine h_run' S rfl trivial ?_
      replace S := S.rowfro .h1
      obtain ⟨m, le1, S, hro⟩ := S
      replace le := le.trans le1
      replace S := S.slotro (u := 20) rfl hro
      refine s_callR S (fun (ch : (Option Addr) × Nat × Nat) => ((.s ch.1 ch.2.1 ch.2.2) : D)) (fun (ch : (Option Addr) × Nat × Nat) => Res.row Y54 54 ch.1 ch.2.1 ch.2.2 t9) N22 rfl rfl (block_list.ok k [t8] (ad g2) 1 t9 et9 _ _) fun ch11 m le1 a w S => ?_
      replace le := le.trans le1
      replace hw := CL.again hw S (.c2 .n) le
      refine h_back ⟨fun _ => hw, ?_⟩
      refine h_run' S rfl trivial (s_callP S _ N23 rfl rfl (block_item.ok ((gt x1 y7).2.2) ch8.2.2.1 ch8.2.2.2 t10 et10 _ _) fun ch12 m le1 a w S => ?_)
      replace le := le.trans le1
      replace hw := CL.again hw S (.c2 .n) le
      refine h_back ⟨fun _ => hw, ?_⟩
      refine h_run' S rfl trivial (s_bldSl S (ty' := Y54) (ds := [(0, (.agg [.b t10.1, .q yb ch12.1 ch12.2 t10.2.1, .i t10.2.2]))]) (z := (false, ([] : List Int), 0)) (c0 := ((), (none, 0), ())) (ys := [(t10.1, t10.2.1, t10.2.2)]) (cs := [((), (ch12.1, ch12.2), ())]) rfl underlying51 J54 Z54 rfl ⟨rfl, ⟨Nat.le_refl _, Nat.zero_le _, RdS.nil _ _ _, RdS.mono _ _ _⟩, rfl, trivial⟩ rfl rfl rfl rfl rfl rfl fun g4 a w S => ?_)
      replace hw := CL.again hw S (.c3 .n) le
      refine h_back ⟨fun _ => hw, ?_⟩
      refine h_run' S rfl trivial ?_
      replace S := S.rowfro .h2
      obtain ⟨m, le1, S, hro⟩ := S
      replace le := le.trans le1
      replace S := S.slotro (u := 16) rfl hro
      replace S := S.rowfro .h1
      obtain ⟨m, le1, S, hro⟩ := S
      replace le := le.trans le1
      replace S := S.slotro (u := 21) rfl hro
      replace S := S.rowfro .h
      obtain ⟨m, le1, S, hro⟩ := S
      replace le := le.trans le1
      replace S := S.slotro (u := 25) rfl hro
      refine s_bldSl S (ty' := (Ty.slice Y54)) (ds := [(0, (.q Y54 (ad g3) 1 [(t7.1, t7.2.1, t7.2.2)])), (1, (.q Y54 ch11.1 ch11.2.2 t9)), (2, (.q Y54 (ad g4) 1 [(t10.1, t10.2.1, t10.2.2)]))]) (z := ([] : List (Bool × (List Int) × Int))) (c0 := (none, 0)) (ys := [[(t7.1, t7.2.1, t7.2.2)], t9, [(t10.1, t10.2.1, t10.2.2)]]) (cs := [((ad g3), 1), (ch11.1, ch11.2.2), ((ad g4), 1)]) rfl underlying76 J51 Z51 rfl ⟨⟨Nat.le_refl _, Nat.zero_le _, RdS.nil _ _ _, RdS.mono _ _ _⟩, trivial⟩ rfl rfl rfl rfl rfl rfl fun g5 a w S => ?_
      replace hw := CL.again hw S (.c1 .n) le
      refine h_back ⟨fun _ => hw, ?_⟩
      refine h_run' S rfl trivial ?_
      replace S := S.rowfro .h
      obtain ⟨m, le1, S, hro⟩ := S
      replace le := le.trans le1
      replace S := S.slotro (u := 26) rfl hro
      refine s_callR S (fun (ch : (Option Addr) × Nat × Nat) => ((.s ch.1 ch.2.1 ch.2.2) : D)) (fun (ch : (Option Addr) × Nat × Nat) => Res.row Y54 54 ch.1 ch.2.1 ch.2.2 t11) N22 rfl rfl (block_list.ok k [[(t7.1, t7.2.1, t7.2.2)], t9, [(t10.1, t10.2.1, t10.2.2)]] (ad g5) 3 t11 et11 _ _) fun ch13 m le1 a w S => ?_
      replace le := le.trans le1
      replace hw := CL.again hw S (.c1 .n) le
      refine h_back ⟨fun _ => hw, ?_⟩
      refine h_run' S rfl trivial ?_
      replace S := S.rowfro .h
      obtain ⟨m, le1, S, hro⟩ := S
      replace le := le.trans le1
      replace S := S.slotro (u := 27) rfl hro
      refine s_bldSl S (ty' := (Ty.slice Y54)) (ds := [(0, (.q Y54 ch13.1 ch13.2.2 t11))]) (z := ([] : List (Bool × (List Int) × Int))) (c0 := (none, 0)) (ys := [t11]) (cs := [(ch13.1, ch13.2.2)]) rfl underlying76 J51 Z51 rfl ⟨⟨Nat.le_refl _, Nat.zero_le _, RdS.nil _ _ _, RdS.mono _ _ _⟩, trivial⟩ rfl rfl rfl rfl rfl rfl fun g6 a w S => ?_
      replace hw := CL.again hw S (.c1 .n) le
      refine h_back ⟨fun _ => hw, ?_⟩
      refine h_run' S rfl trivial (s_app S (k2 := 1) (ys := [t11]) rfl (fun _ _ => .h2) rfl rfl (S.holds _ (Pull.mem .h).1).1 (Res.row.src (S.holds _ (Pull.mem .h).1)) underlying76 J51 c3 rfl fun A4 cp10 a w S => ?_)
      refine h_back ⟨fun h => (nomatch h), ?_⟩
      refine h_run' S rfl trivial (s_assign S rfl rfl fun a S => ?_)
      refine h_back ⟨fun h => (nomatch h), ?_⟩
      replace CL := CL.drop (lq' := [(23, (.q yb ch8.2.2.1 ch8.2.2.2 ((gt x1 y7).2.2))), (22, (.o g1 21)), (18, (.q (Ty.arr .u64 4) ch8.2.1.1 ch8.2.1.2 ((gt x1 y7).2.1))), (17, (.o g1 20)), (13, (.p g1)), (12, (.s A2 nn3 cp7)), (5, (.p g1))]) (subR rfl)
      refine h_done ?_; clear CL hw le
      refine x_blockN (x_thenN ?_)
      exact j2 _ A4 cp10 (y6 ++ [t11]) a w (S.sb rfl (.c2 .n)) h8
     refine h_runO S rfl trivial ?_ ?_
     ·replace S := S.rowfro .h
      obtain ⟨m, le1, S, hro⟩ := S
      replace le := le.trans le1
      replace S := S.slotro (u := 20) rfl hro
      refine s_callR S (fun (ch : (Option Addr) × Nat × Nat) => ((.s ch.1 ch.2.1 ch.2.2) : D)) (fun (ch : (Option Addr) × Nat × Nat) => Res.row Y54 54 ch.1 ch.2.1 ch.2.2 t9) N22 rfl rfl (block_list.ok k [t8] (ad g2) 1 t9 et9 _ _) fun ch11 m le1 a w S => ?_
      replace le := le.trans le1
      replace hw := CL.again hw S (.c1 .n) le
      refine h_back ⟨fun _ => hw, ?_⟩
      refine h_alts ?_
      refine h_runO S rfl trivial ?_ ?_
      ·refine s_bldSl S (ty' := Y54) (ds := [(0, (.agg [.b t7.1, .q yb ch9.1 ch9.2 t7.2.1, .i t7.2.2]))]) (z := (false, ([] : List Int), 0)) (c0 := ((), (none, 0), ())) (ys := [(t7.1, t7.2.1, t7.2.2)]) (cs := [((), (ch9.1, ch9.2), ())]) rfl underlying51 J54 Z54 rfl ⟨rfl, ⟨Nat.le_refl _, Nat.zero_le _, RdS.nil _ _ _, RdS.mono _ _ _⟩, rfl, trivial⟩ rfl rfl rfl rfl rfl rfl fun g3 a w S => ?_
       replace hw := CL.again hw S (.c2 .n) le
       refine h_back ⟨fun _ => hw, ?_⟩
       refine h_run' S rfl trivial (s_callP S _ N23 rfl rfl (block_item.ok ((gt x1 y7).2.2) ch8.2.2.1 ch8.2.2.2 t10 et10 _ _) fun ch12 m le1 a w S => ?_)
       replace le := le.trans le1
       replace hw := CL.again hw S (.c2 .n) le
       refine h_back ⟨fun _ => hw, ?_⟩
       refine h_run' S rfl trivial (s_bldSl S (ty' := Y54) (ds := [(0, (.agg [.b t10.1, .q yb ch12.1 ch12.2 t10.2.1, .i t10.2.2]))]) (z := (false, ([] : List Int), 0)) (c0 := ((), (none, 0), ())) (ys := [(t10.1, t10.2.1, t10.2.2)]) (cs := [((), (ch12.1, ch12.2), ())]) rfl underlying51 J54 Z54 rfl ⟨rfl, ⟨Nat.le_refl _, Nat.zero_le _, RdS.nil _ _ _, RdS.mono _ _ _⟩, rfl, trivial⟩ rfl rfl rfl rfl rfl rfl fun g4 a w S => ?_)
       replace hw := CL.again hw S (.c3 .n) le
       refine h_back ⟨fun _ => hw, ?_⟩
       refine h_run' S rfl trivial ?_
       replace S := S.rowfro .h1
       obtain ⟨m, le1, S, hro⟩ := S
       replace le := le.trans le1
       replace S := S.slotro (u := 16) rfl hro
       replace S := S.rowfro .h1
       obtain ⟨m, le1, S, hro⟩ := S
       replace le := le.trans le1
       replace S := S.slotro (u := 21) rfl hro
       replace S := S.rowfro .h
       obtain ⟨m, le1, S, hro⟩ := S
       replace le := le.trans le1
       replace S := S.slotro (u := 25) rfl hro
       refine s_bldSl S (ty' := (Ty.slice Y54)) (ds := [(0, (.q Y54 (ad g3) 1 [(t7.1, t7.2.1, t7.2.2)])), (1, (.q Y54 ch11.1 ch11.2.2 t9)), (2, (.q Y54 (ad g4) 1 [(t10.1, t10.2.1, t10.2.2)]))]) (z := ([] : List (Bool × (List Int) × Int))) (c0 := (none, 0)) (ys := [[(t7.1, t7.2.1, t7.2.2)], t9, [(t10.1, t10.2.1, t10.2.2)]]) (cs := [((ad g3), 1), (ch11.1, ch11.2.2), ((ad g4), 1)]) rfl underlying76 J51 Z51 rfl ⟨⟨Nat.le_refl _, Nat.zero_le _, RdS.nil _ _ _, RdS.mono _ _ _⟩, trivial⟩ rfl rfl rfl rfl rfl rfl fun g5 a w S => ?_
       replace hw := CL.again hw S (.c1 .n) le
       refine h_back ⟨fun _ => hw, ?_⟩
       refine h_run' S rfl trivial ?_
       replace S := S.rowfro .h
       obtain ⟨m, le1, S, hro⟩ := S
       replace le := le.trans le1
       replace S := S.slotro (u := 26) rfl hro
       refine s_callR S (fun (ch : (Option Addr) × Nat × Nat) => ((.s ch.1 ch.2.1 ch.2.2) : D)) (fun (ch : (Option Addr) × Nat × Nat) => Res.row Y54 54 ch.1 ch.2.1 ch.2.2 t11) N22 rfl rfl (block_list.ok k [[(t7.1, t7.2.1, t7.2.2)], t9, [(t10.1, t10.2.1, t10.2.2)]] (ad g5) 3 t11 et11 _ _) fun ch13 m le1 a w S => ?_
       replace le := le.trans le1
       replace hw := CL.again hw S (.c1 .n) le
       refine h_back ⟨fun _ => hw, ?_⟩
       refine h_run' S rfl trivial ?_
       replace S := S.rowfro .h
       obtain ⟨m, le1, S, hro⟩ := S
       replace le := le.trans le1
       replace S := S.slotro (u := 27) rfl hro
       refine s_bldSl S (ty' := (Ty.slice Y54)) (ds := [(0, (.q Y54 ch13.1 ch13.2.2 t11))]) (z := ([] : List (Bool × (List Int) × Int))) (c0 := (none, 0)) (ys := [t11]) (cs := [(ch13.1, ch13.2.2)]) rfl underlying76 J51 Z51 rfl ⟨⟨Nat.le_refl _, Nat.zero_le _, RdS.nil _ _ _, RdS.mono _ _ _⟩, trivial⟩ rfl rfl rfl rfl rfl rfl fun g6 a w S => ?_
       replace hw := CL.again hw S (.c1 .n) le
       refine h_back ⟨fun _ => hw, ?_⟩
       refine h_run' S rfl trivial (s_app S (k2 := 1) (ys := [t11]) rfl (fun _ _ => .h2) rfl rfl (S.holds _ (Pull.mem .h).1).1 (Res.row.src (S.holds _ (Pull.mem .h).1)) underlying76 J51 c3 rfl fun A4 cp10 a w S => ?_)
       refine h_back ⟨fun h => (nomatch h), ?_⟩
       refine h_run' S rfl trivial (s_assign S rfl rfl fun a S => ?_)
       refine h_back ⟨fun h => (nomatch h), ?_⟩
       replace CL := CL.drop (lq' := [(23, (.q yb ch8.2.2.1 ch8.2.2.2 ((gt x1 y7).2.2))), (22, (.o g1 21)), (18, (.q (Ty.arr .u64 4) ch8.2.1.1 ch8.2.1.2 ((gt x1 y7).2.1))), (17, (.o g1 20)), (13, (.p g1)), (12, (.s A2 nn3 cp7)), (5, (.p g1))]) (subR rfl)
       refine h_done ?_; clear CL hw le
       refine x_blockN (x_thenN ?_)
       exact j2 _ A4 cp10 (y6 ++ [t11]) a w (S.sb rfl (.c2 .n)) h8
      refine h_runO S rfl trivial ?_ ?_
      ·refine s_callP S _ N23 rfl rfl (block_item.ok ((gt x1 y7).2.2) ch8.2.2.1 ch8.2.2.2 t10 et10 _ _) fun ch12 m le1 a w S => ?_
       replace le := le.trans le1
       replace hw := CL.again hw S (.c1 .n) le
       refine h_back ⟨fun _ => hw, ?_⟩
       refine h_alts ?_
       refine h_runO S rfl trivial ?_ ?_
       ·refine s_bldSl S (ty' := Y54) (ds := [(0, (.agg [.b t7.1, .q yb ch9.1 ch9.2 t7.2.1, .i t7.2.2]))]) (z := (false, ([] : List Int), 0)) (c0 := ((), (none, 0), ())) (ys := [(t7.1, t7.2.1, t7.2.2)]) (cs := [((), (ch9.1, ch9.2), ())]) rfl underlying51 J54 Z54 rfl ⟨rfl, ⟨Nat.le_refl _, Nat.zero_le _, RdS.nil _ _ _, RdS.mono _ _ _⟩, rfl, trivial⟩ rfl rfl rfl rfl rfl rfl fun g3 a w S => ?_
        replace hw := CL.again hw S (.c2 .n) le
        refine h_back ⟨fun _ => hw, ?_⟩
        refine h_run' S rfl trivial (s_bldSl S (ty' := Y54) (ds := [(0, (.agg [.b t10.1, .q yb ch12.1 ch12.2 t10.2.1, .i t10.2.2]))]) (z := (false, ([] : List Int), 0)) (c0 := ((), (none, 0), ())) (ys := [(t10.1, t10.2.1, t10.2.2)]) (cs := [((), (ch12.1, ch12.2), ())]) rfl underlying51 J54 Z54 rfl ⟨rfl, ⟨Nat.le_refl _, Nat.zero_le _, RdS.nil _ _ _, RdS.mono _ _ _⟩, rfl, trivial⟩ rfl rfl rfl rfl rfl rfl fun g4 a w S => ?_)
        replace hw := CL.again hw S (.c3 .n) le
        refine h_back ⟨fun _ => hw, ?_⟩
        refine h_run' S rfl trivial ?_
        replace S := S.rowfro .h1
        obtain ⟨m, le1, S, hro⟩ := S
        replace le := le.trans le1
        replace S := S.slotro (u := 16) rfl hro
        replace S := S.rowfro .h1
        obtain ⟨m, le1, S, hro⟩ := S
        replace le := le.trans le1
        replace S := S.slotro (u := 21) rfl hro
        replace S := S.rowfro .h
        obtain ⟨m, le1, S, hro⟩ := S
        replace le := le.trans le1
        replace S := S.slotro (u := 25) rfl hro
        refine s_bldSl S (ty' := (Ty.slice Y54)) (ds := [(0, (.q Y54 (ad g3) 1 [(t7.1, t7.2.1, t7.2.2)])), (1, (.q Y54 ch11.1 ch11.2.2 t9)), (2, (.q Y54 (ad g4) 1 [(t10.1, t10.2.1, t10.2.2)]))]) (z := ([] : List (Bool × (List Int) × Int))) (c0 := (none, 0)) (ys := [[(t7.1, t7.2.1, t7.2.2)], t9, [(t10.1, t10.2.1, t10.2.2)]]) (cs := [((ad g3), 1), (ch11.1, ch11.2.2), ((ad g4), 1)]) rfl underlying76 J51 Z51 rfl ⟨⟨Nat.le_refl _, Nat.zero_le _, RdS.nil _ _ _, RdS.mono _ _ _⟩, trivial⟩ rfl rfl rfl rfl rfl rfl fun g5 a w S => ?_
        replace hw := CL.again hw S (.c1 .n) le
        refine h_back ⟨fun _ => hw, ?_⟩
        refine h_run' S rfl trivial ?_
        replace S := S.rowfro .h
        obtain ⟨m, le1, S, hro⟩ := S
        replace le := le.trans le1
        replace S := S.slotro (u := 26) rfl hro
        refine s_callR S (fun (ch : (Option Addr) × Nat × Nat) => ((.s ch.1 ch.2.1 ch.2.2) : D)) (fun (ch : (Option Addr) × Nat × Nat) => Res.row Y54 54 ch.1 ch.2.1 ch.2.2 t11) N22 rfl rfl (block_list.ok k [[(t7.1, t7.2.1, t7.2.2)], t9, [(t10.1, t10.2.1, t10.2.2)]] (ad g5) 3 t11 et11 _ _) fun ch13 m le1 a w S => ?_
        replace le := le.trans le1
        replace hw := CL.again hw S (.c1 .n) le
        refine h_back ⟨fun _ => hw, ?_⟩
        refine h_run' S rfl trivial ?_
        replace S := S.rowfro .h
        obtain ⟨m, le1, S, hro⟩ := S
        replace le := le.trans le1
        replace S := S.slotro (u := 27) rfl hro
        refine s_bldSl S (ty' := (Ty.slice Y54)) (ds := [(0, (.q Y54 ch13.1 ch13.2.2 t11))]) (z := ([] : List (Bool × (List Int) × Int))) (c0 := (none, 0)) (ys := [t11]) (cs := [(ch13.1, ch13.2.2)]) rfl underlying76 J51 Z51 rfl ⟨⟨Nat.le_refl _, Nat.zero_le _, RdS.nil _ _ _, RdS.mono _ _ _⟩, trivial⟩ rfl rfl rfl rfl rfl rfl fun g6 a w S => ?_
        replace hw := CL.again hw S (.c1 .n) le
        refine h_back ⟨fun _ => hw, ?_⟩
        refine h_run' S rfl trivial (s_app S (k2 := 1) (ys := [t11]) rfl (fun _ _ => .h2) rfl rfl (S.holds _ (Pull.mem .h).1).1 (Res.row.src (S.holds _ (Pull.mem .h).1)) underlying76 J51 c3 rfl fun A4 cp10 a w S => ?_)
        refine h_back ⟨fun h => (nomatch h), ?_⟩
        refine h_run' S rfl trivial (s_assign S rfl rfl fun a S => ?_)
        refine h_back ⟨fun h => (nomatch h), ?_⟩
        replace CL := CL.drop (lq' := [(23, (.q yb ch8.2.2.1 ch8.2.2.2 ((gt x1 y7).2.2))), (22, (.o g1 21)), (18, (.q (Ty.arr .u64 4) ch8.2.1.1 ch8.2.1.2 ((gt x1 y7).2.1))), (17, (.o g1 20)), (13, (.p g1)), (12, (.s A2 nn3 cp7)), (5, (.p g1))]) (subR rfl)
        refine h_done ?_; clear CL hw le
        refine x_blockN (x_thenN ?_)
        exact j2 _ A4 cp10 (y6 ++ [t11]) a w (S.sb rfl (.c2 .n)) h8
       refine h_runO S rfl trivial ?_ ?_
       ·refine s_bldSl S (ty' := Y54) (ds := [(0, (.agg [.b t10.1, .q yb ch12.1 ch12.2 t10.2.1, .i t10.2.2]))]) (z := (false, ([] : List Int), 0)) (c0 := ((), (none, 0), ())) (ys := [(t10.1, t10.2.1, t10.2.2)]) (cs := [((), (ch12.1, ch12.2), ())]) rfl underlying51 J54 Z54 rfl ⟨rfl, ⟨Nat.le_refl _, Nat.zero_le _, RdS.nil _ _ _, RdS.mono _ _ _⟩, rfl, trivial⟩ rfl rfl rfl rfl rfl rfl fun g3 a w S => ?_
        replace hw := CL.again hw S (.c2 .n) le
        refine h_back ⟨fun _ => hw, ?_⟩
        refine h_run' S rfl trivial (s_bldSl S (ty' := Y54) (ds := [(0, (.agg [.b t7.1, .q yb ch9.1 ch9.2 t7.2.1, .i t7.2.2]))]) (z := (false, ([] : List Int), 0)) (c0 := ((), (none, 0), ())) (ys := [(t7.1, t7.2.1, t7.2.2)]) (cs := [((), (ch9.1, ch9.2), ())]) rfl underlying51 J54 Z54 rfl ⟨rfl, ⟨Nat.le_refl _, Nat.zero_le _, RdS.nil _ _ _, RdS.mono _ _ _⟩, rfl, trivial⟩ rfl rfl rfl rfl rfl rfl fun g4 a w S => ?_)
        replace hw := CL.again hw S (.c3 .n) le
        refine h_back ⟨fun _ => hw, ?_⟩
        refine h_run' S rfl trivial ?_
        replace S := S.rowfro .h
        obtain ⟨m, le1, S, hro⟩ := S
        replace le := le.trans le1
        replace S := S.slotro (u := 16) rfl hro
        replace S := S.rowfro .h1
        obtain ⟨m, le1, S, hro⟩ := S
        replace le := le.trans le1
        replace S := S.slotro (u := 21) rfl hro
        replace S := S.rowfro .h
        obtain ⟨m, le1, S, hro⟩ := S
        replace le := le.trans le1
        replace S := S.slotro (u := 25) rfl hro
        refine s_bldSl S (ty' := (Ty.slice Y54)) (ds := [(0, (.q Y54 (ad g4) 1 [(t7.1, t7.2.1, t7.2.2)])), (1, (.q Y54 ch11.1 ch11.2.2 t9)), (2, (.q Y54 (ad g3) 1 [(t10.1, t10.2.1, t10.2.2)]))]) (z := ([] : List (Bool × (List Int) × Int))) (c0 := (none, 0)) (ys := [[(t7.1, t7.2.1, t7.2.2)], t9, [(t10.1, t10.2.1, t10.2.2)]]) (cs := [((ad g4), 1), (ch11.1, ch11.2.2), ((ad g3), 1)]) rfl underlying76 J51 Z51 rfl ⟨⟨Nat.le_refl _, Nat.zero_le _, RdS.nil _ _ _, RdS.mono _ _ _⟩, trivial⟩ rfl rfl rfl rfl rfl rfl fun g5 a w S => ?_
        replace hw := CL.again hw S (.c1 .n) le
        refine h_back ⟨fun _ => hw, ?_⟩
        refine h_run' S rfl trivial ?_
        replace S := S.rowfro .h
        obtain ⟨m, le1, S, hro⟩ := S
        replace le := le.trans le1
        replace S := S.slotro (u := 26) rfl hro
        refine s_callR S (fun (ch : (Option Addr) × Nat × Nat) => ((.s ch.1 ch.2.1 ch.2.2) : D)) (fun (ch : (Option Addr) × Nat × Nat) => Res.row Y54 54 ch.1 ch.2.1 ch.2.2 t11) N22 rfl rfl (block_list.ok k [[(t7.1, t7.2.1, t7.2.2)], t9, [(t10.1, t10.2.1, t10.2.2)]] (ad g5) 3 t11 et11 _ _) fun ch13 m le1 a w S => ?_
        replace le := le.trans le1
        replace hw := CL.again hw S (.c1 .n) le
        refine h_back ⟨fun _ => hw, ?_⟩
        refine h_run' S rfl trivial ?_
        replace S := S.rowfro .h
        obtain ⟨m, le1, S, hro⟩ := S
        replace le := le.trans le1
        replace S := S.slotro (u := 27) rfl hro
        refine s_bldSl S (ty' := (Ty.slice Y54)) (ds := [(0, (.q Y54 ch13.1 ch13.2.2 t11))]) (z := ([] : List (Bool × (List Int) × Int))) (c0 := (none, 0)) (ys := [t11]) (cs := [(ch13.1, ch13.2.2)]) rfl underlying76 J51 Z51 rfl ⟨⟨Nat.le_refl _, Nat.zero_le _, RdS.nil _ _ _, RdS.mono _ _ _⟩, trivial⟩ rfl rfl rfl rfl rfl rfl fun g6 a w S => ?_
        replace hw := CL.again hw S (.c1 .n) le
        refine h_back ⟨fun _ => hw, ?_⟩
        refine h_run' S rfl trivial (s_app S (k2 := 1) (ys := [t11]) rfl (fun _ _ => .h2) rfl rfl (S.holds _ (Pull.mem .h).1).1 (Res.row.src (S.holds _ (Pull.mem .h).1)) underlying76 J51 c3 rfl fun A4 cp10 a w S => ?_)
        refine h_back ⟨fun h => (nomatch h), ?_⟩
        refine h_run' S rfl trivial (s_assign S rfl rfl fun a S => ?_)
        refine h_back ⟨fun h => (nomatch h), ?_⟩
        replace CL := CL.drop (lq' := [(23, (.q yb ch8.2.2.1 ch8.2.2.2 ((gt x1 y7).2.2))), (22, (.o g1 21)), (18, (.q (Ty.arr .u64 4) ch8.2.1.1 ch8.2.1.2 ((gt x1 y7).2.1))), (17, (.o g1 20)), (13, (.p g1)), (12, (.s A2 nn3 cp7)), (5, (.p g1))]) (subR rfl)
        refine h_done ?_; clear CL hw le
        refine x_blockN (x_thenN ?_)
        exact j2 _ A4 cp10 (y6 ++ [t11]) a w (S.sb rfl (.c2 .n)) h8
       exact h_nil
      exact h_nil
     exact h_nil
    exact h_nil
   exact h_nil
  ·refine c_condF S rfl c1 (wp_exit (x_thenX (x_thenX (x_blockX (x_thenN ?_)))))
   exact j1 _ A2 nn3 cp7 y6 a w (S.sub ⟨rfl, trivial⟩ (.c0 .n)) h1
abbrev block_Receipt.Ty : Type := ((List Int) × Int × Bool × Int × (List Int) × (List Int) × (List L68) × (List Int)) → Option ((List Int))
def block_Receipt.Ctr (s : block_Receipt.Ty) : Prop := ∀ (x1 : (List Int) × Int × Bool × Int × (List Int) × (List Int) × (List L68) × (List Int)) (ch_0_0 : Option Addr) (ch_0_1 : Nat) (ch_0_2 : Option Addr) (ch_0_3 : Nat) (r : (List Int)), CtG (C := Unit) Tryd.prog Glob 13 (s x1 = some r) [] [(.agg [.b20 x1.1, .w x1.2.1, .b x1.2.2.1, .w x1.2.2.2.1, .w4 x1.2.2.2.2.1, .b20 x1.2.2.2.2.2.1, .q Y68 ch_0_0 ch_0_1 x1.2.2.2.2.2.2.1, .q yb ch_0_2 ch_0_3 x1.2.2.2.2.2.2.2])] (fun _ => (.a32 r)) fun _ => []
def block_Receipt.j2 (y2 : List Int) : Option ((List Int)) := some y2
def block_Receipt.j1 (k : Nat) (x1 : (List Int) × Int × Bool × Int × (List Int) × (List Int) × (List L68) × (List Int)) (y1 : Int) : Option ((List Int)) := (block_item.f (((x1.1).drop 0).take 20)).bind fun t1 => ((block_count.f k x1.2.1).bind fun t2 => ((block_count.f k y1).bind fun t3 => ((block_count.f k x1.2.2.2.1).bind fun t4 => ((block_number.f k x1.2.2.2.2.1).bind fun t5 => ((block_item.f (((x1.2.2.2.2.2.1).drop 0).take 20)).bind fun t6 => ((block_item.f x1.2.2.2.2.2.2.2).bind fun t7 => ((block_logs.f k x1.2.2.2.2.2.2.1).bind fun t8 => ((block_list.f k [[(t1.1, t1.2.1, t1.2.2), (t2.1, t2.2.1, t2.2.2), (t3.1, t3.2.1, t3.2.2), (t4.1, t4.2.1, t4.2.2), (t5.1, t5.2.1, t5.2.2), (t6.1, t6.2.1, t6.2.2), (t7.1, t7.2.1, t7.2.2)], t8]).bind fun t9 => ((block_hash.f k t9).bind fun t10 => (block_Receipt.j2 t10))))))))))
def block_Receipt.f (k : Nat) (x1 : (List Int) × Int × Bool × Int × (List Int) × (List Int) × (List L68) × (List Int)) : Option ((List Int)) := if x1.2.2.1 = true then (block_Receipt.j1 k x1 1) else (block_Receipt.j1 k x1 0)
theorem block_Receipt.ok (k : Nat) : block_Receipt.Ctr (block_Receipt.f k) := by
 intro x1 ch_0_0 ch_0_1 ch_0_2 ch_0_3 r h0 mi w0 G ok hm
 delta block_Receipt.f at h0
 refine c_enterZ (n := 33) ok hm func13 rfl rfl rfl fun b0 hb a S => c_region (s_box S rfl rfl rfl fun g1 a w S => s_alloc S Z23 rfl ⟨rfl, trivial⟩ rfl fun g2 a w S => c_end (c_region (s_assign S rfl rfl fun a S => c_end (wp_seq_k fun K1 hK1 => ?_))))
 have j1 : ∀ m y1 g3 g4 a w, St 33 m b0 [(3, (.w y1)), (2, (.p g3)), (1, (.p g4))] [Res.cells g3 23 [.b32 z32], Res.cells g4 39 [.b20 x1.1, .w x1.2.1, .b x1.2.2.1, .w x1.2.2.2.1, .w4 x1.2.2.2.2.1, .b20 x1.2.2.2.2.2.1, .q Y68 ch_0_0 ch_0_1 x1.2.2.2.2.2.2.1, .q yb ch_0_2 ch_0_3 x1.2.2.2.2.2.2.2]] a w → block_Receipt.j1 k x1 y1 = some r → K1 a w := by
  intro m y1 g3 g4 a w S h0
  delta block_Receipt.j1 at h0
  refine hK1 a w ?_
  replace S := S.freeze .h1
  obtain ⟨m, le1, S⟩ := S
  refine wp_seq_k fun K2 hK2 => ?_
  have j2 : ∀ m g7 y2 a w, St 33 m b0 [(2, (.p g7))] [Res.cells g7 23 [.b32 y2]] a w → block_Receipt.j2 y2 = some r → K2 a w := by
   intro m g7 y2 a w S h0
   delta block_Receipt.j2 at h0
   refine hK2 a w (wp_ret ?_)
   obtain rfl := Option.some.inj h0
   exact b_ret1 (d := (.a32 y2)) S rfl (resD_cell rfl .h T23 rfl rfl) (S.rt hb)
  refine c_heldS S (.take 0 (.take 1 (.take 3 (.take 4 (.take 6 (.take 8 (.take 9 (.take 11 (.take 12 (.take 14 (.take 15 (.take 17 (.take 18 (.take 21 (.take 22 (.alts (.run 2 true (.alts (.run 5 true (.alts (.run 7 true (.alts (.run 10 true (.alts (.run 13 true (.alts (.run 16 true (.alts (.run 19 true (.alts (.run 20 true (.alts (.run 23 true (.alts (.run 24 true (.alts (.run 25 true (.alts (.run 26 true (.alts (.run 27 false .done .nil)) .nil)) .nil)) .nil)) .nil)) (.run 23 true (.alts (.run 20 true (.alts (.run 24 true (.alts (.run 25 true (.alts (.run 26 true (.alts (.run 27 false .done .nil)) .nil)) .nil)) .nil)) .nil)) .nil))) .nil)) .nil)) .nil)) .nil)) .nil)) .nil)) .nil))))))))))))))))) 27 [Res.cells g3 23 [.b32 z32], Res.fro g4 39 [.b20 x1.1, .w x1.2.1, .b x1.2.2.1, .w x1.2.2.2.1, .w4 x1.2.2.2.2.1, .b20 x1.2.2.2.2.2.1, .q Y68 ch_0_0 ch_0_1 x1.2.2.2.2.2.2.1, .q yb ch_0_2 ch_0_3 x1.2.2.2.2.2.2.2]] (.c0 (.c0 .n)) ⟨Res.stay_cells, Res.stay_fro, trivial⟩ [(3, (.w y1)), (1, (.p g4))] (subR rfl) (by kernel_rfl) (by kernel_rfl) fun w S CL hw le => ?_
  refine h_fieldAddr S CL hw le (subR rfl) rfl I39_0 T28 (by decide) rfl rfl rfl trivial fun a S CL => h_sliceA S CL hw le (subR rfl) (i := 0) (j := 20) (o' := 0) (len := 20) (cap := 20) rfl underlying28 T5 (.inl ⟨rfl, rfl⟩) (.inl ⟨rfl, rfl⟩) (by decide) rfl rfl rfl rfl rfl trivial fun a S CL => h_fieldAddr S CL hw le (subR rfl) rfl I39_1 T24 (by decide) rfl rfl rfl trivial fun a S CL => h_load1F S CL hw le (subR rfl) rfl .h1 T24 (v := (.int .u64 x1.2.1)) rfl rfl rfl trivial fun a S CL => h_move S CL hw le (subR rfl) rfl rfl rfl trivial fun a S CL => h_fieldAddr S CL hw le (subR rfl) rfl I39_3 T24 (by decide) rfl rfl rfl trivial fun a S CL => h_load1F S CL hw le (subR rfl) rfl .h1 T24 (v := (.int .u64 x1.2.2.2.1)) rfl rfl rfl trivial fun a S CL => h_fieldAddr S CL hw le (subR rfl) rfl I39_4 T26 (by decide) rfl rfl rfl trivial fun a S CL => h_loadaF S CL hw le (subR rfl) rfl .h1 T26 (s' := [.w4 x1.2.2.2.2.1]) rfl rfl rfl trivial fun a S CL => h_fieldAddr S CL hw le (subR rfl) rfl I39_5 T28 (by decide) rfl rfl rfl trivial fun a S CL => h_sliceA S CL hw le (subR rfl) (i := 0) (j := 20) (o' := 27) (len := 20) (cap := 20) rfl underlying28 T5 (.inl ⟨rfl, rfl⟩) (.inl ⟨rfl, rfl⟩) (by decide) rfl rfl rfl rfl rfl trivial fun a S CL => h_fieldAddr S CL hw le (subR rfl) rfl I39_7 T37 (by decide) rfl rfl rfl trivial fun a S CL => h_loadSlF S CL hw le (subR rfl) rfl .h1 T37 (A := ch_0_2) (len := (x1.2.2.2.2.2.2.2).length) (cap := ch_0_3) rfl rfl rfl trivial fun a S CL => h_fieldAddr S CL hw le (subR rfl) rfl I39_6 T36 (by decide) rfl rfl rfl trivial fun a S CL => h_loadSlF S CL hw le (subR rfl) rfl .h1 T36 (A := ch_0_0) (len := (x1.2.2.2.2.2.2.1).length) (cap := ch_0_1) rfl rfl rfl trivial fun a S CL => h_run' S rfl trivial ?_
  replace S := (S.slup' (u := 7) (lo := 0) (c := 20) (ys := ((x1.1).drop 0).take 20) rfl (Pull.mem .h1).1 .h (.inl rfl) (by decide) (by decide) rfl).2
  replace CL := CL.drop (lq' := [(28, (.q Y68 ch_0_0 ch_0_1 x1.2.2.2.2.2.2.1)), (27, (.o g4 47)), (24, (.q yb ch_0_2 ch_0_3 x1.2.2.2.2.2.2.2)), (23, (.o g4 48)), (21, (.s (some ⟨g4, 27, none⟩) 20 20)), (20, (.o g4 27)), (18, (.a4 x1.2.2.2.2.1)), (17, (.o g4 23)), (15, (.w x1.2.2.2.1)), (14, (.o g4 22)), (12, (.w y1)), (10, (.w x1.2.1)), (9, (.o g4 20)), (6, (.p g4)), (3, (.w y1)), (1, (.p g4))]) (subR rfl)
  refine bindX h0 fun t1 et1 h1 => s_callP S _ N23 rfl rfl (block_item.ok (((x1.1).drop 0).take 20) (ad g4) 20 t1 et1 _ _) fun ch1 m le1 a w S => ?_
  replace le := le.trans le1
  replace hw := CL.again hw S (.c0 (.c0 .n)) le
  refine h_back ⟨fun _ => hw, ?_⟩
  refine h_run' S rfl trivial (bindX h1 fun t2 et2 h2 => s_callP S _ N24 rfl rfl (block_count.ok k x1.2.1 t2 et2 _ _) fun ch2 m le1 a w S => ?_)
  replace le := le.trans le1
  replace hw := CL.again hw S (.c0 (.c0 .n)) le
  refine h_back ⟨fun _ => hw, ?_⟩
  refine h_run' S rfl trivial (bindX h2 fun t3 et3 h3 => s_callP S _ N24 rfl rfl (block_count.ok k y1 t3 et3 _ _) fun ch3 m le1 a w S => ?_)
  replace le := le.trans le1
  replace hw := CL.again hw S (.c0 (.c0 .n)) le
  refine h_back ⟨fun _ => hw, ?_⟩
  refine h_run' S rfl trivial (bindX h3 fun t4 et4 h4 => s_callP S _ N24 rfl rfl (block_count.ok k x1.2.2.2.1 t4 et4 _ _) fun ch4 m le1 a w S => ?_)
  replace le := le.trans le1
  replace hw := CL.again hw S (.c0 (.c0 .n)) le
  refine h_back ⟨fun _ => hw, ?_⟩
  refine h_run' S rfl trivial (bindX h4 fun t5 et5 h5 => s_callP S _ N25 rfl rfl (block_number.ok k x1.2.2.2.2.1 t5 et5 _ _) fun ch5 m le1 a w S => ?_)
  replace le := le.trans le1
  replace hw := CL.again hw S (.c0 (.c0 .n)) le
  refine h_back ⟨fun _ => hw, ?_⟩
  refine h_run' S rfl trivial ?_
  replace S := (S.slup' (u := 21) (lo := 0) (c := 20) (ys := ((x1.2.2.2.2.2.1).drop 0).take 20) rfl (Pull.mem .h1).1 (.there (.there (.there (.there (.there .h rfl) rfl) rfl) rfl) rfl) (.inl rfl) (by decide) (by decide) rfl).2
  replace CL := CL.drop (lq' := [(28, (.q Y68 ch_0_0 ch_0_1 x1.2.2.2.2.2.2.1)), (27, (.o g4 47)), (24, (.q yb ch_0_2 ch_0_3 x1.2.2.2.2.2.2.2)), (23, (.o g4 48)), (20, (.o g4 27)), (18, (.a4 x1.2.2.2.2.1)), (17, (.o g4 23)), (15, (.w x1.2.2.2.1)), (14, (.o g4 22)), (12, (.w y1)), (10, (.w x1.2.1)), (9, (.o g4 20)), (6, (.p g4)), (3, (.w y1)), (1, (.p g4))]) (subR rfl)
  refine bindX h5 fun t6 et6 h6 => s_callP S _ N23 rfl rfl (block_item.ok (((x1.2.2.2.2.2.1).drop 0).take 20) (some ⟨g4, 27, none⟩) 20 t6 et6 _ _) fun ch6 m le1 a w S => ?_
  replace le := le.trans le1
  replace hw := CL.again hw S (.c0 (.c0 .n)) le
  refine h_back ⟨fun _ => hw, ?_⟩
  refine h_run' S rfl trivial (bindX h6 fun t7 et7 h7 => s_callP S _ N23 rfl rfl (block_item.ok x1.2.2.2.2.2.2.2 ch_0_2 ch_0_3 t7 et7 _ _) fun ch7 m le1 a w S => ?_)
  replace le := le.trans le1
  replace hw := CL.again hw S (.c0 (.c0 .n)) le
  refine h_back ⟨fun _ => hw, ?_⟩
  refine bindX h7 fun t8 et8 h8 => bindX h8 fun t9 et9 h9 => bindX h9 fun t10 et10 h10 => h_alts ?_
  refine h_runO S rfl trivial ?_ ?_
  ·refine s_bldSl S (ty' := Y54) (ds := [(0, (.agg [.b t1.1, .q yb ch1.1 ch1.2 t1.2.1, .i t1.2.2])), (1, (.agg [.b t2.1, .q yb ch2.1 ch2.2 t2.2.1, .i t2.2.2])), (2, (.agg [.b t3.1, .q yb ch3.1 ch3.2 t3.2.1, .i t3.2.2])), (3, (.agg [.b t4.1, .q yb ch4.1 ch4.2 t4.2.1, .i t4.2.2])), (4, (.agg [.b t5.1, .q yb ch5.1 ch5.2 t5.2.1, .i t5.2.2])), (5, (.agg [.b t6.1, .q yb ch6.1 ch6.2 t6.2.1, .i t6.2.2])), (6, (.agg [.b t7.1, .q yb ch7.1 ch7.2 t7.2.1, .i t7.2.2]))]) (z := (false, ([] : List Int), 0)) (c0 := ((), (none, 0), ())) (ys := [(t1.1, t1.2.1, t1.2.2), (t2.1, t2.2.1, t2.2.2), (t3.1, t3.2.1, t3.2.2), (t4.1, t4.2.1, t4.2.2), (t5.1, t5.2.1, t5.2.2), (t6.1, t6.2.1, t6.2.2), (t7.1, t7.2.1, t7.2.2)]) (cs := [((), (ch1.1, ch1.2), ()), ((), (ch2.1, ch2.2), ()), ((), (ch3.1, ch3.2), ()), ((), (ch4.1, ch4.2), ()), ((), (ch5.1, ch5.2), ()), ((), (ch6.1, ch6.2), ()), ((), (ch7.1, ch7.2), ())]) rfl underlying51 J54 Z54 rfl ⟨rfl, ⟨Nat.le_refl _, Nat.zero_le _, RdS.nil _ _ _, RdS.mono _ _ _⟩, rfl, trivial⟩ rfl rfl rfl rfl rfl rfl fun g8 a w S => ?_
   replace hw := CL.again hw S (.c1 (.c1 .n)) le
   refine h_back ⟨fun _ => hw, ?_⟩
   refine h_run' S rfl trivial (s_callR S (fun (ch : (Option Addr) × Nat × Nat) => ((.s ch.1 ch.2.1 ch.2.2) : D)) (fun (ch : (Option Addr) × Nat × Nat) => Res.row Y54 54 ch.1 ch.2.1 ch.2.2 t8) N35 rfl rfl (block_logs.ok k x1.2.2.2.2.2.2.1 ch_0_0 ch_0_1 t8 et8 _ _) fun ch8 m le1 a w S => ?_)
   replace le := le.trans le1
   replace hw := CL.again hw S (.c2 (.c2 .n)) le
   refine h_back ⟨fun _ => hw, ?_⟩
   refine h_run' S rfl trivial ?_
   replace S := S.rowfro .h1
   obtain ⟨m, le1, S, hro⟩ := S
   replace le := le.trans le1
   replace S := S.slotro (u := 26) rfl hro
   replace S := S.rowfro .h
   obtain ⟨m, le1, S, hro⟩ := S
   replace le := le.trans le1
   replace S := S.slotro (u := 29) rfl hro
   refine s_bldSl S (ty' := (Ty.slice Y54)) (ds := [(0, (.q Y54 (ad g8) 7 [(t1.1, t1.2.1, t1.2.2), (t2.1, t2.2.1, t2.2.2), (t3.1, t3.2.1, t3.2.2), (t4.1, t4.2.1, t4.2.2), (t5.1, t5.2.1, t5.2.2), (t6.1, t6.2.1, t6.2.2), (t7.1, t7.2.1, t7.2.2)])), (1, (.q Y54 ch8.1 ch8.2.2 t8))]) (z := ([] : List (Bool × (List Int) × Int))) (c0 := (none, 0)) (ys := [[(t1.1, t1.2.1, t1.2.2), (t2.1, t2.2.1, t2.2.2), (t3.1, t3.2.1, t3.2.2), (t4.1, t4.2.1, t4.2.2), (t5.1, t5.2.1, t5.2.2), (t6.1, t6.2.1, t6.2.2), (t7.1, t7.2.1, t7.2.2)], t8]) (cs := [((ad g8), 7), (ch8.1, ch8.2.2)]) rfl underlying76 J51 Z51 rfl ⟨⟨Nat.le_refl _, Nat.zero_le _, RdS.nil _ _ _, RdS.mono _ _ _⟩, trivial⟩ rfl rfl rfl rfl rfl rfl fun g9 a w S => ?_
   replace hw := CL.again hw S (.c1 (.c1 .n)) le
   refine h_back ⟨fun _ => hw, ?_⟩
   refine h_run' S rfl trivial ?_
   replace S := S.rowfro .h
   obtain ⟨m, le1, S, hro⟩ := S
   replace le := le.trans le1
   replace S := S.slotro (u := 30) rfl hro
   refine s_callR S (fun (ch : (Option Addr) × Nat × Nat) => ((.s ch.1 ch.2.1 ch.2.2) : D)) (fun (ch : (Option Addr) × Nat × Nat) => Res.row Y54 54 ch.1 ch.2.1 ch.2.2 t9) N22 rfl rfl (block_list.ok k [[(t1.1, t1.2.1, t1.2.2), (t2.1, t2.2.1, t2.2.2), (t3.1, t3.2.1, t3.2.2), (t4.1, t4.2.1, t4.2.2), (t5.1, t5.2.1, t5.2.2), (t6.1, t6.2.1, t6.2.2), (t7.1, t7.2.1, t7.2.2)], t8] (ad g9) 2 t9 et9 _ _) fun ch9 m le1 a w S => ?_
   replace le := le.trans le1
   replace hw := CL.again hw S (.c1 (.c1 .n)) le
   refine h_back ⟨fun _ => hw, ?_⟩
   refine h_run' S rfl trivial ?_
   replace S := S.rowfro .h
   obtain ⟨m, le1, S, hro⟩ := S
   replace le := le.trans le1
   replace S := S.slotro (u := 31) rfl hro
   refine s_callP S _ N21 rfl rfl (block_hash.ok k t9 ch9.1 ch9.2.2 t10 et10 _ _ (G.mono (S.leB hb))) fun ch10 m le1 a w S => ?_
   replace le := le.trans le1
   replace hw := CL.again hw S (.c0 (.c0 .n)) le
   refine h_back ⟨fun _ => hw, ?_⟩
   refine h_run' S rfl trivial (s_store S rfl rfl rfl (s' := [.b32 t10]) .h T23 rfl rfl fun w S => ?_)
   refine h_back ⟨fun h => (nomatch h), ?_⟩
   refine h_done ?_; clear CL hw le
   refine x_thenN ?_
   exact j2 _ g3 t10 a w (S.sub ⟨rfl, trivial⟩ (.c0 .n)) h10
  refine h_runO S rfl trivial ?_ ?_
  ·refine s_callR S (fun (ch : (Option Addr) × Nat × Nat) => ((.s ch.1 ch.2.1 ch.2.2) : D)) (fun (ch : (Option Addr) × Nat × Nat) => Res.row Y54 54 ch.1 ch.2.1 ch.2.2 t8) N35 rfl rfl (block_logs.ok k x1.2.2.2.2.2.2.1 ch_0_0 ch_0_1 t8 et8 _ _) fun ch8 m le1 a w S => ?_
   replace le := le.trans le1
   replace hw := CL.again hw S (.c1 (.c1 .n)) le
   refine h_back ⟨fun _ => hw, ?_⟩
   refine h_run' S rfl trivial (s_bldSl S (ty' := Y54) (ds := [(0, (.agg [.b t1.1, .q yb ch1.1 ch1.2 t1.2.1, .i t1.2.2])), (1, (.agg [.b t2.1, .q yb ch2.1 ch2.2 t2.2.1, .i t2.2.2])), (2, (.agg [.b t3.1, .q yb ch3.1 ch3.2 t3.2.1, .i t3.2.2])), (3, (.agg [.b t4.1, .q yb ch4.1 ch4.2 t4.2.1, .i t4.2.2])), (4, (.agg [.b t5.1, .q yb ch5.1 ch5.2 t5.2.1, .i t5.2.2])), (5, (.agg [.b t6.1, .q yb ch6.1 ch6.2 t6.2.1, .i t6.2.2])), (6, (.agg [.b t7.1, .q yb ch7.1 ch7.2 t7.2.1, .i t7.2.2]))]) (z := (false, ([] : List Int), 0)) (c0 := ((), (none, 0), ())) (ys := [(t1.1, t1.2.1, t1.2.2), (t2.1, t2.2.1, t2.2.2), (t3.1, t3.2.1, t3.2.2), (t4.1, t4.2.1, t4.2.2), (t5.1, t5.2.1, t5.2.2), (t6.1, t6.2.1, t6.2.2), (t7.1, t7.2.1, t7.2.2)]) (cs := [((), (ch1.1, ch1.2), ()), ((), (ch2.1, ch2.2), ()), ((), (ch3.1, ch3.2), ()), ((), (ch4.1, ch4.2), ()), ((), (ch5.1, ch5.2), ()), ((), (ch6.1, ch6.2), ()), ((), (ch7.1, ch7.2), ())]) rfl underlying51 J54 Z54 rfl ⟨rfl, ⟨Nat.le_refl _, Nat.zero_le _, RdS.nil _ _ _, RdS.mono _ _ _⟩, rfl, trivial⟩ rfl rfl rfl rfl rfl rfl fun g8 a w S => ?_)
   replace hw := CL.again hw S (.c2 (.c2 .n)) le
   refine h_back ⟨fun _ => hw, ?_⟩
   refine h_run' S rfl trivial ?_
   replace S := S.rowfro .h
   obtain ⟨m, le1, S, hro⟩ := S
   replace le := le.trans le1
   replace S := S.slotro (u := 26) rfl hro
   replace S := S.rowfro .h
   obtain ⟨m, le1, S, hro⟩ := S
   replace le := le.trans le1
   replace S := S.slotro (u := 29) rfl hro
   refine s_bldSl S (ty' := (Ty.slice Y54)) (ds := [(0, (.q Y54 (ad g8) 7 [(t1.1, t1.2.1, t1.2.2), (t2.1, t2.2.1, t2.2.2), (t3.1, t3.2.1, t3.2.2), (t4.1, t4.2.1, t4.2.2), (t5.1, t5.2.1, t5.2.2), (t6.1, t6.2.1, t6.2.2), (t7.1, t7.2.1, t7.2.2)])), (1, (.q Y54 ch8.1 ch8.2.2 t8))]) (z := ([] : List (Bool × (List Int) × Int))) (c0 := (none, 0)) (ys := [[(t1.1, t1.2.1, t1.2.2), (t2.1, t2.2.1, t2.2.2), (t3.1, t3.2.1, t3.2.2), (t4.1, t4.2.1, t4.2.2), (t5.1, t5.2.1, t5.2.2), (t6.1, t6.2.1, t6.2.2), (t7.1, t7.2.1, t7.2.2)], t8]) (cs := [((ad g8), 7), (ch8.1, ch8.2.2)]) rfl underlying76 J51 Z51 rfl ⟨⟨Nat.le_refl _, Nat.zero_le _, RdS.nil _ _ _, RdS.mono _ _ _⟩, trivial⟩ rfl rfl rfl rfl rfl rfl fun g9 a w S => ?_
   replace hw := CL.again hw S (.c1 (.c1 .n)) le
   refine h_back ⟨fun _ => hw, ?_⟩
   refine h_run' S rfl trivial ?_
   replace S := S.rowfro .h
   obtain ⟨m, le1, S, hro⟩ := S
   replace le := le.trans le1
   replace S := S.slotro (u := 30) rfl hro
   refine s_callR S (fun (ch : (Option Addr) × Nat × Nat) => ((.s ch.1 ch.2.1 ch.2.2) : D)) (fun (ch : (Option Addr) × Nat × Nat) => Res.row Y54 54 ch.1 ch.2.1 ch.2.2 t9) N22 rfl rfl (block_list.ok k [[(t1.1, t1.2.1, t1.2.2), (t2.1, t2.2.1, t2.2.2), (t3.1, t3.2.1, t3.2.2), (t4.1, t4.2.1, t4.2.2), (t5.1, t5.2.1, t5.2.2), (t6.1, t6.2.1, t6.2.2), (t7.1, t7.2.1, t7.2.2)], t8] (ad g9) 2 t9 et9 _ _) fun ch9 m le1 a w S => ?_
   replace le := le.trans le1
   replace hw := CL.again hw S (.c1 (.c1 .n)) le
   refine h_back ⟨fun _ => hw, ?_⟩
   refine h_run' S rfl trivial ?_
   replace S := S.rowfro .h
   obtain ⟨m, le1, S, hro⟩ := S
   replace le := le.trans le1
   replace S := S.slotro (u := 31) rfl hro
   refine s_callP S _ N21 rfl rfl (block_hash.ok k t9 ch9.1 ch9.2.2 t10 et10 _ _ (G.mono (S.leB hb))) fun ch10 m le1 a w S => ?_
   replace le := le.trans le1
   replace hw := CL.again hw S (.c0 (.c0 .n)) le
   refine h_back ⟨fun _ => hw, ?_⟩
   refine h_run' S rfl trivial (s_store S rfl rfl rfl (s' := [.b32 t10]) .h T23 rfl rfl fun w S => ?_)
   refine h_back ⟨fun h => (nomatch h), ?_⟩
   refine h_done ?_; clear CL hw le
   refine x_thenN ?_
   exact j2 _ g3 t10 a w (S.sub ⟨rfl, trivial⟩ (.c0 .n)) h10
  exact h_nil
 refine c_region (s_fieldAddr S rfl I39_2 T4 (by decide) rfl rfl fun a S => s_load1 S rfl .h1 T4 (v := (.bool x1.2.2.1)) rfl rfl fun a S => c_end ?_)
 rcases ite_of h0 with ⟨c1, h1⟩ | ⟨c1, h1⟩
 ·refine c_condT S rfl c1 (c_region' (s_assign S rfl rfl fun a S => c_end' (x_thenN ?_)))
  exact j1 _ 1 g2 g1 a w (S.sb rfl (.c0 (.c0 .n))) h1
 ·refine c_condF S rfl c1 (wp_skip (x_thenN ?_))
  exact j1 _ 0 g2 g1 a w (S.sb rfl (.c0 (.c0 .n))) h1
abbrev block_Seal.Ty : Type := L30 → (List L39) → (List (List Int)) → Option L30
def block_Seal.Ctr (s : block_Seal.Ty) : Prop := ∀ (x1 : L30) (x2 : List L39) (x3 : List (List Int)) (ch_1_0 : Option Addr) (ch_1_1 : Nat) (ch_2_0 : Option Addr) (ch_2_1 : Nat) (r : L30), CtG (C := Unit) Tryd.prog Glob 19 (s x1 x2 x3 = some r) [] [(.agg [.b32 x1.1, .w x1.2.1, .w x1.2.2.1, .w x1.2.2.2.1, .w x1.2.2.2.2.1, .w4 x1.2.2.2.2.2.1, .b20 x1.2.2.2.2.2.2.1, .w4 x1.2.2.2.2.2.2.2.1, .b32 x1.2.2.2.2.2.2.2.2.1, .b32 x1.2.2.2.2.2.2.2.2.2]), (.q Y39 ch_1_0 ch_1_1 x2), (.q (Ty.arr .u8 32) ch_2_0 ch_2_1 x3)] (fun _ => (.agg [.b32 r.1, .w r.2.1, .w r.2.2.1, .w r.2.2.2.1, .w r.2.2.2.2.1, .w4 r.2.2.2.2.2.1, .b20 r.2.2.2.2.2.2.1, .w4 r.2.2.2.2.2.2.2.1, .b32 r.2.2.2.2.2.2.2.2.1, .b32 r.2.2.2.2.2.2.2.2.2])) fun _ => []
def block_Seal.j1 (k : Nat) (x1 : L30) (x3 : List (List Int)) (y1 : List (List Int)) (y2 : Int) : Option L30 := (block_Root.f k x3).bind fun t1 => ((block_Root.f k y1).bind fun t2 => (some (x1.1, x1.2.1, x1.2.2.1, x1.2.2.2.1, y2, x1.2.2.2.2.2.1, x1.2.2.2.2.2.2.1, x1.2.2.2.2.2.2.2.1, t1, t2)))
def block_Seal.b1 (k : Nat) (x1 : L30) (x2 : List L39) (x3 : List (List Int)) (rec1 : (List (List Int)) → Int → Int → Option L30) (y6 : List (List Int)) (y7 : Int) (y8 : Int) : Option L30 := if (decide (y7 < ((x2).length : Int))) = true then (if (0 : Int) ≤ y7 ∧ y7 < ((x2).length : Int) then ((block_Receipt.f k ((gt x2 y7).1, (gt x2 y7).2.1, (gt x2 y7).2.2.1, (gt x2 y7).2.2.2.1, (gt x2 y7).2.2.2.2.1, (gt x2 y7).2.2.2.2.2.1, (gt x2 y7).2.2.2.2.2.2.1, (gt x2 y7).2.2.2.2.2.2.2)).bind fun t5 => (if ((y6).length + ([t5]).length) * 32 ≤ 140737488355328 then (rec1 (y6 ++ [t5]) (wr .i64 (y7 + 1)) (wr .u64 (y8 + ((gt x2 y7).2.2.2.1)))) else none)) else none) else (block_Seal.j1 k x1 x3 y6 y8)
def block_Seal.l1 (k : Nat) (x1 : L30) (x2 : List L39) (x3 : List (List Int)) : Nat → (List (List Int)) → Int → Int → Option L30
  | 0, _, _, _ => none
  | q + 1, y6, y7, y8 => block_Seal.b1 k x1 x2 x3 (block_Seal.l1 k x1 x2 x3 q) y6 y7 y8
def block_Seal.f (k : Nat) (x1 : L30) (x2 : List L39) (x3 : List (List Int)) : Option L30 := block_Seal.l1 k x1 x2 x3 k ([] : List (List Int)) 0 0
theorem block_Seal.ok (k : Nat) : block_Seal.Ctr (block_Seal.f k) := by
 intro x1 x2 x3 ch_1_0 ch_1_1 ch_2_0 ch_2_1 r h0 mi w0 G ok hm
 delta block_Seal.f at h0
 refine c_enterZ (n := 36) ok hm func19 rfl rfl rfl fun b0 hb a S => c_region (s_box S rfl rfl rfl fun g1 a w S => s_alloc S Z30 rfl ⟨rfl, rfl, rfl, rfl, rfl, rfl, rfl, rfl, rfl, rfl, trivial⟩ rfl fun g2 a w S => c_end (c_region (s_assign S rfl rfl fun a S => c_end (c_region (s_fieldAddr S rfl I30_4 T24 (by decide) rfl rfl fun a S => s_store S rfl rfl rfl (s' := [.b32 x1.1, .w x1.2.1, .w x1.2.2.1, .w x1.2.2.2.1, .w 0, .w4 x1.2.2.2.2.2.1, .b20 x1.2.2.2.2.2.2.1, .w4 x1.2.2.2.2.2.2.2.1, .b32 x1.2.2.2.2.2.2.2.2.1, .b32 x1.2.2.2.2.2.2.2.2.2]) .h1 T24 rfl rfl fun w S => c_end (wp_seq_k fun K1 hK1 => ?_))))))
 have j1 : ∀ m A1 nn1 cp1 y1 g13 g14 y2 a w, St 36 m b0 [(7, (.s A1 nn1 cp1)), (6, (.p g13)), (3, (.p g14)), (2, (.q (Ty.arr .u8 32) ch_2_0 ch_2_1 x3))] [Res.row (Ty.arr .u8 32) 23 A1 nn1 cp1 y1, Res.cells g13 30 [.b32 z32, .w 0, .w 0, .w 0, .w 0, .w4 [0, 0, 0, 0], .b20 z20, .w4 [0, 0, 0, 0], .b32 z32, .b32 z32], Res.cells g14 30 [.b32 x1.1, .w x1.2.1, .w x1.2.2.1, .w x1.2.2.2.1, .w y2, .w4 x1.2.2.2.2.2.1, .b20 x1.2.2.2.2.2.2.1, .w4 x1.2.2.2.2.2.2.2.1, .b32 x1.2.2.2.2.2.2.2.2.1, .b32 x1.2.2.2.2.2.2.2.2.2]] a w → block_Seal.j1 k x1 x3 y1 y2 = some r → K1 a w := by
  intro m A1 nn1 cp1 y1 g13 g14 y2 a w S h0
  delta block_Seal.j1 at h0
  refine hK1 a w (c_region (s_move S rfl rfl fun a S => bindX h0 fun t1 et1 h1 => s_callP S _ N9 rfl rfl (block_Root.ok k x3 ch_2_0 ch_2_1 t1 et1 _ _ (G.mono (S.leB hb))) fun ch1 m le1 a w S => s_move S rfl rfl fun a S => ?_))
  replace S := S.rowfro .h
  obtain ⟨m, le1, S, hro⟩ := S
  replace S := S.slotro (u := 31) rfl hro
  replace S := S.slotro (u := 7) rfl hro
  refine bindX h1 fun t2 et2 h2 => s_callP S _ N9 rfl rfl (block_Root.ok k y1 A1 cp1 t2 et2 _ _ (G.mono (S.leB hb))) fun ch2 m le1 a w S => s_fieldAddr S rfl I30_8 T23 (by decide) rfl rfl fun a S => s_store S rfl rfl rfl (s' := [.b32 x1.1, .w x1.2.1, .w x1.2.2.1, .w x1.2.2.2.1, .w y2, .w4 x1.2.2.2.2.2.1, .b20 x1.2.2.2.2.2.2.1, .w4 x1.2.2.2.2.2.2.2.1, .b32 t1, .b32 x1.2.2.2.2.2.2.2.2.2]) .h1 T23 rfl rfl fun w S => s_fieldAddr S rfl I30_9 T23 (by decide) rfl rfl fun a S => s_store S rfl rfl rfl (s' := [.b32 x1.1, .w x1.2.1, .w x1.2.2.1, .w x1.2.2.2.1, .w y2, .w4 x1.2.2.2.2.2.1, .b20 x1.2.2.2.2.2.2.1, .w4 x1.2.2.2.2.2.2.2.1, .b32 t1, .b32 t2]) .h1 T23 rfl rfl fun w S => c_end (c_region (s_loada S rfl .h1 T30 (s' := [.b32 x1.1, .w x1.2.1, .w x1.2.2.1, .w x1.2.2.2.1, .w y2, .w4 x1.2.2.2.2.2.1, .b20 x1.2.2.2.2.2.2.1, .w4 x1.2.2.2.2.2.2.2.1, .b32 t1, .b32 t2]) rfl rfl fun a S => s_store S rfl rfl rfl (s' := [.b32 x1.1, .w x1.2.1, .w x1.2.2.1, .w x1.2.2.2.1, .w y2, .w4 x1.2.2.2.2.2.1, .b20 x1.2.2.2.2.2.2.1, .w4 x1.2.2.2.2.2.2.2.1, .b32 t1, .b32 t2]) .h T30 rfl rfl fun w S => c_end (wp_ret ?_)))
  obtain rfl := Option.some.inj h2
  exact b_ret1 (d := (.agg [.b32 x1.1, .w x1.2.1, .w x1.2.2.1, .w x1.2.2.2.1, .w y2, .w4 x1.2.2.2.2.2.1, .b20 x1.2.2.2.2.2.2.1, .w4 x1.2.2.2.2.2.2.2.1, .b32 t1, .b32 t2])) S rfl (resD_cell rfl .h T30 rfl rfl) (S.rt hb)
 refine c_region (s_move S rfl rfl fun a S => s_lenS S rfl underlying42 rfl fun a S => s_move S rfl rfl fun a S => c_end (wp_block ?_))
 replace S := S.nilrow (Ty.arr .u8 32) 23
 refine c_loop (fun q1 a w => ∃ m A2 nn3 cp5 y6 y7 g23 g24 y8, St 36 m b0 [(7, (.s A2 nn3 cp5)), (13, (.i y7)), (12, (.i ((x2).length : Int))), (11, (.q Y39 ch_1_0 ch_1_1 x2)), (6, (.p g23)), (3, (.p g24)), (2, (.q (Ty.arr .u8 32) ch_2_0 ch_2_1 x3))] [Res.row (Ty.arr .u8 32) 23 A2 nn3 cp5 y6, Res.cells g23 30 [.b32 z32, .w 0, .w 0, .w 0, .w 0, .w4 [0, 0, 0, 0], .b20 z20, .w4 [0, 0, 0, 0], .b32 z32, .b32 z32], Res.cells g24 30 [.b32 x1.1, .w x1.2.1, .w x1.2.2.1, .w x1.2.2.2.1, .w y8, .w4 x1.2.2.2.2.2.1, .b20 x1.2.2.2.2.2.2.1, .w4 x1.2.2.2.2.2.2.2.1, .b32 x1.2.2.2.2.2.2.2.2.1, .b32 x1.2.2.2.2.2.2.2.2.2]] a w ∧ block_Seal.l1 k x1 x2 x3 q1 y6 y7 y8 = some r) ?_ ?_ (k := k) ⟨_, none, 0, 0, ([] : List (List Int)), 0, g2, g1, 0, (S.sb rfl (.c0 (.c0 (.c0 .n)))), h0⟩
 ·rintro a w ⟨m, A2, nn3, cp5, y6, y7, g23, g24, y8, S, h0⟩
  exact (nomatch (show (none : Option L30) = some r from h0))
 ·clear S h0
  rintro q1 a w ⟨m, A2, nn3, cp5, y6, y7, g23, g24, y8, S, h0⟩
  replace h0 : block_Seal.b1 k x1 x2 x3 (block_Seal.l1 k x1 x2 x3 q1) y6 y7 y8 = some r := h0
  delta block_Seal.b1 at h0
  refine c_region (s_bin S rfl rfl rfl rfl fun a S => c_end (wp_seq ?_))
  rcases ite_of h0 with ⟨c1, h1⟩ | ⟨c1, h1⟩
  ·refine c_condT S rfl c1 (wp_skip (x_thenN (wp_seq (wp_block (c_region ?_)))))
   obtain ⟨c2, h2⟩ := chk_of h1; clear h1
   refine s_iaddrS S rfl rfl rfl underlying42 T39 c2.1 c2.2 rfl fun p1 a S => s_ldA S (fun (c : Unit × Unit × Unit × Unit × Unit × Unit × (Option Addr × Nat) × (Option Addr × Nat)) => [.b20 ((gt x2 y7).1), .w ((gt x2 y7).2.1), .b ((gt x2 y7).2.2.1), .w ((gt x2 y7).2.2.2.1), .w4 ((gt x2 y7).2.2.2.2.1), .b20 ((gt x2 y7).2.2.2.2.2.1), .q Y68 c.2.2.2.2.2.2.1.1 c.2.2.2.2.2.2.1.2 ((gt x2 y7).2.2.2.2.2.2.1), .q yb c.2.2.2.2.2.2.2.1 c.2.2.2.2.2.2.2.2 ((gt x2 y7).2.2.2.2.2.2.2)]) rfl T39 (fun _ => rfl) rfl fun ch5 a S => s_alloc S Z39 rfl ⟨rfl, rfl, rfl, rfl, rfl, rfl, rfl, rfl, trivial⟩ rfl fun g25 a w S => s_store S rfl rfl rfl (s' := [.b20 ((gt x2 y7).1), .w ((gt x2 y7).2.1), .b ((gt x2 y7).2.2.1), .w ((gt x2 y7).2.2.2.1), .w4 ((gt x2 y7).2.2.2.2.1), .b20 ((gt x2 y7).2.2.2.2.2.1), .q Y68 ch5.2.2.2.2.2.2.1.1 ch5.2.2.2.2.2.2.1.2 ((gt x2 y7).2.2.2.2.2.2.1), .q yb ch5.2.2.2.2.2.2.2.1 ch5.2.2.2.2.2.2.2.2 ((gt x2 y7).2.2.2.2.2.2.2)]) .h T39 rfl rfl fun w S => c_end (c_region (s_fieldAddr S rfl I30_4 T24 (by decide) rfl rfl fun a S => s_load1 S rfl .h3 T24 (v := (.int .u64 y8)) rfl rfl fun a S => s_fieldAddr S rfl I39_3 T24 (by decide) rfl rfl fun a S => s_load1 S rfl .h T24 (v := (.int .u64 ((gt x2 y7).2.2.2.1))) rfl rfl fun a S => s_bin S rfl rfl rfl rfl fun a S => s_fieldAddr S rfl I30_4 T24 (by decide) rfl rfl fun a S => s_store S rfl rfl rfl (s' := [.b32 x1.1, .w x1.2.1, .w x1.2.2.1, .w x1.2.2.2.1, .w (wr .u64 (y8 + ((gt x2 y7).2.2.2.1))), .w4 x1.2.2.2.2.2.1, .b20 x1.2.2.2.2.2.2.1, .w4 x1.2.2.2.2.2.2.2.1, .b32 x1.2.2.2.2.2.2.2.2.1, .b32 x1.2.2.2.2.2.2.2.2.2]) .h3 T24 rfl rfl fun w S => c_end (c_region' (s_move S rfl rfl fun a S => s_loada S rfl .h T39 (s' := [.b20 ((gt x2 y7).1), .w ((gt x2 y7).2.1), .b ((gt x2 y7).2.2.1), .w ((gt x2 y7).2.2.2.1), .w4 ((gt x2 y7).2.2.2.2.1), .b20 ((gt x2 y7).2.2.2.2.2.1), .q Y68 ch5.2.2.2.2.2.2.1.1 ch5.2.2.2.2.2.2.1.2 ((gt x2 y7).2.2.2.2.2.2.1), .q yb ch5.2.2.2.2.2.2.2.1 ch5.2.2.2.2.2.2.2.2 ((gt x2 y7).2.2.2.2.2.2.2)]) rfl rfl fun a S => bindX h2 fun t5 et5 h3 => s_callP S _ N13 rfl rfl (block_Receipt.ok k ((gt x2 y7).1, (gt x2 y7).2.1, (gt x2 y7).2.2.1, (gt x2 y7).2.2.2.1, (gt x2 y7).2.2.2.2.1, (gt x2 y7).2.2.2.2.2.1, (gt x2 y7).2.2.2.2.2.2.1, (gt x2 y7).2.2.2.2.2.2.2) ch5.2.2.2.2.2.2.1.1 ch5.2.2.2.2.2.2.1.2 ch5.2.2.2.2.2.2.2.1 ch5.2.2.2.2.2.2.2.2 t5 et5 _ _ (G.mono (S.leB hb))) fun ch6 m le1 a w S => s_bldSl S (ty' := (Ty.arr .u8 32)) (ds := [(0, (.a32 t5))]) (z := z32) (c0 := ()) (ys := [t5]) (cs := [()]) rfl underlying31 J23 Z23 rfl ⟨rfl, trivial⟩ rfl rfl rfl rfl rfl rfl fun g26 a w S => ?_))))
   obtain ⟨c3, h4⟩ := chk_of h3; clear h3
   refine s_app S (k2 := 1) (ys := [t5]) rfl (fun _ _ => .h2) rfl rfl (S.holds _ (Pull.mem .h).1).1 (Res.row.src (S.holds _ (Pull.mem .h).1)) underlying31 J23 c3 rfl fun A3 cp6 a w S => s_assign S rfl rfl fun a S => c_end' (x_blockN (x_thenN (c_region' (s_bin S rfl rfl rfl rfl fun a S => s_move S rfl rfl fun a S => c_end' (x_thenN ?_)))))
   exact ⟨_, A3, (nn3 + 1), cp6, (y6 ++ [t5]), (wr .i64 (y7 + 1)), g23, g24, (wr .u64 (y8 + ((gt x2 y7).2.2.2.1))), (S.sb rfl (.c2 (.c2 (.c2 .n)))), h4⟩
  ·refine c_condF S rfl c1 (wp_exit (x_thenX (x_thenX (x_blockX (x_thenN ?_)))))
   exact j1 _ A2 nn3 cp5 y6 g23 g24 y8 a w (S.sb rfl (.c0 (.c0 (.c0 .n)))) h1
end GW
