import Derived.Test.YtmidfllhoogifaaProg
import Derived.Test.YtmidfllhoogifaaGG
set_option linter.unusedVariables false
set_option linter.unusedSimpArgs false
set_option maxRecDepth 10000
set_option maxHeartbeats 4000000
namespace GW
open Go Go.RowKit Go.Proofs Go.Proofs.Try
noncomputable section
abbrev smithyref01_Of.Ty : Type := (List Int) → Option ((List Int))
def smithyref01_Of.Ctr (s : smithyref01_Of.Ty) : Prop := ∀ (x1 : List Int) (r : (List Int)), Ct (C := Unit) Try.prog 42 (s x1 = some r) [] [(.a4 x1)] (fun _ => (.agg [.ints .i64 r 32])) fun _ => []
def smithyref01_Of.j1 (y1 : List Int) : Option ((List Int)) := some y1
def smithyref01_Of.b1 (x1 : List Int) (rec1 : Int → (List Int) → Option ((List Int))) (y4 : Int) (y5 : List Int) : Option ((List Int)) := if (decide (y4 < 32)) = true then (if (0 : Int) ≤ (wr .i64 (Int.tdiv y4 8)) ∧ (wr .i64 (Int.tdiv y4 8)) < 4 then (if (0 : Int) ≤ (wr .i64 (8 * (Int.tmod y4 8))) then (if (0 : Int) ≤ y4 ∧ y4 < 32 then (rec1 (wr .i64 (y4 + 1)) (y5.set (Int.toNat y4) (wr .i64 (Int.tmod (shr (rd x1 (wr .i64 (Int.tdiv y4 8))) (min (Int.toNat (wr .i64 (8 * (Int.tmod y4 8)))) 64)) 256)))) else none) else none) else none) else (smithyref01_Of.j1 y5)
def smithyref01_Of.l1 (x1 : List Int) : Nat → Int → (List Int) → Option ((List Int))
  | 0, _, _ => none
  | q + 1, y4, y5 => smithyref01_Of.b1 x1 (smithyref01_Of.l1 x1 q) y4 y5
def smithyref01_Of.f (k : Nat) (x1 : List Int) : Option ((List Int)) := smithyref01_Of.l1 x1 k 0 [0, 0, 0, 0, 0, 0, 0, 0, 0, 0, 0, 0, 0, 0, 0, 0, 0, 0, 0, 0, 0, 0, 0, 0, 0, 0, 0, 0, 0, 0, 0, 0]
theorem smithyref01_Of.ok (k : Nat) : smithyref01_Of.Ctr (smithyref01_Of.f k) := by
 intro x1 r h0 mi w0 ok hm
 delta smithyref01_Of.f at h0
 refine c_enterZ (n := 23) ok hm func42 rfl rfl rfl fun b0 hb a S => c_region (s_box S rfl rfl rfl fun g1 a w S => s_alloc S Z87 rfl ⟨rfl, trivial⟩ rfl fun g2 a w S => c_end (c_region (s_build S (ds := []) (dv := (.agg [.ints .i64 z32 32])) rfl (fun _ => by kernel_rfl) ⟨rfl, trivial⟩ rfl fun a S => s_alloc S Z87 rfl ⟨rfl, trivial⟩ rfl fun g3 a w S => s_store S rfl rfl rfl (s' := [.ints .i64 z32 32]) .h T87 rfl rfl fun w S => c_end (wp_seq_k fun K1 hK1 => ?_))))
 have j1 : ∀ m g13 g14 y1 a w, St 23 m b0 [(3, (.p g13)), (2, (.p g14))] [Res.cells g13 87 [.ints .i64 y1 32], Res.cells g14 87 [.ints .i64 z32 32]] a w → smithyref01_Of.j1 y1 = some r → K1 a w := by
  intro m g13 g14 y1 a w S h0
  delta smithyref01_Of.j1 at h0
  refine hK1 a w (c_region (s_loada S rfl .h T87 (s' := [.ints .i64 y1 32]) rfl rfl fun a S => s_store S rfl rfl rfl (s' := [.ints .i64 y1 32]) .h1 T87 rfl rfl fun w S => c_end (wp_ret ?_)))
  obtain rfl := Option.some.inj h0
  exact b_ret1 (d := (.agg [.ints .i64 y1 32])) S rfl (resD_cell rfl .h1 T87 rfl rfl) (S.rt hb)
 refine c_region (s_assign S rfl rfl fun a S => c_end (wp_block ?_))
 refine c_loop (fun q1 a w => ∃ m y4 g21 g22 g23 y5, St 23 m b0 [(4, (.i y4)), (3, (.p g21)), (2, (.p g22)), (1, (.p g23))] [Res.cells g21 87 [.ints .i64 y5 32], Res.cells g22 87 [.ints .i64 z32 32], Res.cells g23 26 [.w4 x1]] a w ∧ smithyref01_Of.l1 x1 q1 y4 y5 = some r) ?_ ?_ (k := k) ⟨_, 0, g3, g2, g1, z32, (S.sb rfl (.c0 (.c0 (.c0 .n)))), h0⟩
 ·rintro a w ⟨m, y4, g21, g22, g23, y5, S, h0⟩
  exact (nomatch (show (none : Option ((List Int))) = some r from h0))
 ·clear S h0
  rintro q1 a w ⟨m, y4, g21, g22, g23, y5, S, h0⟩
  replace h0 : smithyref01_Of.b1 x1 (smithyref01_Of.l1 x1 q1) y4 y5 = some r := h0
  delta smithyref01_Of.b1 at h0
  refine wp_seq (c_region (s_move S rfl rfl fun a S => s_bin S rfl rfl rfl rfl fun a S => c_end ?_))
  rcases ite_of h0 with ⟨c1, h1⟩ | ⟨c1, h1⟩
  ·refine c_condT S rfl c1 (wp_skip (x_thenN (wp_seq (wp_block (c_region' (s_move S rfl rfl fun a S => s_move S rfl rfl fun a S => s_quo S rfl rfl (by decide) rfl fun a S => ?_))))))
   obtain ⟨c2, h2⟩ := chk_of h1; clear h1
   refine s_iaddr S rfl rfl underlying26 T24 c2.1 c2.2 (mul1 _ _) rfl fun a S => s_loadi S (i := (wr .i64 (Int.tdiv y4 8))) rfl .h2 T24 .h rfl c2.1 c2.2 rfl fun a S => s_move S rfl rfl fun a S => s_rem S rfl rfl (by decide) rfl fun a S => s_bin S rfl rfl rfl rfl fun a S => ?_
   obtain ⟨c3, h3⟩ := chk_of h2; clear h2
   refine s_shr S (e := (min (Int.toNat (wr .i64 (8 * (Int.tmod y4 8)))) 64)) rfl rfl c3 rfl rfl fun a S => s_rem S rfl rfl (by decide) rfl fun a S => s_conv S rfl rfl underlying3 rfl fun a S => ?_
   obtain ⟨c4, h4⟩ := chk_of h3; clear h3
   refine s_iaddr S rfl rfl underlying87 T3 c4.1 c4.2 (mul1 _ _) rfl fun a S => s_storei S (i := y4) rfl rfl .h T3 .h rfl c4.1 c4.2 fun w S => c_end' (x_blockN (x_thenN (c_region' (s_move S rfl rfl fun a S => s_bin S rfl rfl rfl rfl fun a S => s_assign S rfl rfl fun a S => c_end' (x_thenN ?_)))))
   exact ⟨_, (wr .i64 (y4 + 1)), g21, g22, g23, (y5.set (Int.toNat y4) (wr .i64 (Int.tmod (shr (rd x1 (wr .i64 (Int.tdiv y4 8))) (min (Int.toNat (wr .i64 (8 * (Int.tmod y4 8)))) 64)) 256))), (S.sb rfl (.c0 (.c0 (.c0 .n)))), h4⟩
  ·refine c_condF S rfl c1 (wp_exit (x_thenX (x_thenX (x_blockX (x_thenN ?_)))))
   exact j1 _ g21 g22 y5 a w (S.sb rfl (.c0 (.c0 .n))) h1
abbrev smithyref01_Compare.Ty : Type := (List Int) → (List Int) → Option Int
def smithyref01_Compare.Ctr (s : smithyref01_Compare.Ty) : Prop := ∀ (x1 : List Int) (x2 : List Int) (r : Int), Ct (C := Unit) Try.prog 41 (s x1 x2 = some r) [] [(.agg [.ints .i64 x1 32]), (.agg [.ints .i64 x2 32])] (fun _ => (.i r)) fun _ => []
def smithyref01_Compare.j1 : Option Int := some 0
def smithyref01_Compare.b1 (x1 : List Int) (x2 : List Int) (rec1 : Int → Option Int) (y1 : Int) : Option Int := if (decide (0 ≤ y1)) = true then (if (0 : Int) ≤ y1 ∧ y1 < 32 then (if (decide ((rd x1 y1) < (rd x2 y1))) = true then (some (-1)) else (if (decide ((rd x2 y1) < (rd x1 y1))) = true then (some 1) else (rec1 (wr .i64 (y1 - 1))))) else none) else smithyref01_Compare.j1
def smithyref01_Compare.l1 (x1 : List Int) (x2 : List Int) : Nat → Int → Option Int
  | 0, _ => none
  | q + 1, y1 => smithyref01_Compare.b1 x1 x2 (smithyref01_Compare.l1 x1 x2 q) y1
def smithyref01_Compare.f (k : Nat) (x1 : List Int) (x2 : List Int) : Option Int := smithyref01_Compare.l1 x1 x2 k 31
theorem smithyref01_Compare.ok (k : Nat) : smithyref01_Compare.Ctr (smithyref01_Compare.f k) := by
 intro x1 x2 r h0 mi w0 ok hm
 delta smithyref01_Compare.f at h0
 refine c_enterZ (n := 24) ok hm func41 rfl rfl rfl fun b0 hb a S => c_region (s_box S rfl rfl rfl fun g1 a w S => s_box S rfl rfl rfl fun g2 a w S => s_assign S rfl rfl fun a S => c_end (wp_seq_k fun K1 hK1 => ?_))
 have j1 : ∀ m a w, St 24 m b0 [] [] a w → smithyref01_Compare.j1 = some r → K1 a w := by
  intro m a w S h0
  delta smithyref01_Compare.j1 at h0
  refine hK1 a w (c_region (s_assign S rfl rfl fun a S => c_end (wp_ret ?_)))
  obtain rfl := Option.some.inj h0
  exact b_ret1 (d := (.i 0)) S rfl rfl (S.rt hb)
 refine c_region (s_assign S rfl rfl fun a S => c_end (wp_block ?_))
 refine c_loop (fun q1 a w => ∃ m y1 g13 g14, St 24 m b0 [(5, (.i y1)), (3, (.p g13)), (2, (.p g14))] [Res.cells g13 87 [.ints .i64 x2 32], Res.cells g14 87 [.ints .i64 x1 32]] a w ∧ smithyref01_Compare.l1 x1 x2 q1 y1 = some r) ?_ ?_ (k := k) ⟨_, 31, g2, g1, (S.sb rfl (.c0 (.c0 .n))), h0⟩
 ·rintro a w ⟨m, y1, g13, g14, S, h0⟩
  exact (nomatch (show (none : Option Int) = some r from h0))
 ·clear S h0
  rintro q1 a w ⟨m, y1, g13, g14, S, h0⟩
  replace h0 : smithyref01_Compare.b1 x1 x2 (smithyref01_Compare.l1 x1 x2 q1) y1 = some r := h0
  delta smithyref01_Compare.b1 at h0
  refine wp_seq (c_region (s_move S rfl rfl fun a S => s_bin S rfl rfl rfl rfl fun a S => c_end ?_))
  rcases ite_of h0 with ⟨c1, h1⟩ | ⟨c1, h1⟩
  ·refine c_condT S rfl c1 (wp_skip (x_thenN (wp_seq (wp_block (wp_seq ?_)))))
   refine wp_seq (c_heldS S (.take 0 (.take 1 (.take 2 (.take 3 (.take 4 (.take 5 (.take 6 .done))))))) 7 [Res.cells g13 87 [.ints .i64 x2 32], Res.cells g14 87 [.ints .i64 x1 32]] (.c0 (.c0 .n)) ⟨Res.stay_cells, Res.stay_cells, trivial⟩ [(5, (.i y1)), (3, (.p g13)), (2, (.p g14))] (subR rfl) (by kernel_rfl) (by kernel_rfl) ?_); clear S; intro w S CL hw le
   refine h_move S CL hw le (subR rfl) rfl rfl rfl trivial fun a S CL => ?_
   obtain ⟨c2, h2⟩ := chk_of h1; clear h1
   refine h_iaddr S CL hw le (subR rfl) rfl rfl underlying87 T3 c2.1 c2.2 (mul1 _ _) rfl rfl trivial fun a S CL => h_loadi S CL hw le (subR rfl) (i := y1) rfl .h1 T3 .h rfl c2.1 c2.2 rfl rfl trivial fun a S CL => h_move S CL hw le (subR rfl) rfl rfl rfl trivial fun a S CL => h_iaddr S CL hw le (subR rfl) rfl rfl underlying87 T3 c2.1 c2.2 (mul1 _ _) rfl rfl trivial fun a S CL => h_loadi S CL hw le (subR rfl) (i := y1) rfl .h T3 .h rfl c2.1 c2.2 rfl rfl trivial fun a S CL => h_bin S CL hw le (subR rfl) rfl rfl rfl rfl rfl trivial fun a S CL => ?_
   refine h_done ?_; clear CL hw le
   refine x_thenN ?_
   rcases ite_of h2 with ⟨c3, h3⟩ | ⟨c3, h3⟩
   ·refine c_condT S rfl c3 (c_region (s_assign S rfl rfl fun a S => c_end (wp_ret (x_thenR (x_blockR (x_thenR (x_thenR (x_blockR (x_thenR ?_)))))))))
    obtain rfl := Option.some.inj h3
    exact b_ret1 (d := (.i (-1))) S rfl rfl (S.rt hb)
   ·refine c_condF S rfl c3 (wp_skip (x_thenN ?_))
    refine wp_seq (c_heldS S (.take 0 (.take 1 (.take 2 (.take 3 (.take 4 (.take 5 (.take 6 .done))))))) 7 [Res.cells g13 87 [.ints .i64 x2 32], Res.cells g14 87 [.ints .i64 x1 32]] (.c0 (.c0 .n)) ⟨Res.stay_cells, Res.stay_cells, trivial⟩ [(5, (.i y1)), (3, (.p g13)), (2, (.p g14))] (subR rfl) (by kernel_rfl) (by kernel_rfl) ?_); clear S; intro w S CL hw le
    refine h_move S CL hw le (subR rfl) rfl rfl rfl trivial fun a S CL => h_iaddr S CL hw le (subR rfl) rfl rfl underlying87 T3 c2.1 c2.2 (mul1 _ _) rfl rfl trivial fun a S CL => h_loadi S CL hw le (subR rfl) (i := y1) rfl .h1 T3 .h rfl c2.1 c2.2 rfl rfl trivial fun a S CL => h_move S CL hw le (subR rfl) rfl rfl rfl trivial fun a S CL => h_iaddr S CL hw le (subR rfl) rfl rfl underlying87 T3 c2.1 c2.2 (mul1 _ _) rfl rfl trivial fun a S CL => h_loadi S CL hw le (subR rfl) (i := y1) rfl .h T3 .h rfl c2.1 c2.2 rfl rfl trivial fun a S CL => h_bin S CL hw le (subR rfl) rfl rfl rfl rfl rfl trivial fun a S CL => ?_
    refine h_done ?_; clear CL hw le
    refine x_thenN ?_
    rcases ite_of h3 with ⟨c4, h4⟩ | ⟨c4, h4⟩
    ·refine c_condT S rfl c4 (c_region (s_assign S rfl rfl fun a S => c_end (wp_ret (x_blockR (x_thenR (x_thenR (x_blockR (x_thenR ?_))))))))
     obtain rfl := Option.some.inj h4
     exact b_ret1 (d := (.i 1)) S rfl rfl (S.rt hb)
    ·refine c_condF S rfl c4 (wp_skip (x_blockN (x_thenN (c_region' (s_move S rfl rfl fun a S => s_bin S rfl rfl rfl rfl fun a S => s_assign S rfl rfl fun a S => c_end' (x_thenN ?_))))))
     exact ⟨_, (wr .i64 (y1 - 1)), g13, g14, (S.sb rfl (.c0 (.c0 .n))), h4⟩
  ·refine c_condF S rfl c1 (wp_exit (x_thenX (x_thenX (x_blockX (x_thenN ?_)))))
   exact j1 _ a w (S.sub trivial .nil) h1
abbrev smithyref13_less.Ty : Type := (List Int) → (List Int) → Option Bool
def smithyref13_less.Ctr (s : smithyref13_less.Ty) : Prop := ∀ (x1 : List Int) (x2 : List Int) (r : Bool), Ct (C := Unit) Try.prog 29 (s x1 x2 = some r) [] [(.a4 x1), (.a4 x2)] (fun _ => (.b r)) fun _ => []
def smithyref13_less.f (k : Nat) (x1 : List Int) (x2 : List Int) : Option Bool := (smithyref01_Of.f k x1).bind fun t1 => ((smithyref01_Of.f k x2).bind fun t2 => ((smithyref01_Compare.f k t1 t2).bind fun t3 => (some (decide (t3 < 0)))))
theorem smithyref13_less.ok (k : Nat) : smithyref13_less.Ctr (smithyref13_less.f k) := by
 intro x1 x2 r h0 mi w0 ok hm
 delta smithyref13_less.f at h0
 refine c_enterZ (n := 11) ok hm func29 rfl rfl rfl fun b0 hb a S => c_region (s_box S rfl rfl rfl fun g1 a w S => s_box S rfl rfl rfl fun g2 a w S => s_assign S rfl rfl fun a S => c_end ?_)
 refine wp_seq (c_heldS S (.take 0 (.take 2 (.alts (.run 1 true (.alts (.run 3 true (.alts (.run 4 true (.take 5 (.take 6 .done)) .nil)) .nil)) .nil)))) 7 [Res.cells g2 26 [.w4 x2], Res.cells g1 26 [.w4 x1]] (.c0 (.c0 .n)) ⟨Res.stay_cells, Res.stay_cells, trivial⟩ [(3, (.p g2)), (2, (.p g1))] (subR rfl) (by kernel_rfl) (by kernel_rfl) ?_); clear S; intro w S CL hw le
 refine h_loada S CL hw le (subR rfl) rfl .h1 T26 (s' := [.w4 x1]) rfl rfl rfl trivial fun a S CL => h_loada S CL hw le (subR rfl) rfl .h T26 (s' := [.w4 x2]) rfl rfl rfl trivial fun a S CL => h_run' S rfl trivial (bindX h0 fun t1 et1 h1 => s_callP S _ N42 rfl rfl (smithyref01_Of.ok k x1 t1 et1 _ _) fun ch1 m le1 a w S => ?_)
 replace le := le.trans le1
 refine CL.bk hw S (.c0 (.c0 .n)) le fun hw => h_run' S rfl trivial (bindX h1 fun t2 et2 h2 => s_callP S _ N42 rfl rfl (smithyref01_Of.ok k x2 t2 et2 _ _) fun ch2 m le1 a w S => ?_)
 replace le := le.trans le1
 refine CL.bk hw S (.c0 (.c0 .n)) le fun hw => h_run' S rfl trivial (bindX h2 fun t3 et3 h3 => s_callP S _ N41 rfl rfl (smithyref01_Compare.ok k t1 t2 t3 et3 _ _) fun ch3 m le1 a w S => ?_)
 replace le := le.trans le1
 refine CL.bk hw S (.c0 (.c0 .n)) le fun hw => ?_
 replace CL := CL.add (t := 9) (d := (.i t3)) S rfl rfl
 refine h_bin S CL hw le (subR rfl) rfl rfl rfl rfl rfl trivial fun a S CL => h_assign S CL hw le (subR rfl) rfl rfl rfl trivial fun a S CL => ?_
 refine h_done ?_; clear CL hw le
 refine x_thenN (wp_ret ?_)
 obtain rfl := Option.some.inj h3
 exact b_ret1 (d := (.b (decide (t3 < 0)))) S rfl rfl (S.rt hb)
abbrev smithyref13_Right.Ty : Type := (L30) → Option Bool
def smithyref13_Right.Ctr (s : smithyref13_Right.Ty) : Prop := ∀ (x1 : L30) (ch_0_0 : Option Addr) (ch_0_1 : Nat) (ch_0_2 : Option Addr) (ch_0_3 : Nat) (r : Bool), Ct (C := Unit) Try.prog 11 (s x1 = some r) [] [(.agg [.b20 x1.1, .w x1.2.1, .w4 x1.2.2.1, .q yb ch_0_0 ch_0_1 x1.2.2.2.1, .q Y66 ch_0_2 ch_0_3 x1.2.2.2.2])] (fun _ => (.b r)) fun _ => []
def smithyref13_Right.j1 : Option Bool := some true
def smithyref13_Right.j2 (y1 : Int) (rec1 : Int → Option Bool) (y2 : Bool) : Option Bool := if y2 = true then (some false) else (rec1 (wr .i64 (y1 + 1)))
def smithyref13_Right.b1 (k : Nat) (x1 : L30) (rec1 : Int → Option Bool) (y1 : Int) : Option Bool := if (decide (y1 < ((x1.2.2.2.2).length : Int))) = true then (if (0 : Int) ≤ y1 ∧ y1 < ((x1.2.2.2.2).length : Int) then (if (decide ((gt x1.2.2.2.2 y1).2 = [0, 0, 0, 0])) = true then (some false) else (if (decide (0 < y1)) = true then (if (0 : Int) ≤ (wr .i64 (y1 - 1)) ∧ (wr .i64 (y1 - 1)) < ((x1.2.2.2.2).length : Int) then ((smithyref13_less.f k ((gt x1.2.2.2.2 (wr .i64 (y1 - 1))).1) ((gt x1.2.2.2.2 y1).1)).bind fun t1 => (smithyref13_Right.j2 y1 rec1 (!t1))) else none) else (smithyref13_Right.j2 y1 rec1 false))) else none) else smithyref13_Right.j1
def smithyref13_Right.l1 (k : Nat) (x1 : L30) : Nat → Int → Option Bool
  | 0, _ => none
  | q + 1, y1 => smithyref13_Right.b1 k x1 (smithyref13_Right.l1 k x1 q) y1
def smithyref13_Right.f (k : Nat) (x1 : L30) : Option Bool := smithyref13_Right.l1 k x1 k 0
theorem smithyref13_Right.ok (k : Nat) : smithyref13_Right.Ctr (smithyref13_Right.f k) := by
 intro x1 ch_0_0 ch_0_1 ch_0_2 ch_0_3 r h0 mi w0 ok hm
 delta smithyref13_Right.f at h0
 refine c_enterZ (n := 38) ok hm func11 rfl rfl rfl fun b0 hb a S => c_region (s_box S rfl rfl rfl fun g1 a w S => s_assign S rfl rfl fun a S => c_end (wp_seq_k fun K1 hK1 => ?_))
 have j1 : ∀ m a w, St 38 m b0 [] [] a w → smithyref13_Right.j1 = some r → K1 a w := by
  intro m a w S h0
  delta smithyref13_Right.j1 at h0
  refine hK1 a w (c_region (s_assign S rfl rfl fun a S => c_end (wp_ret ?_)))
  obtain rfl := Option.some.inj h0
  exact b_ret1 (d := (.b true)) S rfl rfl (S.rt hb)
 refine c_region (s_fieldAddr S rfl I30_4 T28 (by decide) rfl rfl fun a S => s_loadSl S rfl .h T28 (A := ch_0_2) (len := (x1.2.2.2.2).length) (cap := ch_0_3) rfl rfl fun a S => s_lenS S rfl underlying28 rfl fun a S => s_move S rfl rfl fun a S => c_end (wp_block ?_))
 refine c_loop (fun q1 a w => ∃ m y1 g9, St 38 m b0 [(7, (.i y1)), (6, (.i ((x1.2.2.2.2).length : Int))), (1, (.p g9))] [Res.cells g9 30 [.b20 x1.1, .w x1.2.1, .w4 x1.2.2.1, .q yb ch_0_0 ch_0_1 x1.2.2.2.1, .q Y66 ch_0_2 ch_0_3 x1.2.2.2.2]] a w ∧ smithyref13_Right.l1 k x1 q1 y1 = some r) ?_ ?_ (k := k) ⟨_, 0, g1, (S.sb rfl (.c0 .n)), h0⟩
 ·rintro a w ⟨m, y1, g9, S, h0⟩
  exact (nomatch (show (none : Option Bool) = some r from h0))
 ·clear S h0
  rintro q1 a w ⟨m, y1, g9, S, h0⟩
  replace h0 : smithyref13_Right.b1 k x1 (smithyref13_Right.l1 k x1 q1) y1 = some r := h0
  delta smithyref13_Right.b1 at h0
  refine c_region (s_bin S rfl rfl rfl rfl fun a S => c_end (wp_seq ?_))
  rcases ite_of h0 with ⟨c1, h1⟩ | ⟨c1, h1⟩
  ·refine c_condT S rfl c1 (wp_skip (x_thenN (wp_seq (wp_block (c_region (s_move S rfl rfl fun a S => s_assign S rfl rfl fun a S => c_end (wp_seq (c_region (s_fieldAddr S rfl I30_4 T28 (by decide) rfl rfl fun a S => s_loadSl S rfl .h T28 (A := ch_0_2) (len := (x1.2.2.2.2).length) (cap := ch_0_3) rfl rfl fun a S => s_move S rfl rfl fun a S => ?_)))))))))
   obtain ⟨c2, h2⟩ := chk_of h1; clear h1
   refine s_iaddrS S rfl rfl rfl underlying28 T66 c2.1 c2.2 rfl fun p1 a S => s_faddrP S (tF := (Ty.arr .u64 4)) (y := (gt x1.2.2.2.2 y1).2) rfl I66_1 T26 (by decide) (fun m h => (at_snd (at_0 h))) rfl fun a S => s_ldA S (fun (c : Unit) => [.w4 ((gt x1.2.2.2.2 y1).2)]) rfl T26 (fun _ => rfl) rfl fun ch1 a S => ?_
   refine s_build S (ds := []) (dv := (.a4 [0, 0, 0, 0])) rfl (fun _ => by kernel_rfl) ⟨rfl, trivial⟩ rfl fun a S => s_eqa S rfl rfl underlying26 underlying24 T24 Q26 rfl fun a S => c_end ?_
   rcases ite_of h2 with ⟨c3, h3⟩ | ⟨c3, h3⟩
   ·refine c_condT S rfl c3 (c_region (s_assign S rfl rfl fun a S => c_end (wp_ret (x_thenR (x_blockR (x_thenR (x_thenR (x_blockR (x_thenR ?_)))))))))
    obtain rfl := Option.some.inj h3
    exact b_ret1 (d := (.b false)) S rfl rfl (S.rt hb)
   ·refine c_condF S rfl c3 (wp_skip (x_thenN (wp_seq_k fun K2 hK2 => ?_)))
    have j2 : ∀ m y2 g10 a w, St 38 m b0 [(36, (.b y2)), (7, (.i y1)), (6, (.i ((x1.2.2.2.2).length : Int))), (1, (.p g10))] [Res.cells g10 30 [.b20 x1.1, .w x1.2.1, .w4 x1.2.2.1, .q yb ch_0_0 ch_0_1 x1.2.2.2.1, .q Y66 ch_0_2 ch_0_3 x1.2.2.2.2]] a w → smithyref13_Right.j2 y1 (smithyref13_Right.l1 k x1 q1) y2 = some r → K2 a w := by
     intro m y2 g10 a w S h0
     delta smithyref13_Right.j2 at h0
     refine hK2 a w ?_
     rcases ite_of h0 with ⟨c4, h1⟩ | ⟨c4, h1⟩
     ·refine c_condT S rfl c4 (c_region (s_assign S rfl rfl fun a S => c_end (wp_ret (x_blockR (x_thenR (x_thenR (x_blockR (x_thenR ?_))))))))
      obtain rfl := Option.some.inj h1
      exact b_ret1 (d := (.b false)) S rfl rfl (S.rt hb)
     ·refine c_condF S rfl c4 (wp_skip (x_blockN (x_thenN (c_region' (s_bin S rfl rfl rfl rfl fun a S => s_move S rfl rfl fun a S => c_end' (x_thenN ?_))))))
      exact ⟨_, (wr .i64 (y1 + 1)), g10, (S.sb rfl (.c0 .n)), h1⟩
    refine c_heldS S (.take 0 (.take 1 (.take 2 (.take 3 (.take 4 (.take 5 (.take 6 (.take 7 (.take 8 (.take 9 (.take 10 (.take 11 (.take 12 (.take 13 (.take 14 (.take 15 (.alts (.run 16 true (.take 17 (.take 18 .done)) .nil)))))))))))))))))) 19 [Res.cells g9 30 [.b20 x1.1, .w x1.2.1, .w4 x1.2.2.1, .q yb ch_0_0 ch_0_1 x1.2.2.2.1, .q Y66 ch_0_2 ch_0_3 x1.2.2.2.2]] (.c0 .n) ⟨Res.stay_cells, trivial⟩ [(3, (.i y1)), (1, (.p g9))] (subR rfl) (by kernel_rfl) (by kernel_rfl) fun w S CL hw le => ?_
    refine h_move S CL hw le (subR rfl) rfl rfl rfl trivial fun a S CL => h_bin S CL hw le (subR rfl) rfl rfl rfl rfl rfl trivial fun a S CL => h_move S CL hw le (subR rfl) rfl rfl rfl trivial fun a S CL => ?_
    rcases ite_of h3 with ⟨c5, h4⟩ | ⟨c5, h4⟩
    ·refine h_fieldAddr S CL hw le (subR rfl) rfl I30_4 T28 (by decide) rfl rfl rfl ⟨_, _, rfl, rfl, c5⟩ fun a S CL => h_loadSl S CL hw le (subR rfl) rfl .h T28 (A := ch_0_2) (len := (x1.2.2.2.2).length) (cap := ch_0_3) rfl rfl rfl ⟨_, _, rfl, rfl, c5⟩ fun a S CL => h_move S CL hw le (subR rfl) rfl rfl rfl ⟨_, _, rfl, rfl, c5⟩ fun a S CL => h_bin S CL hw le (subR rfl) rfl rfl rfl rfl rfl ⟨_, _, rfl, rfl, c5⟩ fun a S CL => ?_
     obtain ⟨c6, h5⟩ := chk_of h4; clear h4
     refine h_iaddrS S CL hw le (subR rfl) rfl rfl rfl underlying28 T66 c6.1 c6.2 rfl rfl ⟨_, _, rfl, rfl, c5⟩ fun p4 a S CL => h_faddrP S CL hw le (subR rfl) (tF := (Ty.arr .u64 4)) (y := (gt x1.2.2.2.2 (wr .i64 (y1 - 1))).1) rfl I66_0 T26 (by decide) (fun m h => (at_fst (at_0 h))) rfl rfl ⟨_, _, rfl, rfl, c5⟩ fun a S CL => h_ldA S CL hw le (subR rfl) (fun (c : Unit) => [.w4 ((gt x1.2.2.2.2 (wr .i64 (y1 - 1))).1)]) rfl T26 (fun _ => rfl) rfl rfl ⟨_, _, rfl, rfl, c5⟩ fun ch2 a S CL => ?_
     refine h_fieldAddr S CL hw le (subR rfl) rfl I30_4 T28 (by decide) rfl rfl rfl ⟨_, _, rfl, rfl, c5⟩ fun a S CL => h_loadSl S CL hw le (subR rfl) rfl .h T28 (A := ch_0_2) (len := (x1.2.2.2.2).length) (cap := ch_0_3) rfl rfl rfl ⟨_, _, rfl, rfl, c5⟩ fun a S CL => h_move S CL hw le (subR rfl) rfl rfl rfl ⟨_, _, rfl, rfl, c5⟩ fun a S CL => h_iaddrS S CL hw le (subR rfl) rfl rfl rfl underlying28 T66 c2.1 c2.2 rfl rfl ⟨_, _, rfl, rfl, c5⟩ fun p5 a S CL => h_faddrP S CL hw le (subR rfl) (tF := (Ty.arr .u64 4)) (y := (gt x1.2.2.2.2 y1).1) rfl I66_0 T26 (by decide) (fun m h => (at_fst (at_0 h))) rfl rfl ⟨_, _, rfl, rfl, c5⟩ fun a S CL => h_ldA S CL hw le (subR rfl) (fun (c : Unit) => [.w4 ((gt x1.2.2.2.2 y1).1)]) rfl T26 (fun _ => rfl) rfl rfl ⟨_, _, rfl, rfl, c5⟩ fun ch3 a S CL => ?_
     refine h_run' S rfl ⟨_, _, rfl, rfl, c5⟩ (bindX h5 fun t1 et1 h6 => s_callP S _ N29 rfl rfl (smithyref13_less.ok k ((gt x1.2.2.2.2 (wr .i64 (y1 - 1))).1) ((gt x1.2.2.2.2 y1).1) t1 et1 _ _) fun ch4 m le1 a w S => ?_)
     replace le := le.trans le1
     refine CL.bk hw S (.c0 .n) le fun hw => ?_
     replace CL := CL.add (t := 34) (d := (.b t1)) S rfl rfl
     refine h_not S CL hw le (subR rfl) rfl rfl rfl ⟨_, _, rfl, rfl, c5⟩ fun a S CL => h_pick S CL hw le (subR rfl) (b := true) (hc_of rfl c5) rfl rfl rfl trivial fun a S CL => ?_
     refine h_done ?_; clear CL hw le
     refine x_thenN ?_
     exact j2 _ (!t1) g9 a w (S.sb rfl (.c0 .n)) h6
    ·refine h_skip S CL rfl rfl rfl (ne_bool c5) rfl fun a S CL => h_skip S CL rfl rfl rfl (ne_bool c5) rfl fun a S CL => h_skip S CL rfl rfl rfl (ne_bool c5) rfl fun a S CL => h_skip S CL rfl rfl rfl (ne_bool c5) rfl fun a S CL => h_skip S CL rfl rfl rfl (ne_bool c5) rfl fun a S CL => h_skip S CL rfl rfl rfl (ne_bool c5) rfl fun a S CL => h_skip S CL rfl rfl rfl (ne_bool c5) rfl fun a S CL => h_skip S CL rfl rfl rfl (ne_bool c5) rfl fun a S CL => h_skip S CL rfl rfl rfl (ne_bool c5) rfl fun a S CL => h_skip S CL rfl rfl rfl (ne_bool c5) rfl fun a S CL => h_skip S CL rfl rfl rfl (ne_bool c5) rfl fun a S CL => h_skip S CL rfl rfl rfl (ne_bool c5) rfl fun a S CL => h_skip S CL rfl rfl rfl (ne_bool c5) rfl fun a S CL => h_skipRt S rfl rfl rfl (ne_bool c5) rfl fun a S => CL.bk hw S (.c0 .n) le fun hw => ?_
     replace CL := CL.add (t := 34) (d := .u) S rfl rfl
     refine h_skip S CL rfl rfl rfl (ne_bool c5) rfl fun a S CL => h_pick S CL hw le (subR rfl) (b := false) (hc_of rfl c5) rfl rfl rfl trivial fun a S CL => ?_
     refine h_done ?_; clear CL hw le
     refine x_thenN ?_
     exact j2 _ false g9 a w (S.sb rfl (.c0 .n)) h4
  ·refine c_condF S rfl c1 (wp_exit (x_thenX (x_thenX (x_blockX (x_thenN ?_)))))
   exact j1 _ a w (S.sub trivial .nil) h1
abbrev smithyref08_Less.Ty : Type := (List Int) → (List Int) → Option Bool
def smithyref08_Less.Ctr (s : smithyref08_Less.Ty) : Prop := ∀ (x1 : List Int) (x2 : List Int) (r : Bool), Ct (C := Unit) Try.prog 49 (s x1 x2 = some r) [] [(.agg [.b20 x1]), (.agg [.b20 x2])] (fun _ => (.b r)) fun _ => []
def smithyref08_Less.j1 : Option Bool := some false
def smithyref08_Less.b1 (x1 : List Int) (x2 : List Int) (rec1 : Int → Option Bool) (y1 : Int) : Option Bool := if (decide (y1 < 20)) = true then (if (0 : Int) ≤ y1 ∧ y1 < 20 then (if ((rd x1 y1) != (rd x2 y1)) = true then (some (decide ((rd x1 y1) < (rd x2 y1)))) else (rec1 (wr .i64 (y1 + 1)))) else none) else smithyref08_Less.j1
def smithyref08_Less.l1 (x1 : List Int) (x2 : List Int) : Nat → Int → Option Bool
  | 0, _ => none
  | q + 1, y1 => smithyref08_Less.b1 x1 x2 (smithyref08_Less.l1 x1 x2 q) y1
def smithyref08_Less.f (k : Nat) (x1 : List Int) (x2 : List Int) : Option Bool := smithyref08_Less.l1 x1 x2 k 0
theorem smithyref08_Less.ok (k : Nat) : smithyref08_Less.Ctr (smithyref08_Less.f k) := by
 intro x1 x2 r h0 mi w0 ok hm
 delta smithyref08_Less.f at h0
 refine c_enterZ (n := 24) ok hm func49 rfl rfl rfl fun b0 hb a S => c_region (s_box S rfl rfl rfl fun g1 a w S => s_box S rfl rfl rfl fun g2 a w S => s_assign S rfl rfl fun a S => c_end (wp_seq_k fun K1 hK1 => ?_))
 have j1 : ∀ m a w, St 24 m b0 [] [] a w → smithyref08_Less.j1 = some r → K1 a w := by
  intro m a w S h0
  delta smithyref08_Less.j1 at h0
  refine hK1 a w (c_region (s_assign S rfl rfl fun a S => c_end (wp_ret ?_)))
  obtain rfl := Option.some.inj h0
  exact b_ret1 (d := (.b false)) S rfl rfl (S.rt hb)
 refine c_region (s_assign S rfl rfl fun a S => c_end (wp_block ?_))
 refine c_loop (fun q1 a w => ∃ m y1 g13 g14, St 24 m b0 [(5, (.i y1)), (3, (.p g13)), (2, (.p g14))] [Res.cells g13 23 [.b20 x2], Res.cells g14 23 [.b20 x1]] a w ∧ smithyref08_Less.l1 x1 x2 q1 y1 = some r) ?_ ?_ (k := k) ⟨_, 0, g2, g1, (S.sb rfl (.c0 (.c0 .n))), h0⟩
 ·rintro a w ⟨m, y1, g13, g14, S, h0⟩
  exact (nomatch (show (none : Option Bool) = some r from h0))
 ·clear S h0
  rintro q1 a w ⟨m, y1, g13, g14, S, h0⟩
  replace h0 : smithyref08_Less.b1 x1 x2 (smithyref08_Less.l1 x1 x2 q1) y1 = some r := h0
  delta smithyref08_Less.b1 at h0
  refine wp_seq (c_region (s_move S rfl rfl fun a S => s_bin S rfl rfl rfl rfl fun a S => c_end ?_))
  rcases ite_of h0 with ⟨c1, h1⟩ | ⟨c1, h1⟩
  ·refine c_condT S rfl c1 (wp_skip (x_thenN (wp_seq (wp_block ?_))))
   refine wp_seq (c_heldS S (.take 0 (.take 1 (.take 2 (.take 3 (.take 4 (.take 5 (.take 6 .done))))))) 7 [Res.cells g13 23 [.b20 x2], Res.cells g14 23 [.b20 x1]] (.c0 (.c0 .n)) ⟨Res.stay_cells, Res.stay_cells, trivial⟩ [(5, (.i y1)), (3, (.p g13)), (2, (.p g14))] (subR rfl) (by kernel_rfl) (by kernel_rfl) ?_); clear S; intro w S CL hw le
   refine h_move S CL hw le (subR rfl) rfl rfl rfl trivial fun a S CL => ?_
   obtain ⟨c2, h2⟩ := chk_of h1; clear h1
   refine h_iaddr S CL hw le (subR rfl) rfl rfl underlying23 T5 c2.1 c2.2 (mul1 _ _) rfl rfl trivial fun a S CL => h_loadi S CL hw le (subR rfl) (i := y1) rfl .h1 T5 .h rfl c2.1 c2.2 rfl rfl trivial fun a S CL => h_move S CL hw le (subR rfl) rfl rfl rfl trivial fun a S CL => h_iaddr S CL hw le (subR rfl) rfl rfl underlying23 T5 c2.1 c2.2 (mul1 _ _) rfl rfl trivial fun a S CL => h_loadi S CL hw le (subR rfl) (i := y1) rfl .h T5 .h rfl c2.1 c2.2 rfl rfl trivial fun a S CL => h_bin S CL hw le (subR rfl) rfl rfl rfl rfl rfl trivial fun a S CL => ?_
   refine h_done ?_; clear CL hw le
   refine x_thenN ?_
   rcases ite_of h2 with ⟨c3, h3⟩ | ⟨c3, h3⟩
   ·refine c_condT S rfl c3 ?_
    refine wp_seq (c_heldS S (.take 0 (.take 1 (.take 2 (.take 3 (.take 4 (.take 5 (.take 6 (.take 7 .done)))))))) 8 [Res.cells g13 23 [.b20 x2], Res.cells g14 23 [.b20 x1]] (.c0 (.c0 .n)) ⟨Res.stay_cells, Res.stay_cells, trivial⟩ [(5, (.i y1)), (3, (.p g13)), (2, (.p g14))] (subR rfl) (by kernel_rfl) (by kernel_rfl) ?_); clear S; intro w S CL hw le
    refine h_move S CL hw le (subR rfl) rfl rfl rfl trivial fun a S CL => h_iaddr S CL hw le (subR rfl) rfl rfl underlying23 T5 c2.1 c2.2 (mul1 _ _) rfl rfl trivial fun a S CL => h_loadi S CL hw le (subR rfl) (i := y1) rfl .h1 T5 .h rfl c2.1 c2.2 rfl rfl trivial fun a S CL => h_move S CL hw le (subR rfl) rfl rfl rfl trivial fun a S CL => h_iaddr S CL hw le (subR rfl) rfl rfl underlying23 T5 c2.1 c2.2 (mul1 _ _) rfl rfl trivial fun a S CL => h_loadi S CL hw le (subR rfl) (i := y1) rfl .h T5 .h rfl c2.1 c2.2 rfl rfl trivial fun a S CL => h_bin S CL hw le (subR rfl) rfl rfl rfl rfl rfl trivial fun a S CL => h_assign S CL hw le (subR rfl) rfl rfl rfl trivial fun a S CL => ?_
    refine h_done ?_; clear CL hw le
    refine x_thenN (wp_ret (x_blockR (x_thenR (x_thenR (x_blockR (x_thenR ?_))))))
    obtain rfl := Option.some.inj h3
    exact b_ret1 (d := (.b (decide ((rd x1 y1) < (rd x2 y1))))) S rfl rfl (S.rt hb)
   ·refine c_condF S rfl c3 (wp_skip (x_blockN (x_thenN (c_region' (s_move S rfl rfl fun a S => s_bin S rfl rfl rfl rfl fun a S => s_assign S rfl rfl fun a S => c_end' (x_thenN ?_))))))
    exact ⟨_, (wr .i64 (y1 + 1)), g13, g14, (S.sb rfl (.c0 (.c0 .n))), h3⟩
  ·refine c_condF S rfl c1 (wp_exit (x_thenX (x_thenX (x_blockX (x_thenN ?_)))))
   exact j1 _ a w (S.sub trivial .nil) h1
abbrev smithyref13_Put.Ty : Type := (List L30) → (L30) → Option ((List L30))
def smithyref13_Put.Ctr (s : smithyref13_Put.Ty) : Prop := ∀ (x1 : List L30) (x2 : L30) (ch_0_0 : Option Addr) (ch_0_1 : Nat) (ch_1_0 : Option Addr) (ch_1_1 : Nat) (ch_1_2 : Option Addr) (ch_1_3 : Nat) (r : (List L30)), Ct (C := ((Option Addr) × Nat × Nat)) Try.prog 38 (s x1 x2 = some r) [] [(.q Y30 ch_0_0 ch_0_1 x1), (.agg [.b20 x2.1, .w x2.2.1, .w4 x2.2.2.1, .q yb ch_1_0 ch_1_1 x2.2.2.2.1, .q Y66 ch_1_2 ch_1_3 x2.2.2.2.2])] (fun ch => (.s ch.1 ch.2.1 ch.2.2)) fun ch => [Res.row Y30 30 ch.1 ch.2.1 ch.2.2 r]
def smithyref13_Put.j2 (y3 : List L30) : Option ((List L30)) := some y3
def smithyref13_Put.j1 (x2 : L30) (y1 : Bool) (y2 : List L30) : Option ((List L30)) := if (!y1) = true then (if ((y2).length + ([x2]).length) * 112 ≤ 140737488355328 then (smithyref13_Put.j2 (y2 ++ [x2])) else none) else (smithyref13_Put.j2 y2)
def smithyref13_Put.j3 (y18 : Int) (rec1 : Int → Bool → (List L30) → Option ((List L30))) (y24 : Bool) (y25 : List L30) : Option ((List L30)) := rec1 (wr .i64 (y18 + 1)) y24 y25
def smithyref13_Put.j4 (x1 : List L30) (x2 : L30) (y18 : Int) (rec1 : Int → Bool → (List L30) → Option ((List L30))) (y27 : Bool) (y28 : List L30) : Option ((List L30)) := if (0 : Int) ≤ y18 ∧ y18 < ((x1).length : Int) then (if (decide ((gt x1 y18).1 = x2.1)) = true then (if ((y28).length + ([x2]).length) * 112 ≤ 140737488355328 then (smithyref13_Put.j3 y18 rec1 true (y28 ++ [x2])) else none) else (if ((y28).length + ([gt x1 y18]).length) * 112 ≤ 140737488355328 then (smithyref13_Put.j3 y18 rec1 y27 (y28 ++ [gt x1 y18])) else none)) else none
def smithyref13_Put.j5 (x1 : List L30) (x2 : L30) (y18 : Int) (y19 : Bool) (y20 : List L30) (rec1 : Int → Bool → (List L30) → Option ((List L30))) (y29 : Bool) : Option ((List L30)) := if y29 = true then (if ((y20).length + ([x2]).length) * 112 ≤ 140737488355328 then (smithyref13_Put.j4 x1 x2 y18 rec1 true (y20 ++ [x2])) else none) else (smithyref13_Put.j4 x1 x2 y18 rec1 y19 y20)
def smithyref13_Put.b1 (k : Nat) (x1 : List L30) (x2 : L30) (rec1 : Int → Bool → (List L30) → Option ((List L30))) (y18 : Int) (y19 : Bool) (y20 : List L30) : Option ((List L30)) := if (decide (y18 < ((x1).length : Int))) = true then (if (!y19) = true then (if (0 : Int) ≤ y18 ∧ y18 < ((x1).length : Int) then ((smithyref08_Less.f k x2.1 ((gt x1 y18).1)).bind fun t1 => (smithyref13_Put.j5 x1 x2 y18 y19 y20 rec1 t1)) else none) else (smithyref13_Put.j5 x1 x2 y18 y19 y20 rec1 false)) else (smithyref13_Put.j1 x2 y19 y20)
def smithyref13_Put.l1 (k : Nat) (x1 : List L30) (x2 : L30) : Nat → Int → Bool → (List L30) → Option ((List L30))
  | 0, _, _, _ => none
  | q + 1, y18, y19, y20 => smithyref13_Put.b1 k x1 x2 (smithyref13_Put.l1 k x1 x2 q) y18 y19 y20
def smithyref13_Put.f (k : Nat) (x1 : List L30) (x2 : L30) : Option ((List L30)) := smithyref13_Put.l1 k x1 x2 k 0 false ([] : List L30)
theorem smithyref13_Put.ok (k : Nat) : smithyref13_Put.Ctr (smithyref13_Put.f k) := by
 intro x1 x2 ch_0_0 ch_0_1 ch_1_0 ch_1_1 ch_1_2 ch_1_3 r h0 mi w0 ok hm
 delta smithyref13_Put.f at h0
 refine c_enterZ (n := 57) ok hm func38 rfl rfl rfl fun b0 hb a S => c_region (s_box S rfl rfl rfl fun g1 a w S => s_assign S rfl rfl fun a S => c_end (c_region (s_bldSl S (ty' := Y30) (ds := []) (z := zt1) (c0 := ((), (), (), (none, 0), (none, 0))) (ys := ([] : List L30)) (cs := []) rfl underlying32 J30 Z30 rfl ⟨rfl, rfl, rfl, ⟨Nat.le_refl _, Nat.zero_le _, RdS.nil _ _ _, RdS.mono _ _ _⟩, ⟨Nat.le_refl _, Nat.zero_le _, RdS.nil _ _ _, RdS.mono _ _ _⟩, trivial⟩ rfl rfl rfl rfl rfl rfl fun g2 a w S => s_assign S rfl rfl fun a S => c_end (c_region (s_assign S rfl rfl fun a S => c_end (wp_seq_k fun K1 hK1 => ?_))))))
 have j1 : ∀ m y1 A1 nn1 cp1 y2 g17 a w, St 57 m b0 [(6, (.b y1)), (5, (.s A1 nn1 cp1)), (3, (.p g17))] [Res.row Y30 30 A1 nn1 cp1 y2, Res.cells g17 30 [.b20 x2.1, .w x2.2.1, .w4 x2.2.2.1, .q yb ch_1_0 ch_1_1 x2.2.2.2.1, .q Y66 ch_1_2 ch_1_3 x2.2.2.2.2]] a w → smithyref13_Put.j1 x2 y1 y2 = some r → K1 a w := by
  intro m y1 A1 nn1 cp1 y2 g17 a w S h0
  delta smithyref13_Put.j1 at h0
  refine hK1 a w (wp_seq_k fun K2 hK2 => ?_)
  have j2 : ∀ m A2 nn2 cp3 y3 a w, St 57 m b0 [(5, (.s A2 nn2 cp3))] [Res.row Y30 30 A2 nn2 cp3 y3] a w → smithyref13_Put.j2 y3 = some r → K2 a w := by
   intro m A2 nn2 cp3 y3 a w S h0
   delta smithyref13_Put.j2 at h0
   refine hK2 a w (c_region (s_move S rfl rfl fun a S => s_assign S rfl rfl fun a S => c_end (wp_ret ?_)))
   obtain rfl := Option.some.inj h0
   exact b_ret1 (d := (.s A2 nn2 cp3)) S rfl rfl fun ok => S.retX (Hx := []) hb _ _ ((A2, nn2, cp3) : (Option Addr) × Nat × Nat) (.c0 .n) ok
  refine c_region (s_move S rfl rfl fun a S => s_not S rfl rfl fun a S => c_end ?_)
  rcases ite_of h0 with ⟨c1, h1⟩ | ⟨c1, h1⟩
  ·refine c_condT S rfl c1 (c_region' (s_move S rfl rfl fun a S => s_loada S rfl .h1 T30 (s' := [.b20 x2.1, .w x2.2.1, .w4 x2.2.2.1, .q yb ch_1_0 ch_1_1 x2.2.2.2.1, .q Y66 ch_1_2 ch_1_3 x2.2.2.2.2]) rfl rfl fun a S => s_bldSl S (ty' := Y30) (ds := [(0, (.agg [.b20 x2.1, .w x2.2.1, .w4 x2.2.2.1, .q yb ch_1_0 ch_1_1 x2.2.2.2.1, .q Y66 ch_1_2 ch_1_3 x2.2.2.2.2]))]) (z := zt1) (c0 := ((), (), (), (none, 0), (none, 0))) (ys := [x2]) (cs := [((), (), (), (ch_1_0, ch_1_1), (ch_1_2, ch_1_3))]) rfl underlying32 J30 Z30 rfl ⟨rfl, rfl, rfl, ⟨Nat.le_refl _, Nat.zero_le _, RdS.nil _ _ _, RdS.mono _ _ _⟩, ⟨Nat.le_refl _, Nat.zero_le _, RdS.nil _ _ _, RdS.mono _ _ _⟩, trivial⟩ rfl rfl rfl rfl rfl rfl fun g19 a w S => ?_))
   obtain ⟨c2, h2⟩ := chk_of h1; clear h1
   refine s_app S (k2 := 1) (ys := [x2]) rfl (fun _ _ => .h1) rfl rfl (S.holds _ (Pull.mem .h).1).1 (Res.row.src (S.holds _ (Pull.mem .h).1)) underlying32 J30 c2 rfl fun A3 cp4 a w S => s_assign S rfl rfl fun a S => c_end' (x_thenN ?_)
   exact j2 _ A3 (nn1 + 1) cp4 (y2 ++ [x2]) a w (S.sub ⟨rfl, trivial⟩ (.c1 .n)) h2
  ·refine c_condF S rfl c1 (wp_skip (x_thenN ?_))
   exact j2 _ A1 nn1 cp1 y2 a w (S.sub ⟨rfl, trivial⟩ (.c0 .n)) h1
 refine c_region (s_move S rfl rfl fun a S => s_lenS S rfl underlying32 rfl fun a S => s_move S rfl rfl fun a S => c_end (wp_block ?_))
 refine c_loop (fun q1 a w => ∃ m y18 y19 A4 nn8 cp16 y20 g33, St 57 m b0 [(11, (.i y18)), (10, (.i ((x1).length : Int))), (6, (.b y19)), (5, (.s A4 nn8 cp16)), (3, (.p g33)), (0, (.q Y30 ch_0_0 ch_0_1 x1))] [Res.row Y30 30 A4 nn8 cp16 y20, Res.cells g33 30 [.b20 x2.1, .w x2.2.1, .w4 x2.2.2.1, .q yb ch_1_0 ch_1_1 x2.2.2.2.1, .q Y66 ch_1_2 ch_1_3 x2.2.2.2.2]] a w ∧ smithyref13_Put.l1 k x1 x2 q1 y18 y19 y20 = some r) ?_ ?_ (k := k) ⟨_, 0, false, (ad g2), 0, 0, ([] : List L30), g1, (S.sb rfl (.c0 (.c0 .n))), h0⟩
 ·rintro a w ⟨m, y18, y19, A4, nn8, cp16, y20, g33, S, h0⟩
  exact (nomatch (show (none : Option ((List L30))) = some r from h0))
 ·clear S h0
  rintro q1 a w ⟨m, y18, y19, A4, nn8, cp16, y20, g33, S, h0⟩
  replace h0 : smithyref13_Put.b1 k x1 x2 (smithyref13_Put.l1 k x1 x2 q1) y18 y19 y20 = some r := h0
  delta smithyref13_Put.b1 at h0
  refine c_region (s_bin S rfl rfl rfl rfl fun a S => c_end (wp_seq ?_))
  rcases ite_of h0 with ⟨c3, h1⟩ | ⟨c3, h1⟩
  ·refine c_condT S rfl c3 (wp_skip (x_thenN (wp_seq_k fun K3 hK3 => ?_)))
   have j3 : ∀ m y24 A5 nn10 cp21 y25 g39 a w, St 57 m b0 [(6, (.b y24)), (5, (.s A5 nn10 cp21)), (11, (.i y18)), (10, (.i ((x1).length : Int))), (3, (.p g39)), (0, (.q Y30 ch_0_0 ch_0_1 x1))] [Res.row Y30 30 A5 nn10 cp21 y25, Res.cells g39 30 [.b20 x2.1, .w x2.2.1, .w4 x2.2.2.1, .q yb ch_1_0 ch_1_1 x2.2.2.2.1, .q Y66 ch_1_2 ch_1_3 x2.2.2.2.2]] a w → smithyref13_Put.j3 y18 (smithyref13_Put.l1 k x1 x2 q1) y24 y25 = some r → K3 a w := by
    intro m y24 A5 nn10 cp21 y25 g39 a w S h0
    delta smithyref13_Put.j3 at h0
    refine hK3 a w (c_region' (s_bin S rfl rfl rfl rfl fun a S => s_move S rfl rfl fun a S => c_end' (x_thenN ?_)))
    exact ⟨_, (wr .i64 (y18 + 1)), y24, A5, nn10, cp21, y25, g39, (S.sb rfl (.c0 (.c0 .n))), h0⟩
   refine wp_block (c_region (s_move S rfl rfl fun a S => s_assign S rfl rfl fun a S => c_end (wp_seq_k fun K4 hK4 => ?_)))
   have j4 : ∀ m y27 A6 nn11 cp23 y28 g42 a w, St 57 m b0 [(6, (.b y27)), (5, (.s A6 nn11 cp23)), (7, (.i y18)), (11, (.i y18)), (10, (.i ((x1).length : Int))), (3, (.p g42)), (0, (.q Y30 ch_0_0 ch_0_1 x1))] [Res.row Y30 30 A6 nn11 cp23 y28, Res.cells g42 30 [.b20 x2.1, .w x2.2.1, .w4 x2.2.2.1, .q yb ch_1_0 ch_1_1 x2.2.2.2.1, .q Y66 ch_1_2 ch_1_3 x2.2.2.2.2]] a w → smithyref13_Put.j4 x1 x2 y18 (smithyref13_Put.l1 k x1 x2 q1) y27 y28 = some r → K4 a w := by
    intro m y27 A6 nn11 cp23 y28 g42 a w S h0
    delta smithyref13_Put.j4 at h0
    refine hK4 a w (wp_seq ?_)
    refine wp_seq (c_heldS S (.take 0 (.take 1 (.take 2 (.take 3 (.take 4 (.take 5 (.take 6 (.take 7 .done)))))))) 8 [Res.cells g42 30 [.b20 x2.1, .w x2.2.1, .w4 x2.2.2.1, .q yb ch_1_0 ch_1_1 x2.2.2.2.1, .q Y66 ch_1_2 ch_1_3 x2.2.2.2.2]] (.c1 .n) ⟨Res.stay_cells, trivial⟩ [(7, (.i y18)), (3, (.p g42)), (0, (.q Y30 ch_0_0 ch_0_1 x1))] (subR rfl) (by kernel_rfl) (by kernel_rfl) ?_); clear S; intro w S CL hw le
    refine h_move S CL hw le (subR rfl) rfl rfl rfl trivial fun a S CL => h_move S CL hw le (subR rfl) rfl rfl rfl trivial fun a S CL => ?_
    obtain ⟨c4, h1⟩ := chk_of h0; clear h0
    refine h_iaddrS S CL hw le (subR rfl) rfl rfl rfl underlying32 T30 c4.1 c4.2 rfl rfl trivial fun p1 a S CL => h_faddrP S CL hw le (subR rfl) (tF := (Ty.arr .u8 20)) (y := (gt x1 y18).1) rfl I30_0 T23 (by decide) (fun m h => (at_fst (at_0 h))) rfl rfl trivial fun a S CL => h_ldA S CL hw le (subR rfl) (fun (c : Unit) => [.b20 ((gt x1 y18).1)]) rfl T23 (fun _ => rfl) rfl rfl trivial fun ch1 a S CL => ?_
    refine h_fieldAddr S CL hw le (subR rfl) rfl I30_0 T23 (by decide) rfl rfl rfl trivial fun a S CL => h_loada S CL hw le (subR rfl) rfl .h T23 (s' := [.b20 x2.1]) rfl rfl rfl trivial fun a S CL => h_eqa S CL hw le (subR rfl) rfl rfl underlying23 underlying5 T5 Q23 rfl rfl trivial fun a S CL => ?_
    refine h_done ?_; clear CL hw le
    refine x_thenN ?_
    rcases ite_of h1 with ⟨c5, h2⟩ | ⟨c5, h2⟩
    ·refine c_condT S rfl c5 (c_region (s_move S rfl rfl fun a S => s_loada S rfl .h1 T30 (s' := [.b20 x2.1, .w x2.2.1, .w4 x2.2.2.1, .q yb ch_1_0 ch_1_1 x2.2.2.2.1, .q Y66 ch_1_2 ch_1_3 x2.2.2.2.2]) rfl rfl fun a S => s_bldSl S (ty' := Y30) (ds := [(0, (.agg [.b20 x2.1, .w x2.2.1, .w4 x2.2.2.1, .q yb ch_1_0 ch_1_1 x2.2.2.2.1, .q Y66 ch_1_2 ch_1_3 x2.2.2.2.2]))]) (z := zt1) (c0 := ((), (), (), (none, 0), (none, 0))) (ys := [x2]) (cs := [((), (), (), (ch_1_0, ch_1_1), (ch_1_2, ch_1_3))]) rfl underlying32 J30 Z30 rfl ⟨rfl, rfl, rfl, ⟨Nat.le_refl _, Nat.zero_le _, RdS.nil _ _ _, RdS.mono _ _ _⟩, ⟨Nat.le_refl _, Nat.zero_le _, RdS.nil _ _ _, RdS.mono _ _ _⟩, trivial⟩ rfl rfl rfl rfl rfl rfl fun g43 a w S => ?_))
     obtain ⟨c6, h3⟩ := chk_of h2; clear h2
     refine s_app S (k2 := 1) (ys := [x2]) rfl (fun _ _ => .h1) rfl rfl (S.holds _ (Pull.mem .h).1).1 (Res.row.src (S.holds _ (Pull.mem .h).1)) underlying32 J30 c6 rfl fun A7 cp24 a w S => s_assign S rfl rfl fun a S => c_end (c_region (s_assign S rfl rfl fun a S => c_end (wp_exit (x_thenX (x_blockX (x_thenN ?_))))))
     exact j3 _ true A7 (nn11 + 1) cp24 (y28 ++ [x2]) g42 a w (S.sb rfl (.c1 (.c1 .n))) h3
    ·refine c_condF S rfl c5 (wp_skip (x_thenN (c_region' (s_move S rfl rfl fun a S => s_move S rfl rfl fun a S => s_move S rfl rfl fun a S => s_iaddrS S rfl rfl rfl underlying32 T30 c4.1 c4.2 rfl fun p2 a S => s_ldA S (fun (c : Unit × Unit × Unit × (Option Addr × Nat) × (Option Addr × Nat)) => [.b20 ((gt x1 y18).1), .w ((gt x1 y18).2.1), .w4 ((gt x1 y18).2.2.1), .q yb c.2.2.2.1.1 c.2.2.2.1.2 ((gt x1 y18).2.2.2.1), .q Y66 c.2.2.2.2.1 c.2.2.2.2.2 ((gt x1 y18).2.2.2.2)]) rfl T30 (fun _ => rfl) rfl fun ch2 a S => ?_))))
     refine s_bldSl S (ty' := Y30) (ds := [(0, (.agg [.b20 ((gt x1 y18).1), .w ((gt x1 y18).2.1), .w4 ((gt x1 y18).2.2.1), .q yb ch2.2.2.2.1.1 ch2.2.2.2.1.2 ((gt x1 y18).2.2.2.1), .q Y66 ch2.2.2.2.2.1 ch2.2.2.2.2.2 ((gt x1 y18).2.2.2.2)]))]) (z := zt1) (c0 := ((), (), (), (none, 0), (none, 0))) (ys := [gt x1 y18]) (cs := [((), (), (), (ch2.2.2.2.1.1, ch2.2.2.2.1.2), (ch2.2.2.2.2.1, ch2.2.2.2.2.2))]) rfl underlying32 J30 Z30 rfl ⟨rfl, rfl, rfl, ⟨Nat.le_refl _, Nat.zero_le _, RdS.nil _ _ _, RdS.mono _ _ _⟩, ⟨Nat.le_refl _, Nat.zero_le _, RdS.nil _ _ _, RdS.mono _ _ _⟩, trivial⟩ rfl rfl rfl rfl rfl rfl fun g44 a w S => ?_
     obtain ⟨c7, h3⟩ := chk_of h2; clear h2
     refine s_app S (k2 := 1) (ys := [gt x1 y18]) rfl (fun _ _ => .h1) rfl rfl (S.holds _ (Pull.mem .h).1).1 (Res.row.src (S.holds _ (Pull.mem .h).1)) underlying32 J30 c7 rfl fun A8 cp25 a w S => s_assign S rfl rfl fun a S => c_end' (x_blockN (x_thenN ?_))
     exact j3 _ y27 A8 (nn11 + 1) cp25 (y28 ++ [gt x1 y18]) g42 a w (S.sb rfl (.c1 (.c1 .n))) h3
   refine wp_seq_k fun K5 hK5 => ?_
   have j5 : ∀ m y29 g45 a w, St 57 m b0 [(25, (.b y29)), (7, (.i y18)), (11, (.i y18)), (10, (.i ((x1).length : Int))), (6, (.b y19)), (5, (.s A4 nn8 cp16)), (3, (.p g45)), (0, (.q Y30 ch_0_0 ch_0_1 x1))] [Res.row Y30 30 A4 nn8 cp16 y20, Res.cells g45 30 [.b20 x2.1, .w x2.2.1, .w4 x2.2.2.1, .q yb ch_1_0 ch_1_1 x2.2.2.2.1, .q Y66 ch_1_2 ch_1_3 x2.2.2.2.2]] a w → smithyref13_Put.j5 x1 x2 y18 y19 y20 (smithyref13_Put.l1 k x1 x2 q1) y29 = some r → K5 a w := by
    intro m y29 g45 a w S h0
    delta smithyref13_Put.j5 at h0
    refine hK5 a w ?_
    rcases ite_of h0 with ⟨c8, h1⟩ | ⟨c8, h1⟩
    ·refine c_condT S rfl c8 (c_region (s_move S rfl rfl fun a S => s_loada S rfl .h1 T30 (s' := [.b20 x2.1, .w x2.2.1, .w4 x2.2.2.1, .q yb ch_1_0 ch_1_1 x2.2.2.2.1, .q Y66 ch_1_2 ch_1_3 x2.2.2.2.2]) rfl rfl fun a S => s_bldSl S (ty' := Y30) (ds := [(0, (.agg [.b20 x2.1, .w x2.2.1, .w4 x2.2.2.1, .q yb ch_1_0 ch_1_1 x2.2.2.2.1, .q Y66 ch_1_2 ch_1_3 x2.2.2.2.2]))]) (z := zt1) (c0 := ((), (), (), (none, 0), (none, 0))) (ys := [x2]) (cs := [((), (), (), (ch_1_0, ch_1_1), (ch_1_2, ch_1_3))]) rfl underlying32 J30 Z30 rfl ⟨rfl, rfl, rfl, ⟨Nat.le_refl _, Nat.zero_le _, RdS.nil _ _ _, RdS.mono _ _ _⟩, ⟨Nat.le_refl _, Nat.zero_le _, RdS.nil _ _ _, RdS.mono _ _ _⟩, trivial⟩ rfl rfl rfl rfl rfl rfl fun g46 a w S => ?_))
     obtain ⟨c9, h2⟩ := chk_of h1; clear h1
     refine s_app S (k2 := 1) (ys := [x2]) rfl (fun _ _ => .h1) rfl rfl (S.holds _ (Pull.mem .h).1).1 (Res.row.src (S.holds _ (Pull.mem .h).1)) underlying32 J30 c9 rfl fun A9 cp26 a w S => s_assign S rfl rfl fun a S => c_end (c_region' (s_assign S rfl rfl fun a S => c_end' (x_thenN ?_)))
     exact j4 _ true A9 (nn8 + 1) cp26 (y20 ++ [x2]) g45 a w (S.sb rfl (.c1 (.c1 .n))) h2
    ·refine c_condF S rfl c8 (wp_skip (x_thenN ?_))
     exact j4 _ y19 A4 nn8 cp16 y20 g45 a w (S.sb rfl (.c0 (.c0 .n))) h1
   refine c_heldS S (.take 0 (.take 1 (.take 2 (.take 3 (.take 4 (.take 5 (.take 6 (.take 7 (.take 8 (.take 9 (.alts (.run 10 true (.take 11 .done) .nil)))))))))))) 12 [Res.cells g33 30 [.b20 x2.1, .w x2.2.1, .w4 x2.2.2.1, .q yb ch_1_0 ch_1_1 x2.2.2.2.1, .q Y66 ch_1_2 ch_1_3 x2.2.2.2.2]] (.c1 .n) ⟨Res.stay_cells, trivial⟩ [(7, (.i y18)), (6, (.b y19)), (3, (.p g33)), (0, (.q Y30 ch_0_0 ch_0_1 x1))] (subR rfl) (by kernel_rfl) (by kernel_rfl) fun w S CL hw le => ?_
   refine h_move S CL hw le (subR rfl) rfl rfl rfl trivial fun a S CL => h_not S CL hw le (subR rfl) rfl rfl rfl trivial fun a S CL => h_move S CL hw le (subR rfl) rfl rfl rfl trivial fun a S CL => ?_
   rcases ite_of h1 with ⟨c10, h2⟩ | ⟨c10, h2⟩
   ·refine h_fieldAddr S CL hw le (subR rfl) rfl I30_0 T23 (by decide) rfl rfl rfl ⟨_, _, rfl, rfl, c10⟩ fun a S CL => h_loada S CL hw le (subR rfl) rfl .h T23 (s' := [.b20 x2.1]) rfl rfl rfl ⟨_, _, rfl, rfl, c10⟩ fun a S CL => h_move S CL hw le (subR rfl) rfl rfl rfl ⟨_, _, rfl, rfl, c10⟩ fun a S CL => h_move S CL hw le (subR rfl) rfl rfl rfl ⟨_, _, rfl, rfl, c10⟩ fun a S CL => ?_
    obtain ⟨c11, h3⟩ := chk_of h2; clear h2
    refine h_iaddrS S CL hw le (subR rfl) rfl rfl rfl underlying32 T30 c11.1 c11.2 rfl rfl ⟨_, _, rfl, rfl, c10⟩ fun p4 a S CL => h_faddrP S CL hw le (subR rfl) (tF := (Ty.arr .u8 20)) (y := (gt x1 y18).1) rfl I30_0 T23 (by decide) (fun m h => (at_fst (at_0 h))) rfl rfl ⟨_, _, rfl, rfl, c10⟩ fun a S CL => h_ldA S CL hw le (subR rfl) (fun (c : Unit) => [.b20 ((gt x1 y18).1)]) rfl T23 (fun _ => rfl) rfl rfl ⟨_, _, rfl, rfl, c10⟩ fun ch3 a S CL => ?_
    refine h_run' S rfl ⟨_, _, rfl, rfl, c10⟩ (bindX h3 fun t1 et1 h4 => s_callP S _ N49 rfl rfl (smithyref08_Less.ok k x2.1 ((gt x1 y18).1) t1 et1 _ _) fun ch4 m le1 a w S => ?_)
    replace le := le.trans le1
    refine CL.bk hw S (.c1 .n) le fun hw => ?_
    replace CL := CL.add (t := 24) (d := (.b t1)) S rfl rfl
    refine h_pick S CL hw le (subR rfl) (b := true) (hc_of rfl c10) rfl rfl rfl trivial fun a S CL => ?_
    refine h_done ?_; clear CL hw le
    refine x_thenN ?_
    exact j5 _ t1 g33 a w (S.sb rfl (.c0 (.c0 .n))) h4
   ·refine h_skip S CL rfl rfl rfl (ne_bool c10) rfl fun a S CL => h_skip S CL rfl rfl rfl (ne_bool c10) rfl fun a S CL => h_skip S CL rfl rfl rfl (ne_bool c10) rfl fun a S CL => h_skip S CL rfl rfl rfl (ne_bool c10) rfl fun a S CL => h_skip S CL rfl rfl rfl (ne_bool c10) rfl fun a S CL => h_skip S CL rfl rfl rfl (ne_bool c10) rfl fun a S CL => h_skip S CL rfl rfl rfl (ne_bool c10) rfl fun a S CL => h_skipRt S rfl rfl rfl (ne_bool c10) rfl fun a S => CL.bk hw S (.c1 .n) le fun hw => ?_
    replace CL := CL.add (t := 24) (d := .u) S rfl rfl
    refine h_pick S CL hw le (subR rfl) (b := false) (hc_of rfl c10) rfl rfl rfl trivial fun a S CL => ?_
    refine h_done ?_; clear CL hw le
    refine x_thenN ?_
    exact j5 _ false g33 a w (S.sb rfl (.c0 (.c0 .n))) h2
  ·refine c_condF S rfl c3 (wp_exit (x_thenX (x_thenX (x_blockX (x_thenN ?_)))))
   exact j1 _ y19 A4 nn8 cp16 y20 g33 a w (S.sb rfl (.c0 (.c0 .n))) h1
abbrev smithyref13_Commit.Ty : Type := (List (Int × (List L30))) → Int → (List L30) → Option (Int × Int × (List (Int × (List L30))))
def smithyref13_Commit.Ctr (s : smithyref13_Commit.Ty) : Prop := ∀ (x1 : List (Int × (List L30))) (x2 : Int) (x3 : List L30) (ch_0_0 : Option Addr) (ch_0_1 : Nat) (ch_2_0 : Option Addr) (ch_2_1 : Nat) (r : Int × Int × (List (Int × (List L30)))), Ct (C := ((Option Addr) × Nat)) Try.prog 22 (s x1 x2 x3 = some r) [] [(.q Y53 ch_0_0 ch_0_1 x1), (.i x2), (.q Y30 ch_2_0 ch_2_1 x3)] (fun ch => (.tup [(false, [.i r.1]), (false, [.i r.2.1]), (false, [.q Y53 ch.1 ch.2 r.2.2])])) fun _ => []
def smithyref13_Commit.j3 (x1 : List (Int × (List L30))) (x2 : Int) (y8 : List L30) : Option (Int × Int × (List (Int × (List L30)))) := if ((([] : List (Int × (List L30)))).length + (x1).length) * 32 ≤ 140737488355328 then (if ((([] : List (Int × (List L30))) ++ x1).length + ([(x2, y8)]).length) * 32 ≤ 140737488355328 then (some (((x1).length : Int), 0, (([] : List (Int × (List L30))) ++ x1) ++ [(x2, y8)])) else none) else none
def smithyref13_Commit.b1 (k : Nat) (x1 : List (Int × (List L30))) (x2 : Int) (x3 : List L30) (rec1 : Int → (List L30) → Option (Int × Int × (List (Int × (List L30))))) (y11 : Int) (y12 : List L30) : Option (Int × Int × (List (Int × (List L30)))) := if (decide (y11 < ((x3).length : Int))) = true then (if (0 : Int) ≤ y11 ∧ y11 < ((x3).length : Int) then ((smithyref13_Put.f k y12 (gt x3 y11)).bind fun t1 => (rec1 (wr .i64 (y11 + 1)) t1)) else none) else (smithyref13_Commit.j3 x1 x2 y12)
def smithyref13_Commit.l1 (k : Nat) (x1 : List (Int × (List L30))) (x2 : Int) (x3 : List L30) : Nat → Int → (List L30) → Option (Int × Int × (List (Int × (List L30))))
  | 0, _, _ => none
  | q + 1, y11, y12 => smithyref13_Commit.b1 k x1 x2 x3 (smithyref13_Commit.l1 k x1 x2 x3 q) y11 y12
def smithyref13_Commit.j2 (k : Nat) (x1 : List (Int × (List L30))) (x2 : Int) (x3 : List L30) : Option (Int × Int × (List (Int × (List L30)))) := if (0 : Int) ≤ x2 ∧ x2 < ((x1).length : Int) then (smithyref13_Commit.l1 k x1 x2 x3 k 0 ((gt x1 x2).2)) else none
def smithyref13_Commit.b2 (k : Nat) (x1 : List (Int × (List L30))) (x2 : Int) (x3 : List L30) (rec2 : Int → Option (Int × Int × (List (Int × (List L30))))) (y14 : Int) : Option (Int × Int × (List (Int × (List L30)))) := if (decide (y14 < ((x3).length : Int))) = true then (if (0 : Int) ≤ y14 ∧ y14 < ((x3).length : Int) then ((smithyref13_Right.f k (gt x3 y14)).bind fun t4 => (if (!t4) = true then (some (0, 1, x1)) else (rec2 (wr .i64 (y14 + 1))))) else none) else (smithyref13_Commit.j2 k x1 x2 x3)
def smithyref13_Commit.l2 (k : Nat) (x1 : List (Int × (List L30))) (x2 : Int) (x3 : List L30) : Nat → Int → Option (Int × Int × (List (Int × (List L30))))
  | 0, _ => none
  | q + 1, y14 => smithyref13_Commit.b2 k x1 x2 x3 (smithyref13_Commit.l2 k x1 x2 x3 q) y14
def smithyref13_Commit.j1 (k : Nat) (x1 : List (Int × (List L30))) (x2 : Int) (x3 : List L30) (y1 : Bool) : Option (Int × Int × (List (Int × (List L30)))) := if y1 = true then (some (0, 12, x1)) else (smithyref13_Commit.l2 k x1 x2 x3 k 0)
def smithyref13_Commit.f (k : Nat) (x1 : List (Int × (List L30))) (x2 : Int) (x3 : List L30) : Option (Int × Int × (List (Int × (List L30)))) := if (decide (x2 < 0)) = true then (smithyref13_Commit.j1 k x1 x2 x3 true) else (smithyref13_Commit.j1 k x1 x2 x3 (decide (((x1).length : Int) ≤ x2)))
theorem smithyref13_Commit.ok (k : Nat) : smithyref13_Commit.Ctr (smithyref13_Commit.f k) := by
 intro x1 x2 x3 ch_0_0 ch_0_1 ch_2_0 ch_2_1 r h0 mi w0 ok hm
 delta smithyref13_Commit.f at h0
 refine c_enterZ (n := 65) ok hm func22 rfl rfl rfl fun b0 hb a S => c_region (s_assign S rfl rfl fun a S => s_assign S rfl rfl fun a S => s_assign S rfl rfl fun a S => c_end (wp_seq (wp_seq_k fun K1 hK1 => ?_)))
 have j1 : ∀ m y1 a w, St 65 m b0 [(20, (.b y1)), (0, (.q Y53 ch_0_0 ch_0_1 x1)), (1, (.i x2)), (2, (.q Y30 ch_2_0 ch_2_1 x3))] [] a w → smithyref13_Commit.j1 k x1 x2 x3 y1 = some r → K1 a w := by
  intro m y1 a w S h0
  delta smithyref13_Commit.j1 at h0
  refine hK1 a w ?_
  rcases ite_of h0 with ⟨c1, h1⟩ | ⟨c1, h1⟩
  ·refine c_condT S rfl c1 (c_region (s_move S rfl rfl fun a S => s_assign S rfl rfl fun a S => s_assign S rfl rfl fun a S => s_assign S rfl rfl fun a S => c_end (wp_ret (x_thenR ?_))))
   obtain rfl := Option.some.inj h1
   exact b_retN S [(.i 0), (.i 12), (.q Y53 ch_0_0 ch_0_1 x1)] rfl rfl ⟨rfl, rfl, rfl, trivial⟩ fun ⟨ok1, ok2, ok3, _⟩ => S.retX (Hx := []) hb _ _ ((ch_0_0, ch_0_1) : (Option Addr) × Nat) .nil ⟨⟨ok1, trivial⟩, ⟨ok2, trivial⟩, ⟨ok3, trivial⟩, trivial⟩
  ·refine c_condF S rfl c1 (wp_skip (x_thenN (wp_seq_k fun K2 hK2 => ?_)))
   have j2 : ∀ m a w, St 65 m b0 [(0, (.q Y53 ch_0_0 ch_0_1 x1)), (1, (.i x2)), (2, (.q Y30 ch_2_0 ch_2_1 x3))] [] a w → smithyref13_Commit.j2 k x1 x2 x3 = some r → K2 a w := by
    intro m a w S h0
    delta smithyref13_Commit.j2 at h0
    refine hK2 a w (c_region (s_move S rfl rfl fun a S => s_move S rfl rfl fun a S => ?_))
    obtain ⟨c2, h1⟩ := chk_of h0; clear h0
    refine s_iaddrS S rfl rfl rfl underlying54 T53 c2.1 c2.2 rfl fun p1 a S => s_faddrP S (tF := (Ty.slice Y30)) (y := (gt x1 x2).2) rfl I53_1 T32 (by decide) (fun m h => (at_snd (at_0 h))) rfl fun a S => s_ldS S (fun c => c) rfl T32 (fun _ => rfl) rfl fun A1 cp1 a S => s_assign S rfl rfl fun a S => c_end (wp_seq_k fun K3 hK3 => ?_)
    have j3 : ∀ m A2 cp5 y8 a w, St 65 m b0 [(10, (.q Y30 A2 cp5 y8)), (0, (.q Y53 ch_0_0 ch_0_1 x1)), (1, (.i x2))] [] a w → smithyref13_Commit.j3 x1 x2 y8 = some r → K3 a w := by
     intro m A2 cp5 y8 a w S h0
     delta smithyref13_Commit.j3 at h0
     refine hK3 a w (c_region (s_bldSl S (ty' := Y53) (ds := []) (z := (0, ([] : List L30))) (c0 := ((), (none, 0))) (ys := ([] : List (Int × (List L30)))) (cs := []) rfl underlying54 J53 Z53 rfl ⟨rfl, ⟨Nat.le_refl _, Nat.zero_le _, RdS.nil _ _ _, RdS.mono _ _ _⟩, trivial⟩ rfl rfl rfl rfl rfl rfl fun g1 a w S => s_assign S rfl rfl fun a S => c_end (c_region (s_move S rfl rfl fun a S => s_move S rfl rfl fun a S => ?_))))
     obtain ⟨c3, h1⟩ := chk_of h0; clear h0
     refine s_app S (k2 := ((x1).length)) (ys := x1) rfl (fun _ _ => .h) rfl rfl rfl (RdS.src (S.get 54 (.q Y53 ch_0_0 ch_0_1 x1) rfl).2.2.2.1 (by decide) S.frz) underlying54 J53 c3 rfl fun A3 cp6 a w S => s_assign S rfl rfl fun a S => c_end (c_region (s_move S rfl rfl fun a S => s_move S rfl rfl fun a S => s_move S rfl rfl fun a S => s_bldS S (ds := [(0, (.i x2)), (1, (.q Y30 A2 cp5 y8))]) (zs := [.i 0, .s none 0 0]) (s' := [.i x2, .q Y30 A2 cp5 y8]) rfl underlying53 P53 Z53 ⟨rfl, rfl, trivial⟩ rfl rfl fun a S => s_bldSl S (ty' := Y53) (ds := [(0, (.agg [.i x2, .q Y30 A2 cp5 y8]))]) (z := (0, ([] : List L30))) (c0 := ((), (none, 0))) (ys := [(x2, y8)]) (cs := [((), (A2, cp5))]) rfl underlying54 J53 Z53 rfl ⟨rfl, ⟨Nat.le_refl _, Nat.zero_le _, RdS.nil _ _ _, RdS.mono _ _ _⟩, trivial⟩ rfl rfl rfl rfl rfl rfl fun g2 a w S => ?_))
     obtain ⟨c4, h2⟩ := chk_of h1; clear h1
     refine s_app S (k2 := 1) (ys := [(x2, y8)]) rfl (fun _ _ => .h1) rfl rfl (S.holds _ (Pull.mem .h).1).1 (Res.row.src (S.holds _ (Pull.mem .h).1)) underlying54 J53 c4 rfl fun A4 cp7 a w S => s_assign S rfl rfl fun a S => c_end (c_region (s_move S rfl rfl fun a S => s_lenS S rfl underlying54 rfl fun a S => s_move S rfl rfl fun a S => s_assign S rfl rfl fun a S => s_assign S rfl rfl fun a S => s_assign S rfl rfl fun a S => c_end (wp_ret ?_)))
     replace S := S.rowfro .h1
     obtain ⟨m, le1, S, hro⟩ := S
     replace S := S.slotro (u := 8) rfl hro
     replace S := S.slotro (u := 64) rfl hro
     replace S := S.slotro (u := 12) rfl hro
     replace S := S.slotro (u := 61) rfl hro
     obtain rfl := Option.some.inj h2
     exact b_retN S [(.i ((x1).length : Int)), (.i 0), (.q Y53 A4 cp7 ((([] : List (Int × (List L30))) ++ x1) ++ [(x2, y8)]))] rfl rfl ⟨rfl, rfl, rfl, trivial⟩ fun ⟨ok1, ok2, ok3, _⟩ => S.retX (Hx := []) hb _ _ ((A4, cp7) : (Option Addr) × Nat) .nil ⟨⟨ok1, trivial⟩, ⟨ok2, trivial⟩, ⟨ok3, trivial⟩, trivial⟩
    refine c_region (s_move S rfl rfl fun a S => s_lenS S rfl underlying32 rfl fun a S => s_move S rfl rfl fun a S => c_end (wp_block ?_))
    refine c_loop (fun q1 a w => ∃ m y11 A5 cp10 y12, St 65 m b0 [(42, (.i y11)), (41, (.i ((x3).length : Int))), (10, (.q Y30 A5 cp10 y12)), (0, (.q Y53 ch_0_0 ch_0_1 x1)), (1, (.i x2)), (2, (.q Y30 ch_2_0 ch_2_1 x3))] [] a w ∧ smithyref13_Commit.l1 k x1 x2 x3 q1 y11 y12 = some r) ?_ ?_ (k := k) ⟨_, 0, A1, cp1, ((gt x1 x2).2), (S.sb rfl .nil), h1⟩
    ·rintro a w ⟨m, y11, A5, cp10, y12, S, h0⟩
     exact (nomatch (show (none : Option (Int × Int × (List (Int × (List L30))))) = some r from h0))
    ·clear S h1
     rintro q1 a w ⟨m, y11, A5, cp10, y12, S, h0⟩
     replace h0 : smithyref13_Commit.b1 k x1 x2 x3 (smithyref13_Commit.l1 k x1 x2 x3 q1) y11 y12 = some r := h0
     delta smithyref13_Commit.b1 at h0
     refine c_region (s_bin S rfl rfl rfl rfl fun a S => c_end (wp_seq ?_))
     rcases ite_of h0 with ⟨c5, h1⟩ | ⟨c5, h1⟩
     ·refine c_condT S rfl c5 (wp_skip (x_thenN (wp_seq (wp_block (c_region (s_move S rfl rfl fun a S => s_assign S rfl rfl fun a S => c_end (c_region' (s_move S rfl rfl fun a S => s_move S rfl rfl fun a S => s_move S rfl rfl fun a S => ?_))))))))
      obtain ⟨c6, h2⟩ := chk_of h1; clear h1
      refine s_iaddrS S rfl rfl rfl underlying32 T30 c6.1 c6.2 rfl fun p4 a S => s_ldA S (fun (c : Unit × Unit × Unit × (Option Addr × Nat) × (Option Addr × Nat)) => [.b20 ((gt x3 y11).1), .w ((gt x3 y11).2.1), .w4 ((gt x3 y11).2.2.1), .q yb c.2.2.2.1.1 c.2.2.2.1.2 ((gt x3 y11).2.2.2.1), .q Y66 c.2.2.2.2.1 c.2.2.2.2.2 ((gt x3 y11).2.2.2.2)]) rfl T30 (fun _ => rfl) rfl fun ch1 a S => ?_
      refine bindX h2 fun t1 et1 h3 => s_callR S (fun (ch : (Option Addr) × Nat × Nat) => ((.s ch.1 ch.2.1 ch.2.2) : D)) (fun (ch : (Option Addr) × Nat × Nat) => Res.row Y30 30 ch.1 ch.2.1 ch.2.2 t1) N38 rfl rfl (smithyref13_Put.ok k y12 (gt x3 y11) A5 cp10 ch1.2.2.2.1.1 ch1.2.2.2.1.2 ch1.2.2.2.2.1 ch1.2.2.2.2.2 t1 et1 _ _) fun ch2 m le1 a w S => s_assign S rfl rfl fun a S => c_end' (x_blockN (x_thenN (c_region' (s_bin S rfl rfl rfl rfl fun a S => s_move S rfl rfl fun a S => c_end' (x_thenN ?_)))))
      replace S := S.rowfro .h
      obtain ⟨m, le1, S, hro⟩ := S
      replace S := S.slotro (u := 10) rfl hro
      replace S := S.slotro (u := 50) rfl hro
      exact ⟨_, (wr .i64 (y11 + 1)), ch2.1, ch2.2.2, t1, (S.sb rfl .nil), h3⟩
     ·refine c_condF S rfl c5 (wp_exit (x_thenX (x_thenX (x_blockX (x_thenN ?_)))))
      exact j3 _ A5 cp10 y12 a w (S.sb rfl .nil) h1
   refine c_region (s_move S rfl rfl fun a S => s_lenS S rfl underlying32 rfl fun a S => s_move S rfl rfl fun a S => c_end (wp_block ?_))
   refine c_loop (fun q2 a w => ∃ m y14, St 65 m b0 [(24, (.i y14)), (23, (.i ((x3).length : Int))), (0, (.q Y53 ch_0_0 ch_0_1 x1)), (1, (.i x2)), (2, (.q Y30 ch_2_0 ch_2_1 x3))] [] a w ∧ smithyref13_Commit.l2 k x1 x2 x3 q2 y14 = some r) ?_ ?_ (k := k) ⟨_, 0, (S.sb rfl .nil), h1⟩
   ·rintro a w ⟨m, y14, S, h0⟩
    exact (nomatch (show (none : Option (Int × Int × (List (Int × (List L30))))) = some r from h0))
   ·clear S h1
    rintro q2 a w ⟨m, y14, S, h0⟩
    replace h0 : smithyref13_Commit.b2 k x1 x2 x3 (smithyref13_Commit.l2 k x1 x2 x3 q2) y14 = some r := h0
    delta smithyref13_Commit.b2 at h0
    refine c_region (s_bin S rfl rfl rfl rfl fun a S => c_end (wp_seq ?_))
    rcases ite_of h0 with ⟨c7, h1⟩ | ⟨c7, h1⟩
    ·refine c_condT S rfl c7 (wp_skip (x_thenN (wp_seq (wp_block (c_region (s_move S rfl rfl fun a S => s_assign S rfl rfl fun a S => c_end (c_region (s_move S rfl rfl fun a S => s_move S rfl rfl fun a S => ?_))))))))
     obtain ⟨c8, h2⟩ := chk_of h1; clear h1
     refine s_iaddrS S rfl rfl rfl underlying32 T30 c8.1 c8.2 rfl fun p7 a S => s_ldA S (fun (c : Unit × Unit × Unit × (Option Addr × Nat) × (Option Addr × Nat)) => [.b20 ((gt x3 y14).1), .w ((gt x3 y14).2.1), .w4 ((gt x3 y14).2.2.1), .q yb c.2.2.2.1.1 c.2.2.2.1.2 ((gt x3 y14).2.2.2.1), .q Y66 c.2.2.2.2.1 c.2.2.2.2.2 ((gt x3 y14).2.2.2.2)]) rfl T30 (fun _ => rfl) rfl fun ch5 a S => ?_
     refine bindX h2 fun t4 et4 h3 => s_callP S _ N11 rfl rfl (smithyref13_Right.ok k (gt x3 y14) ch5.2.2.2.1.1 ch5.2.2.2.1.2 ch5.2.2.2.2.1 ch5.2.2.2.2.2 t4 et4 _ _) fun ch6 m le1 a w S => s_not S rfl rfl fun a S => c_end ?_
     rcases ite_of h3 with ⟨c9, h4⟩ | ⟨c9, h4⟩
     ·refine c_condT S rfl c9 (c_region (s_move S rfl rfl fun a S => s_assign S rfl rfl fun a S => s_assign S rfl rfl fun a S => s_assign S rfl rfl fun a S => c_end (wp_ret (x_blockR (x_thenR (x_thenR (x_blockR (x_thenR ?_))))))))
      obtain rfl := Option.some.inj h4
      exact b_retN S [(.i 0), (.i 1), (.q Y53 ch_0_0 ch_0_1 x1)] rfl rfl ⟨rfl, rfl, rfl, trivial⟩ fun ⟨ok1, ok2, ok3, _⟩ => S.retX (Hx := []) hb _ _ ((ch_0_0, ch_0_1) : (Option Addr) × Nat) .nil ⟨⟨ok1, trivial⟩, ⟨ok2, trivial⟩, ⟨ok3, trivial⟩, trivial⟩
     ·refine c_condF S rfl c9 (wp_skip (x_blockN (x_thenN (c_region' (s_bin S rfl rfl rfl rfl fun a S => s_move S rfl rfl fun a S => c_end' (x_thenN ?_))))))
      exact ⟨_, (wr .i64 (y14 + 1)), (S.sb rfl .nil), h4⟩
    ·refine c_condF S rfl c7 (wp_exit (x_thenX (x_thenX (x_blockX (x_thenN ?_)))))
     exact j2 _ a w (S.sb rfl .nil) h1
 refine c_region' (s_move S rfl rfl fun a S => s_bin S rfl rfl rfl rfl fun a S => s_move S rfl rfl fun a S => ?_)
 rcases ite_of h0 with ⟨c10, h1⟩ | ⟨c10, h1⟩
 ·refine s_gF S (b := (decide (x2 < 0))) rfl rfl c10 rfl fun a S => s_gF S (b := (decide (x2 < 0))) rfl rfl c10 rfl fun a S => s_gF S (b := (decide (x2 < 0))) rfl rfl c10 rfl fun a S => s_gF S (b := (decide (x2 < 0))) rfl rfl c10 rfl fun a S => s_pick S (b := true) (hc_of rfl c10) rfl rfl fun a S => c_end' (x_thenN ?_)
  exact j1 _ true a w0 (S.sb rfl .nil) h1
 ·refine s_gT S (b := (decide (x2 < 0))) rfl rfl c10 (s_move S rfl rfl fun a S => s_gT S (b := (decide (x2 < 0))) rfl rfl c10 (s_move S rfl rfl fun a S => s_gT S (b := (decide (x2 < 0))) rfl rfl c10 (s_lenS S rfl underlying54 rfl fun a S => s_gT S (b := (decide (x2 < 0))) rfl rfl c10 (s_bin S rfl rfl rfl rfl fun a S => s_pick S (b := false) (hc_of rfl c10) rfl rfl fun a S => c_end' (x_thenN ?_)))))
  exact j1 _ (decide (((x1).length : Int) ≤ x2)) a w0 (S.sb rfl .nil) h1
abbrev store_Store_Parent.Ty : Type := L72 → Int → Option (Int × Bool)
def store_Store_Parent.Ctr (s : store_Store_Parent.Ty) : Prop := ∀ (x1 : L72) (x2 : Int) (ch_0_0 : Nat) (ch_0_1 : Option Addr) (ch_0_2 : Nat) (ch_0_3 : Nat) (r : Int × Bool), Ct (C := Unit) Try.prog 23 (s x1 x2 = some r) [Res.cells ch_0_0 74 [.s ch_0_1 ch_0_2 ch_0_3], Res.row (Ty.prod yi Y69) 71 ch_0_1 ch_0_2 ch_0_3 x1] [(.p ch_0_0), (.i x2)] (fun _ => (.tup [(false, [.i r.1]), (false, [.b r.2])])) fun _ => [Res.cells ch_0_0 74 [.s ch_0_1 ch_0_2 ch_0_3], Res.row (Ty.prod yi Y69) 71 ch_0_1 ch_0_2 ch_0_3 x1]
def store_Store_Parent.j1 (x1 : L72) (x2 : Int) (y1 : Bool) : Option (Int × Bool) := if y1 = true then (some (0, false)) else (if (0 : Int) ≤ x2 ∧ x2 < ((x1).length : Int) then (some ((gt x1 x2).1, true)) else none)
def store_Store_Parent.f (x1 : L72) (x2 : Int) : Option (Int × Bool) := (store_Store_has.f (x1) x2).bind fun t1 => (if (!t1) = true then (store_Store_Parent.j1 x1 x2 true) else (store_Store_Parent.j1 x1 x2 (x2 == 0)))
theorem store_Store_Parent.ok : store_Store_Parent.Ctr (store_Store_Parent.f) := by
 intro x1 x2 ch_0_0 ch_0_1 ch_0_2 ch_0_3 r h0 mi w0 ok hm
 delta store_Store_Parent.f at h0
 refine c_enterZ (n := 22) ok hm func23 rfl rfl rfl fun b0 hb a S => c_region (s_assign S rfl rfl fun a S => s_assign S rfl rfl fun a S => c_end (wp_seq (wp_seq_k fun K1 hK1 => ?_)))
 have j1 : ∀ m y1 a w, St 22 m b0 [(13, (.b y1)), (0, (.p ch_0_0)), (1, (.i x2))] [Res.cells ch_0_0 74 [.s ch_0_1 ch_0_2 ch_0_3], Res.row (Ty.prod yi Y69) 71 ch_0_1 ch_0_2 ch_0_3 x1] a w → store_Store_Parent.j1 x1 x2 y1 = some r → K1 a w := by
  intro m y1 a w S h0
  delta store_Store_Parent.j1 at h0
  refine hK1 a w ?_
  rcases ite_of h0 with ⟨c1, h1⟩ | ⟨c1, h1⟩
  ·refine c_condT S rfl c1 (c_region (s_assign S rfl rfl fun a S => s_assign S rfl rfl fun a S => c_end (wp_ret (x_thenR ?_))))
   obtain rfl := Option.some.inj h1
   exact b_ret2 (d1 := (.i 0)) (d2 := (.b false)) S rfl rfl rfl fun ok1 ok2 => S.retX (Hx := []) hb _ _ (() : Unit) (.c0 (.c0 .n)) ⟨⟨ok1, trivial⟩, ⟨ok2, trivial⟩, trivial⟩
  ·refine c_condF S rfl c1 (wp_skip (x_thenN (c_region (s_move S rfl rfl fun a S => s_nilchk S rfl rfl fun a S => s_fieldAddr S rfl I74_0 T72 (by decide) rfl rfl fun a S => s_load1 S rfl .h T72 (v := (.slice ch_0_1 ch_0_2 ch_0_3)) rfl rfl fun a S => s_move S rfl rfl fun a S => ?_))))
   obtain ⟨c2, h2⟩ := chk_of h1; clear h1
   refine s_iaddrO S (ty' := (Ty.prod yi Y69)) rfl .h1 rfl underlying72 T71 c2.1 c2.2 rfl fun g1 a hA1 S => s_fieldAddr S rfl I71_0 T3 (by decide) rfl rfl fun a S => s_ldR1 S (ty' := (Ty.prod yi Y69)) (i := x2) (off := 0) (v := (.int .i64 ((gt x1 x2).1))) rfl hA1 .h1 T3 c2.1 c2.2 rfl (fun _ => rfl) rfl fun a S => s_assign S rfl rfl fun a S => s_assign S rfl rfl fun a S => c_end (wp_ret ?_)
   obtain rfl := Option.some.inj h2
   exact b_ret2 (d1 := (.i ((gt x1 x2).1))) (d2 := (.b true)) S rfl rfl rfl fun ok1 ok2 => S.retX (Hx := []) hb _ _ (() : Unit) (.c0 (.c0 .n)) ⟨⟨ok1, trivial⟩, ⟨ok2, trivial⟩, trivial⟩
 refine c_region' (s_move S rfl rfl fun a S => s_move S rfl rfl fun a S => bindX h0 fun t1 et1 h1 => s_callX S (ds' := [(.p ch_0_0), (.i x2)]) (ds := [(.p ch_0_0), (.i x2)]) [Res.cells ch_0_0 74 [.s ch_0_1 ch_0_2 ch_0_3], Res.row (Ty.prod yi Y69) 71 ch_0_1 ch_0_2 ch_0_3 x1] [] (fun (ch : Unit) => ((.b t1) : D)) (fun (ch : Unit) => [Res.cells ch_0_0 74 [.s ch_0_1 ch_0_2 ch_0_3], Res.row (Ty.prod yi Y69) 71 ch_0_1 ch_0_2 ch_0_3 x1]) (fun (ch : Unit) => [Res.cells ch_0_0 74 [.s ch_0_1 ch_0_2 ch_0_3], Res.row (Ty.prod yi Y69) 71 ch_0_1 ch_0_2 ch_0_3 x1]) (fun _ => rfl) N30 rfl rfl (fun ok => ok) (.c0 (.c0 .n)) rfl (store_Store_has.ok (x1) x2 ch_0_0 ch_0_1 ch_0_2 ch_0_3 t1 et1 _ _) fun ch1 m le1 a w S => s_not S rfl rfl fun a S => s_move S rfl rfl fun a S => ?_)
 rcases ite_of h1 with ⟨c3, h2⟩ | ⟨c3, h2⟩
 ·refine s_gF S (b := (!t1)) rfl rfl c3 rfl fun a S => s_gF S (b := (!t1)) rfl rfl c3 rfl fun a S => s_pick S (b := true) (hc_of rfl c3) rfl rfl fun a S => c_end' (x_thenN ?_)
  exact j1 _ true a w (S.sb rfl (.c0 (.c0 .n))) h2
 ·refine s_gT S (b := (!t1)) rfl rfl c3 (s_move S rfl rfl fun a S => s_gT S (b := (!t1)) rfl rfl c3 (s_bin S rfl rfl rfl rfl fun a S => s_pick S (b := false) (hc_of rfl c3) rfl rfl fun a S => c_end' (x_thenN ?_)))
  exact j1 _ (x2 == 0) a w (S.sb rfl (.c0 (.c0 .n))) h2
abbrev store_Store_Slot_1.Ty : Type := ((List Int) × (List Int)) → (List Int) → Option Int
def store_Store_Slot_1.Ctr (s : store_Store_Slot_1.Ty) : Prop := ∀ (x1 : (List Int) × (List Int)) (x2 : List Int) (r : Int), Ct (C := Unit) Try.prog 40 (s x1 x2 = some r) [] [(.agg [.w4 x1.1, .w4 x1.2]), (.a4 x2)] (fun _ => (.i r)) fun _ => []
def store_Store_Slot_1.f (k : Nat) (x1 : (List Int) × (List Int)) (x2 : List Int) : Option Int := (word_Compare.f k x1.1 x2).bind fun t1 => (some t1)
theorem store_Store_Slot_1.ok (k : Nat) : store_Store_Slot_1.Ctr (store_Store_Slot_1.f k) := by
 intro x1 x2 r h0 mi w0 ok hm
 delta store_Store_Slot_1.f at h0
 refine c_enterZ (n := 9) ok hm func40 rfl rfl rfl fun b0 hb a S => c_region (s_box S rfl rfl rfl fun g1 a w S => s_box S rfl rfl rfl fun g2 a w S => s_assign S rfl rfl fun a S => c_end (c_region (s_fieldAddr S rfl I66_0 T26 (by decide) rfl rfl fun a S => s_loada S rfl .h1 T26 (s' := [.w4 x1.1]) rfl rfl fun a S => s_loada S rfl .h T26 (s' := [.w4 x2]) rfl rfl fun a S => bindX h0 fun t1 et1 h1 => s_callP S _ N28 rfl rfl (word_Compare.ok k x1.1 x2 t1 et1 _ _) fun ch1 m le1 a w S => s_assign S rfl rfl fun a S => c_end (wp_ret ?_))))
 obtain rfl := Option.some.inj h1
 exact b_ret1 (d := (.i t1)) S rfl rfl (S.rt hb)
abbrev api_Word_2f40.Ty : Type := (List ((List Int) × (List Int))) → (List Int) → Option (Int × Bool)
def api_Word_2f40.Ctr (s : api_Word_2f40.Ty) : Prop := ∀ (x1 : List ((List Int) × (List Int))) (x2 : List Int) (ch_0_0 : Option Addr) (ch_0_1 : Nat) (r : Int × Bool), Ct (C := Unit) Try.prog 39 (s x1 x2 = some r) [] [(.q Y66 ch_0_0 ch_0_1 x1), (.a4 x2), (.v (.func (.func 40) #[] #[]))] (fun _ => (.tup [(false, [.i r.1]), (false, [.b r.2])])) fun _ => []
def api_Word_2f40.j1 (k : Nat) (x1 : List ((List Int) × (List Int))) (x2 : List Int) (y1 : Int) : Option (Int × Bool) := if (decide (y1 < ((x1).length : Int))) = true then (if (0 : Int) ≤ y1 ∧ y1 < ((x1).length : Int) then ((store_Store_Slot_1.f k (gt x1 y1) x2).bind fun t1 => (some (y1, t1 == 0))) else none) else (some (y1, false))
def api_Word_2f40.b1 (k : Nat) (x1 : List ((List Int) × (List Int))) (x2 : List Int) (rec1 : Int → Int → Option (Int × Bool)) (y4 : Int) (y5 : Int) : Option (Int × Bool) := if (decide (y5 < y4)) = true then (if (0 : Int) ≤ (wr .i64 (shr (wr .u64 (wr .i64 (y5 + y4))) 1)) ∧ (wr .i64 (shr (wr .u64 (wr .i64 (y5 + y4))) 1)) < ((x1).length : Int) then ((store_Store_Slot_1.f k (gt x1 (wr .i64 (shr (wr .u64 (wr .i64 (y5 + y4))) 1))) x2).bind fun t4 => (if (decide (t4 < 0)) = true then (rec1 y4 (wr .i64 ((wr .i64 (shr (wr .u64 (wr .i64 (y5 + y4))) 1)) + 1))) else (rec1 (wr .i64 (shr (wr .u64 (wr .i64 (y5 + y4))) 1)) y5))) else none) else (api_Word_2f40.j1 k x1 x2 y5)
def api_Word_2f40.l1 (k : Nat) (x1 : List ((List Int) × (List Int))) (x2 : List Int) : Nat → Int → Int → Option (Int × Bool)
  | 0, _, _ => none
  | q + 1, y4, y5 => api_Word_2f40.b1 k x1 x2 (api_Word_2f40.l1 k x1 x2 q) y4 y5
def api_Word_2f40.f (k : Nat) (x1 : List ((List Int) × (List Int))) (x2 : List Int) : Option (Int × Bool) := api_Word_2f40.l1 k x1 x2 k ((x1).length : Int) 0
theorem api_Word_2f40.ok (k : Nat) : api_Word_2f40.Ctr (api_Word_2f40.f k) := by
 intro x1 x2 ch_0_0 ch_0_1 r h0 mi w0 ok hm
 delta api_Word_2f40.f at h0
 refine c_enterZ (n := 49) ok hm func39 rfl rfl rfl fun b0 hb a S => c_region (s_box S rfl rfl rfl fun g1 a w S => s_assign S rfl rfl fun a S => s_assign S rfl rfl fun a S => c_end (c_region (s_move S rfl rfl fun a S => s_lenS S rfl underlying28 rfl fun a S => s_assign S rfl rfl fun a S => c_end (c_region (s_move S rfl rfl fun a S => s_assign S rfl rfl fun a S => s_assign S rfl rfl fun a S => c_end (wp_seq_k fun K1 hK1 => ?_))))))
 have j1 : ∀ m y1 g5 a w, St 49 m b0 [(9, (.i y1)), (8, (.i ((x1).length : Int))), (4, (.p g5)), (0, (.q Y66 ch_0_0 ch_0_1 x1)), (2, (.v (.func (.func 40) #[] #[])))] [Res.cells g5 26 [.w4 x2]] a w → api_Word_2f40.j1 k x1 x2 y1 = some r → K1 a w := by
  intro m y1 g5 a w S h0
  delta api_Word_2f40.j1 at h0
  refine hK1 a w ?_
  refine wp_seq (c_heldS S (.take 0 (.take 1 (.take 2 (.take 3 (.take 4 (.take 5 (.take 6 (.take 7 (.take 8 (.take 9 (.take 10 (.alts (.run 11 true (.take 12 (.take 13 (.take 14 (.take 15 .done)))) .nil))))))))))))) 16 [Res.cells g5 26 [.w4 x2]] (.c0 .n) ⟨Res.stay_cells, trivial⟩ [(9, (.i y1)), (8, (.i ((x1).length : Int))), (4, (.p g5)), (0, (.q Y66 ch_0_0 ch_0_1 x1)), (2, (.v (.func (.func 40) #[] #[])))] (subR rfl) (by kernel_rfl) (by kernel_rfl) ?_); clear S; intro w S CL hw le
  refine h_move S CL hw le (subR rfl) rfl rfl rfl trivial fun a S CL => h_move S CL hw le (subR rfl) rfl rfl rfl trivial fun a S CL => h_move S CL hw le (subR rfl) rfl rfl rfl trivial fun a S CL => h_bin S CL hw le (subR rfl) rfl rfl rfl rfl rfl trivial fun a S CL => h_move S CL hw le (subR rfl) rfl rfl rfl trivial fun a S CL => ?_
  rcases ite_of h0 with ⟨c1, h1⟩ | ⟨c1, h1⟩
  ·refine h_move S CL hw le (subR rfl) rfl rfl rfl ⟨_, _, rfl, rfl, c1⟩ fun a S CL => h_move S CL hw le (subR rfl) rfl rfl rfl ⟨_, _, rfl, rfl, c1⟩ fun a S CL => h_move S CL hw le (subR rfl) rfl rfl rfl ⟨_, _, rfl, rfl, c1⟩ fun a S CL => ?_
   obtain ⟨c2, h2⟩ := chk_of h1; clear h1
   refine h_iaddrS S CL hw le (subR rfl) rfl rfl rfl underlying28 T66 c2.1 c2.2 rfl rfl ⟨_, _, rfl, rfl, c1⟩ fun p1 a S CL => h_ldA S CL hw le (subR rfl) (fun (c : Unit × Unit) => [.w4 ((gt x1 y1).1), .w4 ((gt x1 y1).2)]) rfl T66 (fun _ => rfl) rfl rfl ⟨_, _, rfl, rfl, c1⟩ fun ch1 a S CL => ?_
   refine h_loada S CL hw le (subR rfl) rfl .h T26 (s' := [.w4 x2]) rfl rfl rfl ⟨_, _, rfl, rfl, c1⟩ fun a S CL => h_run' S rfl ⟨_, _, rfl, rfl, c1⟩ (bindX h2 fun t1 et1 h3 => s_callP S _ N40 rfl rfl (store_Store_Slot_1.ok k (gt x1 y1) x2 t1 et1 _ _) fun ch2 m le1 a w S => ?_)
   replace le := le.trans le1
   refine CL.bk hw S (.c0 .n) le fun hw => ?_
   replace CL := CL.add (t := 46) (d := (.i t1)) S rfl rfl
   refine h_bin S CL hw le (subR rfl) rfl rfl rfl rfl rfl ⟨_, _, rfl, rfl, c1⟩ fun a S CL => h_pick S CL hw le (subR rfl) (b := true) (hc_of rfl c1) rfl rfl rfl trivial fun a S CL => h_assign S CL hw le (subR rfl) rfl rfl rfl trivial fun a S CL => h_assign S CL hw le (subR rfl) rfl rfl rfl trivial fun a S CL => ?_
   refine h_done ?_; clear CL hw le
   refine x_thenN (wp_ret ?_)
   obtain rfl := Option.some.inj h3
   exact b_ret2 (d1 := (.i y1)) (d2 := (.b (t1 == 0))) S rfl rfl rfl fun ok1 ok2 => S.retX (Hx := []) hb _ _ (() : Unit) .nil ⟨⟨ok1, trivial⟩, ⟨ok2, trivial⟩, trivial⟩
  ·refine h_skip S CL rfl rfl rfl (ne_bool c1) rfl fun a S CL => h_skip S CL rfl rfl rfl (ne_bool c1) rfl fun a S CL => h_skip S CL rfl rfl rfl (ne_bool c1) rfl fun a S CL => h_skip S CL rfl rfl rfl (ne_bool c1) rfl fun a S CL => h_skip S CL rfl rfl rfl (ne_bool c1) rfl fun a S CL => h_skip S CL rfl rfl rfl (ne_bool c1) rfl fun a S CL => h_skipRt S rfl rfl rfl (ne_bool c1) rfl fun a S => CL.bk hw S (.c0 .n) le fun hw => ?_
   replace CL := CL.add (t := 46) (d := .u) S rfl rfl
   refine h_skip S CL rfl rfl rfl (ne_bool c1) rfl fun a S CL => h_pick S CL hw le (subR rfl) (b := false) (hc_of rfl c1) rfl rfl rfl trivial fun a S CL => h_assign S CL hw le (subR rfl) rfl rfl rfl trivial fun a S CL => h_assign S CL hw le (subR rfl) rfl rfl rfl trivial fun a S CL => ?_
   refine h_done ?_; clear CL hw le
   refine x_thenN (wp_ret ?_)
   obtain rfl := Option.some.inj h1
   exact b_ret2 (d1 := (.i y1)) (d2 := (.b false)) S rfl rfl rfl fun ok1 ok2 => S.retX (Hx := []) hb _ _ (() : Unit) .nil ⟨⟨ok1, trivial⟩, ⟨ok2, trivial⟩, trivial⟩
 refine wp_block ?_
 refine c_loop (fun q1 a w => ∃ m y4 y5 g8, St 49 m b0 [(10, (.i y4)), (9, (.i y5)), (8, (.i ((x1).length : Int))), (4, (.p g8)), (0, (.q Y66 ch_0_0 ch_0_1 x1)), (2, (.v (.func (.func 40) #[] #[])))] [Res.cells g8 26 [.w4 x2]] a w ∧ api_Word_2f40.l1 k x1 x2 q1 y4 y5 = some r) ?_ ?_ (k := k) ⟨_, ((x1).length : Int), 0, g1, (S.sb rfl (.c0 .n)), h0⟩
 ·rintro a w ⟨m, y4, y5, g8, S, h0⟩
  exact (nomatch (show (none : Option (Int × Bool)) = some r from h0))
 ·clear S h0
  rintro q1 a w ⟨m, y4, y5, g8, S, h0⟩
  replace h0 : api_Word_2f40.b1 k x1 x2 (api_Word_2f40.l1 k x1 x2 q1) y4 y5 = some r := h0
  delta api_Word_2f40.b1 at h0
  refine wp_seq (c_region (s_move S rfl rfl fun a S => s_move S rfl rfl fun a S => s_bin S rfl rfl rfl rfl fun a S => c_end ?_))
  rcases ite_of h0 with ⟨c3, h1⟩ | ⟨c3, h1⟩
  ·refine c_condT S rfl c3 (wp_skip (x_thenN (wp_block (c_region (s_move S rfl rfl fun a S => s_move S rfl rfl fun a S => s_bin S rfl rfl rfl rfl fun a S => s_conv S rfl rfl underlying94 rfl fun a S => s_shr S (e := 1) rfl rfl (by decide) rfl rfl fun a S => s_conv S rfl rfl underlying3 rfl fun a S => s_assign S rfl rfl fun a S => c_end ?_)))))
   refine wp_seq (c_heldS S (.take 0 (.take 1 (.take 2 (.take 3 (.take 4 (.take 5 (.alts (.run 6 true (.take 7 .done) .nil)))))))) 8 [Res.cells g8 26 [.w4 x2]] (.c0 .n) ⟨Res.stay_cells, trivial⟩ [(11, (.i (wr .i64 (shr (wr .u64 (wr .i64 (y5 + y4))) 1)))), (4, (.p g8)), (0, (.q Y66 ch_0_0 ch_0_1 x1)), (2, (.v (.func (.func 40) #[] #[])))] (subR rfl) (by kernel_rfl) (by kernel_rfl) ?_); clear S; intro w S CL hw le
   refine h_move S CL hw le (subR rfl) rfl rfl rfl trivial fun a S CL => h_move S CL hw le (subR rfl) rfl rfl rfl trivial fun a S CL => h_move S CL hw le (subR rfl) rfl rfl rfl trivial fun a S CL => ?_
   obtain ⟨c4, h2⟩ := chk_of h1; clear h1
   refine h_iaddrS S CL hw le (subR rfl) rfl rfl rfl underlying28 T66 c4.1 c4.2 rfl rfl trivial fun p4 a S CL => h_ldA S CL hw le (subR rfl) (fun (c : Unit × Unit) => [.w4 ((gt x1 (wr .i64 (shr (wr .u64 (wr .i64 (y5 + y4))) 1))).1), .w4 ((gt x1 (wr .i64 (shr (wr .u64 (wr .i64 (y5 + y4))) 1))).2)]) rfl T66 (fun _ => rfl) rfl rfl trivial fun ch3 a S CL => ?_
   refine h_loada S CL hw le (subR rfl) rfl .h T26 (s' := [.w4 x2]) rfl rfl rfl trivial fun a S CL => h_run' S rfl trivial (bindX h2 fun t4 et4 h3 => s_callP S _ N40 rfl rfl (store_Store_Slot_1.ok k (gt x1 (wr .i64 (shr (wr .u64 (wr .i64 (y5 + y4))) 1))) x2 t4 et4 _ _) fun ch4 m le1 a w S => ?_)
   replace le := le.trans le1
   refine CL.bk hw S (.c0 .n) le fun hw => ?_
   replace CL := CL.add (t := 30) (d := (.i t4)) S rfl rfl
   refine h_bin S CL hw le (subR rfl) rfl rfl rfl rfl rfl trivial fun a S CL => ?_
   refine h_done ?_; clear CL hw le
   refine x_thenN ?_
   rcases ite_of h3 with ⟨c5, h4⟩ | ⟨c5, h4⟩
   ·refine c_condT S rfl c5 (c_region' (s_move S rfl rfl fun a S => s_bin S rfl rfl rfl rfl fun a S => s_assign S rfl rfl fun a S => c_end' (x_blockN (x_thenN ?_))))
    exact ⟨_, y4, (wr .i64 ((wr .i64 (shr (wr .u64 (wr .i64 (y5 + y4))) 1)) + 1)), g8, (S.sb rfl (.c0 .n)), h4⟩
   ·refine c_condF S rfl c5 (c_region' (s_move S rfl rfl fun a S => s_assign S rfl rfl fun a S => c_end' (x_blockN (x_thenN ?_))))
    exact ⟨_, (wr .i64 (shr (wr .u64 (wr .i64 (y5 + y4))) 1)), y5, g8, (S.sb rfl (.c0 .n)), h4⟩
  ·refine c_condF S rfl c3 (wp_exit (x_thenX (x_thenX (x_blockX (x_thenN ?_)))))
   exact j1 _ y5 g8 a w (S.sb rfl (.c0 .n)) h1
abbrev store_Store_Slot.Ty : Type := L72 → Int → (List Int) → (List Int) → Option ((List Int))
def store_Store_Slot.Ctr (s : store_Store_Slot.Ty) : Prop := ∀ (x1 : L72) (x2 : Int) (x3 : List Int) (x4 : List Int) (ch_0_0 : Nat) (ch_0_1 : Option Addr) (ch_0_2 : Nat) (ch_0_3 : Nat) (r : (List Int)), Ct (C := Unit) Try.prog 24 (s x1 x2 x3 x4 = some r) [Res.cells ch_0_0 74 [.s ch_0_1 ch_0_2 ch_0_3], Res.row (Ty.prod yi Y69) 71 ch_0_1 ch_0_2 ch_0_3 x1] [(.p ch_0_0), (.i x2), (.agg [.b20 x3]), (.a4 x4)] (fun _ => (.a4 r)) fun _ => [Res.cells ch_0_0 74 [.s ch_0_1 ch_0_2 ch_0_3], Res.row (Ty.prod yi Y69) 71 ch_0_1 ch_0_2 ch_0_3 x1]
def store_Store_Slot.f (k : Nat) (x1 : L72) (x2 : Int) (x3 : List Int) (x4 : List Int) : Option ((List Int)) := (store_Store_find.f k (x1) x2 x3).bind fun t1 => ((api_Word_2f40.f k t1.1.2.2.2.2 x4).bind fun t2 => (if (!t2.2) = true then (some [0, 0, 0, 0]) else (if (0 : Int) ≤ t2.1 ∧ t2.1 < ((t1.1.2.2.2.2).length : Int) then (some ((gt t1.1.2.2.2.2 t2.1).2)) else none)))
theorem store_Store_Slot.ok (k : Nat) : store_Store_Slot.Ctr (store_Store_Slot.f k) := by
 intro x1 x2 x3 x4 ch_0_0 ch_0_1 ch_0_2 ch_0_3 r h0 mi w0 ok hm
 delta store_Store_Slot.f at h0
 refine c_enterZ (n := 36) ok hm func24 rfl rfl rfl fun b0 hb a S => c_region (s_box S rfl rfl rfl fun g1 a w S => s_box S rfl rfl rfl fun g2 a w S => s_alloc S Z26 rfl ⟨rfl, trivial⟩ rfl fun g3 a w S => c_end (c_region (s_move S rfl rfl fun a S => s_move S rfl rfl fun a S => s_loada S rfl .h2 T23 (s' := [.b20 x3]) rfl rfl fun a S => bindX h0 fun t1 et1 h1 => s_callX S (ds' := [(.p ch_0_0), (.i x2), (.agg [.b20 x3])]) (ds := [(.p ch_0_0), (.i x2), (.agg [.b20 x3])]) [Res.cells ch_0_0 74 [.s ch_0_1 ch_0_2 ch_0_3], Res.row (Ty.prod yi Y69) 71 ch_0_1 ch_0_2 ch_0_3 x1] [Res.cells g3 26 [.w4 [0, 0, 0, 0]], Res.cells g2 26 [.w4 x4], Res.cells g1 23 [.b20 x3]] (fun (ch : (Option Addr) × Nat × (Option Addr) × Nat) => ((.tup [(true, [.b20 t1.1.1, .w t1.1.2.1, .w4 t1.1.2.2.1, .q yb ch.1 ch.2.1 t1.1.2.2.2.1, .q Y66 ch.2.2.1 ch.2.2.2 t1.1.2.2.2.2]), (false, [.b t1.2])]) : D)) (fun (ch : (Option Addr) × Nat × (Option Addr) × Nat) => [Res.cells ch_0_0 74 [.s ch_0_1 ch_0_2 ch_0_3], Res.row (Ty.prod yi Y69) 71 ch_0_1 ch_0_2 ch_0_3 x1]) (fun (ch : (Option Addr) × Nat × (Option Addr) × Nat) => [Res.cells ch_0_0 74 [.s ch_0_1 ch_0_2 ch_0_3], Res.row (Ty.prod yi Y69) 71 ch_0_1 ch_0_2 ch_0_3 x1, Res.cells g3 26 [.w4 [0, 0, 0, 0]], Res.cells g2 26 [.w4 x4], Res.cells g1 23 [.b20 x3]]) (fun _ => rfl) N37 rfl rfl (fun ok => ok) (.c3 (.c3 (.c0 (.c0 (.c0 .n))))) rfl (store_Store_find.ok k (x1) x2 x3 ch_0_0 ch_0_1 ch_0_2 ch_0_3 t1 et1 _ _) fun ch1 m le1 a w S => s_move S rfl rfl fun a S => s_extract S rfl rfl rfl rfl fun a S => s_extract S rfl rfl rfl rfl fun a S => s_alloc S Z30 rfl ⟨rfl, rfl, rfl, rfl, rfl, trivial⟩ rfl fun g4 a w S => s_store S rfl rfl rfl (s' := [.b20 t1.1.1, .w t1.1.2.1, .w4 t1.1.2.2.1, .q yb ch1.1 ch1.2.1 t1.1.2.2.2.1, .q Y66 ch1.2.2.1 ch1.2.2.2 t1.1.2.2.2.2]) .h T30 rfl rfl fun w S => s_assign S rfl rfl fun a S => c_end (c_region (s_fieldAddr S rfl I30_4 T28 (by decide) rfl rfl fun a S => s_loadSl S rfl .h T28 (A := ch1.2.2.1) (len := (t1.1.2.2.2.2).length) (cap := ch1.2.2.2) rfl rfl fun a S => s_loada S rfl .h4 T26 (s' := [.w4 x4]) rfl rfl fun a S => bindX h1 fun t2 et2 h2 => s_callP S _ N39 rfl rfl (api_Word_2f40.ok k t1.1.2.2.2.2 x4 ch1.2.2.1 ch1.2.2.2 t2 et2 _ _) fun ch2 m le1 a w S => s_move S rfl rfl fun a S => s_extract S rfl rfl rfl rfl fun a S => s_extract S rfl rfl rfl rfl fun a S => s_assign S rfl rfl fun a S => s_assign S rfl rfl fun a S => c_end (wp_seq (c_region (s_move S rfl rfl fun a S => s_not S rfl rfl fun a S => c_end ?_))))))))
 rcases ite_of h2 with ⟨c1, h3⟩ | ⟨c1, h3⟩
 ·refine c_condT S rfl c1 (c_region (s_build S (ds := []) (dv := (.a4 [0, 0, 0, 0])) rfl (fun _ => by kernel_rfl) ⟨rfl, trivial⟩ rfl fun a S => s_store S rfl rfl rfl (s' := [.w4 [0, 0, 0, 0]]) .h3 T26 rfl rfl fun w S => c_end (wp_ret (x_thenR ?_))))
  obtain rfl := Option.some.inj h3
  exact b_ret1 (d := (.a4 [0, 0, 0, 0])) S rfl (resD_cell rfl .h3 T26 rfl rfl) fun ok => S.retX (Hx := []) hb _ _ (() : Unit) (.c1 (.c1 .n)) ok
 ·refine c_condF S rfl c1 (wp_skip (x_thenN (c_region (s_fieldAddr S rfl I30_4 T28 (by decide) rfl rfl fun a S => s_loadSl S rfl .h T28 (A := ch1.2.2.1) (len := (t1.1.2.2.2.2).length) (cap := ch1.2.2.2) rfl rfl fun a S => s_move S rfl rfl fun a S => ?_))))
  obtain ⟨c2, h4⟩ := chk_of h3; clear h3
  refine s_iaddrS S rfl rfl rfl underlying28 T66 c2.1 c2.2 rfl fun p1 a S => s_faddrP S (tF := (Ty.arr .u64 4)) (y := (gt t1.1.2.2.2.2 t2.1).2) rfl I66_1 T26 (by decide) (fun m h => (at_snd (at_0 h))) rfl fun a S => s_ldA S (fun (c : Unit) => [.w4 ((gt t1.1.2.2.2.2 t2.1).2)]) rfl T26 (fun _ => rfl) rfl fun ch3 a S => ?_
  refine s_store S rfl rfl rfl (s' := [.w4 ((gt t1.1.2.2.2.2 t2.1).2)]) .h3 T26 rfl rfl fun w S => c_end (wp_ret ?_)
  obtain rfl := Option.some.inj h4
  exact b_ret1 (d := (.a4 ((gt t1.1.2.2.2.2 t2.1).2))) S rfl (resD_cell rfl .h3 T26 rfl rfl) fun ok => S.retX (Hx := []) hb _ _ (() : Unit) (.c1 (.c1 .n)) ok
abbrev smithyref13_Find.Ty : Type := (List L30) → (List Int) → Option ((L30) × Bool)
def smithyref13_Find.Ctr (s : smithyref13_Find.Ty) : Prop := ∀ (x1 : List L30) (x2 : List Int) (ch_0_0 : Option Addr) (ch_0_1 : Nat) (r : (L30) × Bool), Ct (C := ((Option Addr) × Nat × (Option Addr) × Nat)) Try.prog 25 (s x1 x2 = some r) [] [(.q Y30 ch_0_0 ch_0_1 x1), (.agg [.b20 x2])] (fun ch => (.tup [(true, [.b20 r.1.1, .w r.1.2.1, .w4 r.1.2.2.1, .q yb ch.1 ch.2.1 r.1.2.2.2.1, .q Y66 ch.2.2.1 ch.2.2.2 r.1.2.2.2.2]), (false, [.b r.2])])) fun _ => []
def smithyref13_Find.j1 : Option ((L30) × Bool) := some (zt1, false)
def smithyref13_Find.b1 (x1 : List L30) (x2 : List Int) (rec1 : Int → Option ((L30) × Bool)) (y1 : Int) : Option ((L30) × Bool) := if (decide (y1 < ((x1).length : Int))) = true then (if (0 : Int) ≤ y1 ∧ y1 < ((x1).length : Int) then (if (decide ((gt x1 y1).1 = x2)) = true then (some (gt x1 y1, true)) else (rec1 (wr .i64 (y1 + 1)))) else none) else smithyref13_Find.j1
def smithyref13_Find.l1 (x1 : List L30) (x2 : List Int) : Nat → Int → Option ((L30) × Bool)
  | 0, _ => none
  | q + 1, y1 => smithyref13_Find.b1 x1 x2 (smithyref13_Find.l1 x1 x2 q) y1
def smithyref13_Find.f (k : Nat) (x1 : List L30) (x2 : List Int) : Option ((L30) × Bool) := smithyref13_Find.l1 x1 x2 k 0
theorem smithyref13_Find.ok (k : Nat) : smithyref13_Find.Ctr (smithyref13_Find.f k) := by
 intro x1 x2 ch_0_0 ch_0_1 r h0 mi w0 ok hm
 delta smithyref13_Find.f at h0
 refine c_enterZ (n := 25) ok hm func25 rfl rfl rfl fun b0 hb a S => c_region (s_box S rfl rfl rfl fun g1 a w S => s_alloc S Z30 rfl ⟨rfl, rfl, rfl, rfl, rfl, trivial⟩ rfl fun g2 a w S => s_assign S rfl rfl fun a S => c_end (wp_seq_k fun K1 hK1 => ?_))
 have j1 : ∀ m g9 a w, St 25 m b0 [(4, (.p g9))] [Res.cells g9 30 [.b20 z20, .w 0, .w4 [0, 0, 0, 0], .s none 0 0, .s none 0 0]] a w → smithyref13_Find.j1 = some r → K1 a w := by
  intro m g9 a w S h0
  delta smithyref13_Find.j1 at h0
  refine hK1 a w (c_region (s_bldS S (ds := []) (zs := [.b20 z20, .w 0, .w4 [0, 0, 0, 0], .s none 0 0, .s none 0 0]) (s' := [.b20 z20, .w 0, .w4 [0, 0, 0, 0], .s none 0 0, .s none 0 0]) rfl underlying30 P30 Z30 ⟨rfl, rfl, rfl, rfl, rfl, trivial⟩ rfl rfl fun a S => s_store S rfl rfl rfl (s' := [.b20 z20, .w 0, .w4 [0, 0, 0, 0], .s none 0 0, .s none 0 0]) .h T30 rfl rfl fun w S => s_assign S rfl rfl fun a S => c_end (wp_ret ?_)))
  replace S := S.cellro (s' := [.b20 z20, .w 0, .w4 [0, 0, 0, 0], .q yb none 0 ([] : List Int), .s none 0 0]) .h rfl (fun h => ⟨h.1, h.2.1, h.2.2.1, ok_nil, h.2.2.2.2.1, trivial⟩)
  replace S := S.cellro (s' := [.b20 z20, .w 0, .w4 [0, 0, 0, 0], .q yb none 0 ([] : List Int), .q Y66 none 0 ([] : List ((List Int) × (List Int)))]) .h rfl (fun h => ⟨h.1, h.2.1, h.2.2.1, h.2.2.2.1, ok_nil, trivial⟩)
  obtain rfl := Option.some.inj h0
  exact b_ret2 (d1 := (.agg [.b20 z20, .w 0, .w4 [0, 0, 0, 0], .q yb none 0 ([] : List Int), .q Y66 none 0 ([] : List ((List Int) × (List Int)))])) (d2 := (.b false)) S rfl (resD_cell rfl .h T30 rfl rfl) rfl fun ok1 ok2 => S.retX (Hx := []) hb _ _ ((none, 0, none, 0) : (Option Addr) × Nat × (Option Addr) × Nat) .nil ⟨ok1, ⟨ok2, trivial⟩, trivial⟩
 refine c_region (s_move S rfl rfl fun a S => s_lenS S rfl underlying32 rfl fun a S => s_move S rfl rfl fun a S => c_end (wp_block ?_))
 refine c_loop (fun q1 a w => ∃ m y1 g14 g15, St 25 m b0 [(9, (.i y1)), (8, (.i ((x1).length : Int))), (4, (.p g14)), (3, (.p g15)), (0, (.q Y30 ch_0_0 ch_0_1 x1))] [Res.cells g14 30 [.b20 z20, .w 0, .w4 [0, 0, 0, 0], .s none 0 0, .s none 0 0], Res.cells g15 23 [.b20 x2]] a w ∧ smithyref13_Find.l1 x1 x2 q1 y1 = some r) ?_ ?_ (k := k) ⟨_, 0, g2, g1, (S.sb rfl (.c0 (.c0 .n))), h0⟩
 ·rintro a w ⟨m, y1, g14, g15, S, h0⟩
  exact (nomatch (show (none : Option ((L30) × Bool)) = some r from h0))
 ·clear S h0
  rintro q1 a w ⟨m, y1, g14, g15, S, h0⟩
  replace h0 : smithyref13_Find.b1 x1 x2 (smithyref13_Find.l1 x1 x2 q1) y1 = some r := h0
  delta smithyref13_Find.b1 at h0
  refine c_region (s_bin S rfl rfl rfl rfl fun a S => c_end (wp_seq ?_))
  rcases ite_of h0 with ⟨c1, h1⟩ | ⟨c1, h1⟩
  ·refine c_condT S rfl c1 (wp_skip (x_thenN (wp_seq (wp_block (c_region (s_move S rfl rfl fun a S => s_assign S rfl rfl fun a S => c_end ?_))))))
   refine wp_seq (c_heldS S (.take 0 (.take 1 (.take 2 (.take 3 (.take 4 (.take 5 (.take 6 .done))))))) 7 [Res.cells g14 30 [.b20 z20, .w 0, .w4 [0, 0, 0, 0], .s none 0 0, .s none 0 0], Res.cells g15 23 [.b20 x2]] (.c0 (.c0 .n)) ⟨Res.stay_cells, Res.stay_cells, trivial⟩ [(6, (.i y1)), (3, (.p g15)), (0, (.q Y30 ch_0_0 ch_0_1 x1))] (subR rfl) (by kernel_rfl) (by kernel_rfl) ?_); clear S; intro w S CL hw le
   refine h_move S CL hw le (subR rfl) rfl rfl rfl trivial fun a S CL => h_move S CL hw le (subR rfl) rfl rfl rfl trivial fun a S CL => ?_
   obtain ⟨c2, h2⟩ := chk_of h1; clear h1
   refine h_iaddrS S CL hw le (subR rfl) rfl rfl rfl underlying32 T30 c2.1 c2.2 rfl rfl trivial fun p1 a S CL => h_faddrP S CL hw le (subR rfl) (tF := (Ty.arr .u8 20)) (y := (gt x1 y1).1) rfl I30_0 T23 (by decide) (fun m h => (at_fst (at_0 h))) rfl rfl trivial fun a S CL => h_ldA S CL hw le (subR rfl) (fun (c : Unit) => [.b20 ((gt x1 y1).1)]) rfl T23 (fun _ => rfl) rfl rfl trivial fun ch1 a S CL => ?_
   refine h_loada S CL hw le (subR rfl) rfl .h1 T23 (s' := [.b20 x2]) rfl rfl rfl trivial fun a S CL => h_eqa S CL hw le (subR rfl) rfl rfl underlying23 underlying5 T5 Q23 rfl rfl trivial fun a S CL => ?_
   refine h_done ?_; clear CL hw le
   refine x_thenN ?_
   rcases ite_of h2 with ⟨c3, h3⟩ | ⟨c3, h3⟩
   ·refine c_condT S rfl c3 (c_region (s_move S rfl rfl fun a S => s_move S rfl rfl fun a S => s_iaddrS S rfl rfl rfl underlying32 T30 c2.1 c2.2 rfl fun p2 a S => s_ldA S (fun (c : Unit × Unit × Unit × (Option Addr × Nat) × (Option Addr × Nat)) => [.b20 ((gt x1 y1).1), .w ((gt x1 y1).2.1), .w4 ((gt x1 y1).2.2.1), .q yb c.2.2.2.1.1 c.2.2.2.1.2 ((gt x1 y1).2.2.2.1), .q Y66 c.2.2.2.2.1 c.2.2.2.2.2 ((gt x1 y1).2.2.2.2)]) rfl T30 (fun _ => rfl) rfl fun ch2 a S => ?_))
    refine s_store S rfl rfl rfl (s' := [.b20 ((gt x1 y1).1), .w ((gt x1 y1).2.1), .w4 ((gt x1 y1).2.2.1), .q yb ch2.2.2.2.1.1 ch2.2.2.2.1.2 ((gt x1 y1).2.2.2.1), .q Y66 ch2.2.2.2.2.1 ch2.2.2.2.2.2 ((gt x1 y1).2.2.2.2)]) .h T30 rfl rfl fun w S => s_assign S rfl rfl fun a S => c_end (wp_ret (x_blockR (x_thenR (x_thenR (x_blockR (x_thenR ?_))))))
    obtain rfl := Option.some.inj h3
    exact b_ret2 (d1 := (.agg [.b20 ((gt x1 y1).1), .w ((gt x1 y1).2.1), .w4 ((gt x1 y1).2.2.1), .q yb ch2.2.2.2.1.1 ch2.2.2.2.1.2 ((gt x1 y1).2.2.2.1), .q Y66 ch2.2.2.2.2.1 ch2.2.2.2.2.2 ((gt x1 y1).2.2.2.2)])) (d2 := (.b true)) S rfl (resD_cell rfl .h T30 rfl rfl) rfl fun ok1 ok2 => S.retX (Hx := []) hb _ _ ((ch2.2.2.2.1.1, ch2.2.2.2.1.2, ch2.2.2.2.2.1, ch2.2.2.2.2.2) : (Option Addr) × Nat × (Option Addr) × Nat) .nil ⟨ok1, ⟨ok2, trivial⟩, trivial⟩
   ·refine c_condF S rfl c3 (wp_skip (x_blockN (x_thenN (c_region' (s_bin S rfl rfl rfl rfl fun a S => s_move S rfl rfl fun a S => c_end' (x_thenN ?_))))))
    exact ⟨_, (wr .i64 (y1 + 1)), g14, g15, (S.sb rfl (.c0 (.c0 .n))), h3⟩
  ·refine c_condF S rfl c1 (wp_exit (x_thenX (x_thenX (x_blockX (x_thenN ?_)))))
   exact j1 _ g14 a w (S.sub ⟨rfl, trivial⟩ (.c0 .n)) h1
abbrev smithyref13_Slot.Ty : Type := (L30) → (List Int) → Option ((List Int))
def smithyref13_Slot.Ctr (s : smithyref13_Slot.Ty) : Prop := ∀ (x1 : L30) (x2 : List Int) (ch_0_0 : Option Addr) (ch_0_1 : Nat) (ch_0_2 : Option Addr) (ch_0_3 : Nat) (r : (List Int)), Ct (C := Unit) Try.prog 26 (s x1 x2 = some r) [] [(.agg [.b20 x1.1, .w x1.2.1, .w4 x1.2.2.1, .q yb ch_0_0 ch_0_1 x1.2.2.2.1, .q Y66 ch_0_2 ch_0_3 x1.2.2.2.2]), (.a4 x2)] (fun _ => (.a4 r)) fun _ => []
def smithyref13_Slot.j1 : Option ((List Int)) := some [0, 0, 0, 0]
def smithyref13_Slot.b1 (x1 : L30) (x2 : List Int) (rec1 : Int → Option ((List Int))) (y1 : Int) : Option ((List Int)) := if (decide (y1 < ((x1.2.2.2.2).length : Int))) = true then (if (0 : Int) ≤ y1 ∧ y1 < ((x1.2.2.2.2).length : Int) then (if (decide ((gt x1.2.2.2.2 y1).1 = x2)) = true then (some ((gt x1.2.2.2.2 y1).2)) else (rec1 (wr .i64 (y1 + 1)))) else none) else smithyref13_Slot.j1
def smithyref13_Slot.l1 (x1 : L30) (x2 : List Int) : Nat → Int → Option ((List Int))
  | 0, _ => none
  | q + 1, y1 => smithyref13_Slot.b1 x1 x2 (smithyref13_Slot.l1 x1 x2 q) y1
def smithyref13_Slot.f (k : Nat) (x1 : L30) (x2 : List Int) : Option ((List Int)) := smithyref13_Slot.l1 x1 x2 k 0
theorem smithyref13_Slot.ok (k : Nat) : smithyref13_Slot.Ctr (smithyref13_Slot.f k) := by
 intro x1 x2 ch_0_0 ch_0_1 ch_0_2 ch_0_3 r h0 mi w0 ok hm
 delta smithyref13_Slot.f at h0
 refine c_enterZ (n := 28) ok hm func26 rfl rfl rfl fun b0 hb a S => c_region (s_box S rfl rfl rfl fun g1 a w S => s_box S rfl rfl rfl fun g2 a w S => s_alloc S Z26 rfl ⟨rfl, trivial⟩ rfl fun g3 a w S => c_end (wp_seq_k fun K1 hK1 => ?_))
 have j1 : ∀ m g13 a w, St 28 m b0 [(4, (.p g13))] [Res.cells g13 26 [.w4 [0, 0, 0, 0]]] a w → smithyref13_Slot.j1 = some r → K1 a w := by
  intro m g13 a w S h0
  delta smithyref13_Slot.j1 at h0
  refine hK1 a w (c_region (s_build S (ds := []) (dv := (.a4 [0, 0, 0, 0])) rfl (fun _ => by kernel_rfl) ⟨rfl, trivial⟩ rfl fun a S => s_store S rfl rfl rfl (s' := [.w4 [0, 0, 0, 0]]) .h T26 rfl rfl fun w S => c_end (wp_ret ?_)))
  obtain rfl := Option.some.inj h0
  exact b_ret1 (d := (.a4 [0, 0, 0, 0])) S rfl (resD_cell rfl .h T26 rfl rfl) (S.rt hb)
 refine c_region (s_fieldAddr S rfl I30_4 T28 (by decide) rfl rfl fun a S => s_loadSl S rfl .h2 T28 (A := ch_0_2) (len := (x1.2.2.2.2).length) (cap := ch_0_3) rfl rfl fun a S => s_lenS S rfl underlying28 rfl fun a S => s_move S rfl rfl fun a S => c_end (wp_block ?_))
 refine c_loop (fun q1 a w => ∃ m y1 g20 g21 g22, St 28 m b0 [(9, (.i y1)), (8, (.i ((x1.2.2.2.2).length : Int))), (4, (.p g20)), (3, (.p g21)), (2, (.p g22))] [Res.cells g20 26 [.w4 [0, 0, 0, 0]], Res.cells g21 26 [.w4 x2], Res.cells g22 30 [.b20 x1.1, .w x1.2.1, .w4 x1.2.2.1, .q yb ch_0_0 ch_0_1 x1.2.2.2.1, .q Y66 ch_0_2 ch_0_3 x1.2.2.2.2]] a w ∧ smithyref13_Slot.l1 x1 x2 q1 y1 = some r) ?_ ?_ (k := k) ⟨_, 0, g3, g2, g1, (S.sb rfl (.c0 (.c0 (.c0 .n)))), h0⟩
 ·rintro a w ⟨m, y1, g20, g21, g22, S, h0⟩
  exact (nomatch (show (none : Option ((List Int))) = some r from h0))
 ·clear S h0
  rintro q1 a w ⟨m, y1, g20, g21, g22, S, h0⟩
  replace h0 : smithyref13_Slot.b1 x1 x2 (smithyref13_Slot.l1 x1 x2 q1) y1 = some r := h0
  delta smithyref13_Slot.b1 at h0
  refine c_region (s_bin S rfl rfl rfl rfl fun a S => c_end (wp_seq ?_))
  rcases ite_of h0 with ⟨c1, h1⟩ | ⟨c1, h1⟩
  ·refine c_condT S rfl c1 (wp_skip (x_thenN (wp_seq (wp_block (c_region (s_move S rfl rfl fun a S => s_assign S rfl rfl fun a S => c_end ?_))))))
   refine wp_seq (c_heldS S (.take 0 (.take 1 (.take 2 (.take 3 (.take 4 (.take 5 (.take 6 (.take 7 .done)))))))) 8 [Res.cells g20 26 [.w4 [0, 0, 0, 0]], Res.cells g21 26 [.w4 x2], Res.cells g22 30 [.b20 x1.1, .w x1.2.1, .w4 x1.2.2.1, .q yb ch_0_0 ch_0_1 x1.2.2.2.1, .q Y66 ch_0_2 ch_0_3 x1.2.2.2.2]] (.c0 (.c0 (.c0 .n))) ⟨Res.stay_cells, Res.stay_cells, Res.stay_cells, trivial⟩ [(5, (.i y1)), (3, (.p g21)), (2, (.p g22))] (subR rfl) (by kernel_rfl) (by kernel_rfl) ?_); clear S; intro w S CL hw le
   refine h_fieldAddr S CL hw le (subR rfl) rfl I30_4 T28 (by decide) rfl rfl rfl trivial fun a S CL => h_loadSl S CL hw le (subR rfl) rfl .h2 T28 (A := ch_0_2) (len := (x1.2.2.2.2).length) (cap := ch_0_3) rfl rfl rfl trivial fun a S CL => h_move S CL hw le (subR rfl) rfl rfl rfl trivial fun a S CL => ?_
   obtain ⟨c2, h2⟩ := chk_of h1; clear h1
   refine h_iaddrS S CL hw le (subR rfl) rfl rfl rfl underlying28 T66 c2.1 c2.2 rfl rfl trivial fun p1 a S CL => h_faddrP S CL hw le (subR rfl) (tF := (Ty.arr .u64 4)) (y := (gt x1.2.2.2.2 y1).1) rfl I66_0 T26 (by decide) (fun m h => (at_fst (at_0 h))) rfl rfl trivial fun a S CL => h_ldA S CL hw le (subR rfl) (fun (c : Unit) => [.w4 ((gt x1.2.2.2.2 y1).1)]) rfl T26 (fun _ => rfl) rfl rfl trivial fun ch1 a S CL => ?_
   refine h_loada S CL hw le (subR rfl) rfl .h1 T26 (s' := [.w4 x2]) rfl rfl rfl trivial fun a S CL => h_eqa S CL hw le (subR rfl) rfl rfl underlying26 underlying24 T24 Q26 rfl rfl trivial fun a S CL => ?_
   refine h_done ?_; clear CL hw le
   refine x_thenN ?_
   rcases ite_of h2 with ⟨c3, h3⟩ | ⟨c3, h3⟩
   ·refine c_condT S rfl c3 (c_region (s_fieldAddr S rfl I30_4 T28 (by decide) rfl rfl fun a S => s_loadSl S rfl .h2 T28 (A := ch_0_2) (len := (x1.2.2.2.2).length) (cap := ch_0_3) rfl rfl fun a S => s_move S rfl rfl fun a S => s_iaddrS S rfl rfl rfl underlying28 T66 c2.1 c2.2 rfl fun p2 a S => s_faddrP S (tF := (Ty.arr .u64 4)) (y := (gt x1.2.2.2.2 y1).2) rfl I66_1 T26 (by decide) (fun m h => (at_snd (at_0 h))) rfl fun a S => s_ldA S (fun (c : Unit) => [.w4 ((gt x1.2.2.2.2 y1).2)]) rfl T26 (fun _ => rfl) rfl fun ch2 a S => ?_))
    refine s_store S rfl rfl rfl (s' := [.w4 ((gt x1.2.2.2.2 y1).2)]) .h T26 rfl rfl fun w S => c_end (wp_ret (x_blockR (x_thenR (x_thenR (x_blockR (x_thenR ?_))))))
    obtain rfl := Option.some.inj h3
    exact b_ret1 (d := (.a4 ((gt x1.2.2.2.2 y1).2))) S rfl (resD_cell rfl .h T26 rfl rfl) (S.rt hb)
   ·refine c_condF S rfl c3 (wp_skip (x_blockN (x_thenN (c_region' (s_bin S rfl rfl rfl rfl fun a S => s_move S rfl rfl fun a S => c_end' (x_thenN ?_))))))
    exact ⟨_, (wr .i64 (y1 + 1)), g20, g21, g22, (S.sb rfl (.c0 (.c0 (.c0 .n)))), h3⟩
  ·refine c_condF S rfl c1 (wp_exit (x_thenX (x_thenX (x_blockX (x_thenN ?_)))))
   exact j1 _ g20 a w (S.sub ⟨rfl, trivial⟩ (.c0 .n)) h1
end
end GW
