import Derived.Test.YtldbgghcailgfaaProg
import Derived.Test.YtldbgghcailgfaaGB
set_option linter.unusedVariables false
set_option linter.unusedSimpArgs false
set_option maxRecDepth 10000
set_option maxHeartbeats 4000000
namespace GW
open Go Go.RowKit Go.Proofs Go.Proofs.Try
noncomputable section
abbrev smithyref15_Cache_At.Ty : Type := ((List L34) × (List ((List Int) × Int))) → (List Int) → Option Int
def smithyref15_Cache_At.Ctr (s : smithyref15_Cache_At.Ty) : Prop := ∀ (x1 : (List L34) × (List ((List Int) × Int))) (x2 : List Int) (ch_0_0 : Option Addr) (ch_0_1 : Nat) (ch_0_2 : Option Addr) (ch_0_3 : Nat) (r : Int), Ct (C := Unit) Try.prog 24 (s x1 x2 = some r) [] [(.agg [.q Y34 ch_0_0 ch_0_1 x1.1, .q Y66 ch_0_2 ch_0_3 x1.2]), (.agg [.b20 x2])] (fun _ => (.i r)) fun _ => []
def smithyref15_Cache_At.j1 : Option Int := some (-1)
def smithyref15_Cache_At.b1 (x1 : (List L34) × (List ((List Int) × Int))) (x2 : List Int) (rec1 : Int → Option Int) (y1 : Int) : Option Int := if (decide (y1 < ((x1.2).length : Int))) = true then (if (0 : Int) ≤ y1 ∧ y1 < ((x1.2).length : Int) then (if (decide ((gt x1.2 y1).1 = x2)) = true then (some y1) else (rec1 (wr .i64 (y1 + 1)))) else none) else smithyref15_Cache_At.j1
def smithyref15_Cache_At.l1 (x1 : (List L34) × (List ((List Int) × Int))) (x2 : List Int) : Nat → Int → Option Int
  | 0, _ => none
  | q + 1, y1 => smithyref15_Cache_At.b1 x1 x2 (smithyref15_Cache_At.l1 x1 x2 q) y1
def smithyref15_Cache_At.f (k : Nat) (x1 : (List L34) × (List ((List Int) × Int))) (x2 : List Int) : Option Int := smithyref15_Cache_At.l1 x1 x2 k 0
theorem smithyref15_Cache_At.ok (k : Nat) : smithyref15_Cache_At.Ctr (smithyref15_Cache_At.f k) := by
 intro x1 x2 ch_0_0 ch_0_1 ch_0_2 ch_0_3 r h0 mi w0 ok hm
 delta smithyref15_Cache_At.f at h0
 refine c_enterZ (n := 22) ok hm func24 rfl rfl rfl fun b0 hb a S => c_region (s_box S rfl rfl rfl fun g1 a w S => s_box S rfl rfl rfl fun g2 a w S => s_assign S rfl rfl fun a S => c_end (wp_seq_k fun K1 hK1 => ?_))
 have j1 : ∀ m a w, St 22 m b0 [] [] a w → smithyref15_Cache_At.j1 = some r → K1 a w := by
  intro m a w S h0
  delta smithyref15_Cache_At.j1 at h0
  refine hK1 a w (c_region (s_assign S rfl rfl fun a S => c_end (wp_ret ?_)))
  obtain rfl := Option.some.inj h0
  exact b_ret1 (d := (.i (-1))) S rfl rfl (S.rt hb)
 refine c_region (s_fieldAddr S rfl I51_1 T49 (by decide) rfl rfl fun a S => s_loadSl S rfl .h1 T49 (A := ch_0_2) (len := (x1.2).length) (cap := ch_0_3) rfl rfl fun a S => s_lenS S rfl underlying49 rfl fun a S => s_move S rfl rfl fun a S => c_end (wp_block ?_))
 refine c_loop (fun q1 a w => ∃ m y1 g13 g14, St 22 m b0 [(9, (.i y1)), (8, (.i ((x1.2).length : Int))), (3, (.p g13)), (2, (.p g14))] [Res.cells g13 28 [.b20 x2], Res.cells g14 51 [.q Y34 ch_0_0 ch_0_1 x1.1, .q Y66 ch_0_2 ch_0_3 x1.2]] a w ∧ smithyref15_Cache_At.l1 x1 x2 q1 y1 = some r) ?_ ?_ (k := k) ⟨_, 0, g2, g1, (S.sb rfl (.c0 (.c0 .n))), h0⟩
 ·rintro a w ⟨m, y1, g13, g14, S, h0⟩
  exact (nomatch (show (none : Option Int) = some r from h0))
 ·clear S h0
  rintro q1 a w ⟨m, y1, g13, g14, S, h0⟩
  replace h0 : smithyref15_Cache_At.b1 x1 x2 (smithyref15_Cache_At.l1 x1 x2 q1) y1 = some r := h0
  delta smithyref15_Cache_At.b1 at h0
  refine c_region (s_bin S rfl rfl rfl rfl fun a S => c_end (wp_seq ?_))
  rcases ite_of h0 with ⟨c1, h1⟩ | ⟨c1, h1⟩
  ·refine c_condT S rfl c1 (wp_skip (x_thenN (wp_seq (wp_block (c_region (s_move S rfl rfl fun a S => s_assign S rfl rfl fun a S => c_end ?_))))))
   refine wp_seq (c_heldS S (.take 0 (.take 1 (.take 2 (.take 3 (.take 4 (.take 5 (.take 6 (.take 7 .done)))))))) 8 [Res.cells g13 28 [.b20 x2], Res.cells g14 51 [.q Y34 ch_0_0 ch_0_1 x1.1, .q Y66 ch_0_2 ch_0_3 x1.2]] (.c0 (.c0 .n)) ⟨Res.stay_cells, Res.stay_cells, trivial⟩ [(5, (.i y1)), (3, (.p g13)), (2, (.p g14))] (subR rfl) (by kernel_rfl) (by kernel_rfl) ?_); clear S; intro w S CL hw le
   refine h_fieldAddr S CL hw le (subR rfl) rfl I51_1 T49 (by decide) rfl rfl rfl trivial fun a S CL => h_loadSl S CL hw le (subR rfl) rfl .h1 T49 (A := ch_0_2) (len := (x1.2).length) (cap := ch_0_3) rfl rfl rfl trivial fun a S CL => h_move S CL hw le (subR rfl) rfl rfl rfl trivial fun a S CL => ?_
   obtain ⟨c2, h2⟩ := chk_of h1; clear h1
   refine h_iaddrS S CL hw le (subR rfl) rfl rfl rfl underlying49 T66 c2.1 c2.2 rfl rfl trivial fun p1 a S CL => h_faddrP S CL hw le (subR rfl) (tF := (Ty.arr .u8 20)) (y := (gt x1.2 y1).1) rfl I66_0 T28 (by decide) (fun m h => (at_fst (at_0 h))) rfl rfl trivial fun a S CL => h_ldA S CL hw le (subR rfl) (fun (c : Unit) => [.b20 ((gt x1.2 y1).1)]) rfl T28 (fun _ => rfl) rfl rfl trivial fun ch1 a S CL => ?_
   refine h_loada S CL hw le (subR rfl) rfl .h T28 (s' := [.b20 x2]) rfl rfl rfl trivial fun a S CL => h_eqa S CL hw le (subR rfl) rfl rfl underlying28 underlying5 T5 Q28 rfl rfl trivial fun a S CL => ?_
   refine h_done ?_; clear CL hw le
   refine x_thenN ?_
   rcases ite_of h2 with ⟨c3, h3⟩ | ⟨c3, h3⟩
   ·refine c_condT S rfl c3 (c_region (s_move S rfl rfl fun a S => s_assign S rfl rfl fun a S => c_end (wp_ret (x_blockR (x_thenR (x_thenR (x_blockR (x_thenR ?_))))))))
    obtain rfl := Option.some.inj h3
    exact b_ret1 (d := (.i y1)) S rfl rfl (S.rt hb)
   ·refine c_condF S rfl c3 (wp_skip (x_blockN (x_thenN (c_region' (s_bin S rfl rfl rfl rfl fun a S => s_move S rfl rfl fun a S => c_end' (x_thenN ?_))))))
    exact ⟨_, (wr .i64 (y1 + 1)), g13, g14, (S.sb rfl (.c0 (.c0 .n))), h3⟩
  ·refine c_condF S rfl c1 (wp_exit (x_thenX (x_thenX (x_blockX (x_thenN ?_)))))
   exact j1 _ a w (S.sub trivial .nil) h1
abbrev smithyref15_Cache_Want.Ty : Type := ((List L34) × (List ((List Int) × Int))) → (List Int) → Option (Int × ((List L34) × (List ((List Int) × Int))))
def smithyref15_Cache_Want.Ctr (s : smithyref15_Cache_Want.Ty) : Prop := ∀ (x1 : (List L34) × (List ((List Int) × Int))) (x2 : List Int) (ch_0_0 : Option Addr) (ch_0_1 : Nat) (ch_0_2 : Option Addr) (ch_0_3 : Nat) (r : Int × ((List L34) × (List ((List Int) × Int)))), Ct (C := ((Option Addr) × Nat × (Option Addr) × Nat)) Try.prog 19 (s x1 x2 = some r) [] [(.agg [.q Y34 ch_0_0 ch_0_1 x1.1, .q Y66 ch_0_2 ch_0_3 x1.2]), (.agg [.b20 x2])] (fun ch => (.tup [(false, [.one (.int .u8 r.1)]), (true, [.q Y34 ch.1 ch.2.1 r.2.1, .q Y66 ch.2.2.1 ch.2.2.2 r.2.2])])) fun _ => []
def smithyref15_Cache_Want.f (k : Nat) (x1 : (List L34) × (List ((List Int) × Int))) (x2 : List Int) : Option (Int × ((List L34) × (List ((List Int) × Int)))) := (smithyref13_Find.f k x1.1 x2).bind fun t1 => (if t1.2 = true then (some (1, x1)) else ((smithyref15_Cache_At.f k x1 x2).bind fun t2 => (if (decide (0 ≤ t2)) = true then (some (2, x1)) else (if ((([] : List ((List Int) × Int))).length + (x1.2).length) * 32 ≤ 140737488355328 then (if ((([] : List ((List Int) × Int)) ++ x1.2).length + ([(x2, 0)]).length) * 32 ≤ 140737488355328 then (some (3, (x1.1, (([] : List ((List Int) × Int)) ++ x1.2) ++ [(x2, 0)]))) else none) else none))))
theorem smithyref15_Cache_Want.ok (k : Nat) : smithyref15_Cache_Want.Ctr (smithyref15_Cache_Want.f k) := by
 intro x1 x2 ch_0_0 ch_0_1 ch_0_2 ch_0_3 r h0 mi w0 ok hm
 delta smithyref15_Cache_Want.f at h0
 refine c_enterZ (n := 36) ok hm func19 rfl rfl rfl fun b0 hb a S => c_region (s_box S rfl rfl rfl fun g1 a w S => s_box S rfl rfl rfl fun g2 a w S => s_assign S rfl rfl fun a S => s_alloc S Z51 rfl ⟨rfl, rfl, trivial⟩ rfl fun g3 a w S => c_end (c_region (s_fieldAddr S rfl I51_0 T22 (by decide) rfl rfl fun a S => s_loadSl S rfl .h2 T22 (A := ch_0_0) (len := (x1.1).length) (cap := ch_0_1) rfl rfl fun a S => s_loada S rfl .h1 T28 (s' := [.b20 x2]) rfl rfl fun a S => bindX h0 fun t1 et1 h1 => s_callP S _ N11 rfl rfl (smithyref13_Find.ok k x1.1 x2 ch_0_0 ch_0_1 t1 et1 _ _) fun ch1 m le1 a w S => s_move S rfl rfl fun a S => s_extract S rfl rfl rfl rfl fun a S => s_extract S rfl rfl rfl rfl fun a S => s_alloc S Z34 rfl ⟨rfl, rfl, rfl, rfl, rfl, trivial⟩ rfl fun g4 a w S => s_store S rfl rfl rfl (s' := [.b20 t1.1.1, .w t1.1.2.1, .w4 t1.1.2.2.1, .q yb ch1.1 ch1.2.1 t1.1.2.2.2.1, .q Y71 ch1.2.2.1 ch1.2.2.2 t1.1.2.2.2.2]) .h T34 rfl rfl fun w S => s_assign S rfl rfl fun a S => c_end (wp_seq (c_region (s_move S rfl rfl fun a S => c_end ?_))))))
 rcases ite_of h1 with ⟨c1, h2⟩ | ⟨c1, h2⟩
 ·refine c_condT S rfl c1 ?_
  refine wp_seq (c_heldS S (.take 0 (.take 1 (.alts (.run 2 false .done .nil)))) 2 [Res.cells g4 34 [.b20 t1.1.1, .w t1.1.2.1, .w4 t1.1.2.2.1, .q yb ch1.1 ch1.2.1 t1.1.2.2.2.1, .q Y71 ch1.2.2.1 ch1.2.2.2 t1.1.2.2.2.2], Res.cells g3 51 [.s none 0 0, .s none 0 0], Res.cells g2 28 [.b20 x2], Res.cells g1 51 [.q Y34 ch_0_0 ch_0_1 x1.1, .q Y66 ch_0_2 ch_0_3 x1.2]] (.c0 (.c0 (.c0 (.c0 .n)))) ⟨Res.stay_cells, Res.stay_cells, Res.stay_cells, Res.stay_cells, trivial⟩ [(2, (.p g1))] ⟨rfl, trivial⟩ (by kernel_rfl) (by kernel_rfl) ?_); clear S; intro w S CL hw le
  refine h_loada S CL hw le ⟨rfl, trivial⟩ rfl .h3 T51 (s' := [.q Y34 ch_0_0 ch_0_1 x1.1, .q Y66 ch_0_2 ch_0_3 x1.2]) rfl rfl rfl trivial fun a S CL => h_assign S CL hw le (subR rfl) rfl rfl rfl trivial fun a S CL => h_run' S rfl trivial (s_store S rfl rfl rfl (s' := [.q Y34 ch_0_0 ch_0_1 x1.1, .q Y66 ch_0_2 ch_0_3 x1.2]) .h1 T51 rfl rfl fun w S => ?_)
  refine h_back ⟨fun h => (nomatch h), ?_⟩
  refine h_done ?_; clear CL hw le
  refine x_thenN (wp_ret (x_thenR ?_))
  obtain rfl := Option.some.inj h2
  exact b_ret2 (d1 := (.v (.int .u8 1))) (d2 := (.agg [.q Y34 ch_0_0 ch_0_1 x1.1, .q Y66 ch_0_2 ch_0_3 x1.2])) S rfl rfl (resD_cell rfl .h1 T51 rfl rfl) fun ok1 ok2 => S.retX (Hx := []) hb _ _ ((ch_0_0, ch_0_1, ch_0_2, ch_0_3) : (Option Addr) × Nat × (Option Addr) × Nat) .nil ⟨⟨ok1, trivial⟩, ok2, trivial⟩
 ·refine c_condF S rfl c1 (wp_skip (x_thenN (wp_seq (c_region (s_loada S rfl .h3 T51 (s' := [.q Y34 ch_0_0 ch_0_1 x1.1, .q Y66 ch_0_2 ch_0_3 x1.2]) rfl rfl fun a S => s_loada S rfl .h2 T28 (s' := [.b20 x2]) rfl rfl fun a S => bindX h2 fun t2 et2 h3 => s_callP S _ N24 rfl rfl (smithyref15_Cache_At.ok k x1 x2 ch_0_0 ch_0_1 ch_0_2 ch_0_3 t2 et2 _ _) fun ch2 m le1 a w S => s_bin S rfl rfl rfl rfl fun a S => c_end ?_)))))
  rcases ite_of h3 with ⟨c2, h4⟩ | ⟨c2, h4⟩
  ·refine c_condT S rfl c2 ?_
   refine wp_seq (c_heldS S (.take 0 (.take 1 (.alts (.run 2 false .done .nil)))) 2 [Res.cells g4 34 [.b20 t1.1.1, .w t1.1.2.1, .w4 t1.1.2.2.1, .q yb ch1.1 ch1.2.1 t1.1.2.2.2.1, .q Y71 ch1.2.2.1 ch1.2.2.2 t1.1.2.2.2.2], Res.cells g3 51 [.s none 0 0, .s none 0 0], Res.cells g2 28 [.b20 x2], Res.cells g1 51 [.q Y34 ch_0_0 ch_0_1 x1.1, .q Y66 ch_0_2 ch_0_3 x1.2]] (.c0 (.c0 (.c0 (.c0 .n)))) ⟨Res.stay_cells, Res.stay_cells, Res.stay_cells, Res.stay_cells, trivial⟩ [(2, (.p g1))] ⟨rfl, trivial⟩ (by kernel_rfl) (by kernel_rfl) ?_); clear S; intro w S CL hw le
   refine h_loada S CL hw le ⟨rfl, trivial⟩ rfl .h3 T51 (s' := [.q Y34 ch_0_0 ch_0_1 x1.1, .q Y66 ch_0_2 ch_0_3 x1.2]) rfl rfl rfl trivial fun a S CL => h_assign S CL hw le (subR rfl) rfl rfl rfl trivial fun a S CL => h_run' S rfl trivial (s_store S rfl rfl rfl (s' := [.q Y34 ch_0_0 ch_0_1 x1.1, .q Y66 ch_0_2 ch_0_3 x1.2]) .h1 T51 rfl rfl fun w S => ?_)
   refine h_back ⟨fun h => (nomatch h), ?_⟩
   refine h_done ?_; clear CL hw le
   refine x_thenN (wp_ret (x_thenR ?_))
   obtain rfl := Option.some.inj h4
   exact b_ret2 (d1 := (.v (.int .u8 2))) (d2 := (.agg [.q Y34 ch_0_0 ch_0_1 x1.1, .q Y66 ch_0_2 ch_0_3 x1.2])) S rfl rfl (resD_cell rfl .h1 T51 rfl rfl) fun ok1 ok2 => S.retX (Hx := []) hb _ _ ((ch_0_0, ch_0_1, ch_0_2, ch_0_3) : (Option Addr) × Nat × (Option Addr) × Nat) .nil ⟨⟨ok1, trivial⟩, ok2, trivial⟩
  ·refine c_condF S rfl c2 (wp_skip (x_thenN (c_region (s_bldSl S (ty' := Y66) (ds := []) (z := (z20, 0)) (c0 := ((), ())) (ys := ([] : List ((List Int) × Int))) (cs := []) rfl underlying49 J66 Z66 rfl ⟨rfl, rfl, trivial⟩ rfl rfl rfl rfl rfl rfl fun g5 a w S => s_assign S rfl rfl fun a S => c_end (c_region (s_move S rfl rfl fun a S => s_fieldAddr S rfl I51_1 T49 (by decide) rfl rfl fun a S => s_loadSl S rfl .h4 T49 (A := ch_0_2) (len := (x1.2).length) (cap := ch_0_3) rfl rfl fun a S => ?_))))))
   obtain ⟨c3, h5⟩ := chk_of h4; clear h4
   refine s_app S (k2 := ((x1.2).length)) (ys := x1.2) rfl (fun _ _ => .h) rfl rfl rfl (RdS.src (S.get 26 (.q Y66 ch_0_2 ch_0_3 x1.2) rfl).2.2.2.1 (by decide) S.frz) underlying49 J66 c3 rfl fun A1 cp1 a w S => s_assign S rfl rfl fun a S => c_end (c_region (s_move S rfl rfl fun a S => s_loada S rfl .h3 T28 (s' := [.b20 x2]) rfl rfl fun a S => s_bldS S (ds := [(0, (.agg [.b20 x2]))]) (zs := [.b20 z20, .i 0]) (s' := [.b20 x2, .i 0]) rfl underlying66 P66 Z66 ⟨rfl, rfl, trivial⟩ rfl rfl fun a S => s_bldSl S (ty' := Y66) (ds := [(0, (.agg [.b20 x2, .i 0]))]) (z := (z20, 0)) (c0 := ((), ())) (ys := [(x2, 0)]) (cs := [((), ())]) rfl underlying49 J66 Z66 rfl ⟨rfl, rfl, trivial⟩ rfl rfl rfl rfl rfl rfl fun g6 a w S => ?_))
   obtain ⟨c4, h6⟩ := chk_of h5; clear h5
   refine s_app S (k2 := 1) (ys := [(x2, 0)]) rfl (fun _ _ => .h1) rfl rfl (S.holds _ (Pull.mem .h).1).1 (Res.row.src (S.holds _ (Pull.mem .h).1)) underlying49 J66 c4 rfl fun A2 cp2 a w S => s_assign S rfl rfl fun a S => c_end (c_region (s_move S rfl rfl fun a S => s_fieldAddr S rfl I51_1 T49 (by decide) rfl rfl fun a S => s_store S rfl rfl rfl (s' := [.q Y34 ch_0_0 ch_0_1 x1.1, .s A2 ((0 + ((x1.2).length)) + 1) cp2]) .h5 T49 rfl rfl fun w S => c_end ?_))
   refine wp_seq (c_heldS S (.take 0 (.take 1 (.alts (.run 2 false .done .nil)))) 2 [Res.row Y66 66 (ad g6) 1 1 [(x2, 0)], Res.row Y66 66 A2 ((0 + ((x1.2).length)) + 1) cp2 ((([] : List ((List Int) × Int)) ++ x1.2) ++ [(x2, 0)]), Res.cells g4 34 [.b20 t1.1.1, .w t1.1.2.1, .w4 t1.1.2.2.1, .q yb ch1.1 ch1.2.1 t1.1.2.2.2.1, .q Y71 ch1.2.2.1 ch1.2.2.2 t1.1.2.2.2.2], Res.cells g3 51 [.s none 0 0, .s none 0 0], Res.cells g2 28 [.b20 x2], Res.cells g1 51 [.q Y34 ch_0_0 ch_0_1 x1.1, .s A2 ((0 + ((x1.2).length)) + 1) cp2]] (.c0 (.c0 (.c0 (.c0 (.c0 (.c0 .n)))))) ⟨Res.stay_row (flat_prod flat_arr flat_int), Res.stay_row (flat_prod flat_arr flat_int), Res.stay_cells, Res.stay_cells, Res.stay_cells, Res.stay_cells, trivial⟩ [(2, (.p g1))] ⟨rfl, trivial⟩ (by kernel_rfl) (by kernel_rfl) ?_); clear S; intro w S CL hw le
   refine h_loada S CL hw le ⟨rfl, trivial⟩ rfl .h5 T51 (s' := [.q Y34 ch_0_0 ch_0_1 x1.1, .s A2 ((0 + ((x1.2).length)) + 1) cp2]) rfl rfl rfl trivial fun a S CL => h_assign S CL hw le (subR rfl) rfl rfl rfl trivial fun a S CL => h_run' S rfl trivial (s_store S rfl rfl rfl (s' := [.q Y34 ch_0_0 ch_0_1 x1.1, .s A2 ((0 + ((x1.2).length)) + 1) cp2]) .h3 T51 rfl rfl fun w S => ?_)
   refine h_back ⟨fun h => (nomatch h), ?_⟩
   refine h_done ?_; clear CL hw le
   refine x_thenN (wp_ret ?_)
   replace S := S.rowfro .h1
   obtain ⟨m, le1, S, hro⟩ := S
   replace S := S.slot (u := 35) (d' := (.agg [.q Y34 ch_0_0 ch_0_1 x1.1, .q Y66 A2 cp2 ((([] : List ((List Int) × Int)) ++ x1.2) ++ [(x2, 0)])])) rfl (by simp [D.val, pd, cellsOf, Seg.cells, hro.2.1]) (by have h := (S.get 35 (.agg [.q Y34 ch_0_0 ch_0_1 x1.1, .s A2 ((0 + ((x1.2).length)) + 1) cp2]) rfl).2; exact ⟨h.1, ⟨by have := hro.2.2.1; omega, hro.2.2.2, hro.1, RdS.mono _ _ _⟩, trivial⟩)
   replace S := S.slotro (u := 33) rfl hro
   replace S := S.slotro (u := 8) rfl hro
   replace S := S.slotro (u := 32) rfl hro
   replace S := S.cellro (s' := [.q Y34 ch_0_0 ch_0_1 x1.1, .q Y66 A2 cp2 ((([] : List ((List Int) × Int)) ++ x1.2) ++ [(x2, 0)])]) .h2 (by simp [cellsOf, Seg.cells, hro.2.1]) (fun h => ⟨h.1, ⟨by have := hro.2.2.1; omega, hro.2.2.2, hro.1, RdS.mono _ _ _⟩, trivial⟩)
   replace S := S.cellro (s' := [.q Y34 ch_0_0 ch_0_1 x1.1, .q Y66 A2 cp2 ((([] : List ((List Int) × Int)) ++ x1.2) ++ [(x2, 0)])]) .h4 (by simp [cellsOf, Seg.cells, hro.2.1]) (fun h => ⟨h.1, ⟨by have := hro.2.2.1; omega, hro.2.2.2, hro.1, RdS.mono _ _ _⟩, trivial⟩)
   obtain rfl := Option.some.inj h6
   exact b_ret2 (d1 := (.v (.int .u8 3))) (d2 := (.agg [.q Y34 ch_0_0 ch_0_1 x1.1, .q Y66 A2 cp2 ((([] : List ((List Int) × Int)) ++ x1.2) ++ [(x2, 0)])])) S rfl rfl (resD_cell rfl .h2 T51 rfl rfl) fun ok1 ok2 => S.retX (Hx := []) hb _ _ ((ch_0_0, ch_0_1, A2, cp2) : (Option Addr) × Nat × (Option Addr) × Nat) .nil ⟨⟨ok1, trivial⟩, ok2, trivial⟩
abbrev smithyref15_Cache_without.Ty : Type := ((List L34) × (List ((List Int) × Int))) → Int → Option (((List L34) × (List ((List Int) × Int))))
def smithyref15_Cache_without.Ctr (s : smithyref15_Cache_without.Ty) : Prop := ∀ (x1 : (List L34) × (List ((List Int) × Int))) (x2 : Int) (ch_0_0 : Option Addr) (ch_0_1 : Nat) (ch_0_2 : Option Addr) (ch_0_3 : Nat) (r : ((List L34) × (List ((List Int) × Int)))), Ct (C := ((Option Addr) × Nat × (Option Addr) × Nat × Nat)) Try.prog 36 (s x1 x2 = some r) [] [(.agg [.q Y34 ch_0_0 ch_0_1 x1.1, .q Y66 ch_0_2 ch_0_3 x1.2]), (.i x2)] (fun ch => (.agg [.q Y34 ch.1 ch.2.1 r.1, .s ch.2.2.1 ch.2.2.2.1 ch.2.2.2.2])) fun ch => [Res.row Y66 66 ch.2.2.1 ch.2.2.2.1 ch.2.2.2.2 r.2]
def smithyref15_Cache_without.j1 (x1 : (List L34) × (List ((List Int) × Int))) (y1 : List ((List Int) × Int)) : Option (((List L34) × (List ((List Int) × Int)))) := some (x1.1, y1)
def smithyref15_Cache_without.j2 (y6 : Int) (rec1 : Int → (List ((List Int) × Int)) → Option (((List L34) × (List ((List Int) × Int))))) (y8 : List ((List Int) × Int)) : Option (((List L34) × (List ((List Int) × Int)))) := rec1 (wr .i64 (y6 + 1)) y8
def smithyref15_Cache_without.b1 (x1 : (List L34) × (List ((List Int) × Int))) (x2 : Int) (rec1 : Int → (List ((List Int) × Int)) → Option (((List L34) × (List ((List Int) × Int))))) (y6 : Int) (y7 : List ((List Int) × Int)) : Option (((List L34) × (List ((List Int) × Int)))) := if (decide (y6 < ((x1.2).length : Int))) = true then (if (y6 != x2) = true then (if (0 : Int) ≤ y6 ∧ y6 < ((x1.2).length : Int) then (if ((y7).length + ([gt x1.2 y6]).length) * 32 ≤ 140737488355328 then (smithyref15_Cache_without.j2 y6 rec1 (y7 ++ [gt x1.2 y6])) else none) else none) else (smithyref15_Cache_without.j2 y6 rec1 y7)) else (smithyref15_Cache_without.j1 x1 y7)
def smithyref15_Cache_without.l1 (x1 : (List L34) × (List ((List Int) × Int))) (x2 : Int) : Nat → Int → (List ((List Int) × Int)) → Option (((List L34) × (List ((List Int) × Int))))
  | 0, _, _ => none
  | q + 1, y6, y7 => smithyref15_Cache_without.b1 x1 x2 (smithyref15_Cache_without.l1 x1 x2 q) y6 y7
def smithyref15_Cache_without.f (k : Nat) (x1 : (List L34) × (List ((List Int) × Int))) (x2 : Int) : Option (((List L34) × (List ((List Int) × Int)))) := smithyref15_Cache_without.l1 x1 x2 k 0 ([] : List ((List Int) × Int))
theorem smithyref15_Cache_without.ok (k : Nat) : smithyref15_Cache_without.Ctr (smithyref15_Cache_without.f k) := by
 intro x1 x2 ch_0_0 ch_0_1 ch_0_2 ch_0_3 r h0 mi w0 ok hm
 delta smithyref15_Cache_without.f at h0
 refine c_enterZ (n := 29) ok hm func36 rfl rfl rfl fun b0 hb a S => c_region (s_box S rfl rfl rfl fun g1 a w S => s_alloc S Z51 rfl ⟨rfl, rfl, trivial⟩ rfl fun g2 a w S => c_end (c_region (s_bldSl S (ty' := Y66) (ds := []) (z := (z20, 0)) (c0 := ((), ())) (ys := ([] : List ((List Int) × Int))) (cs := []) rfl underlying49 J66 Z66 rfl ⟨rfl, rfl, trivial⟩ rfl rfl rfl rfl rfl rfl fun g3 a w S => s_assign S rfl rfl fun a S => c_end (wp_seq_k fun K1 hK1 => ?_))))
 have j1 : ∀ m A1 nn1 cp1 y1 g16 g17 a w, St 29 m b0 [(5, (.s A1 nn1 cp1)), (4, (.p g16)), (2, (.p g17))] [Res.row Y66 66 A1 nn1 cp1 y1, Res.cells g16 51 [.s none 0 0, .s none 0 0], Res.cells g17 51 [.q Y34 ch_0_0 ch_0_1 x1.1, .q Y66 ch_0_2 ch_0_3 x1.2]] a w → smithyref15_Cache_without.j1 x1 y1 = some r → K1 a w := by
  intro m A1 nn1 cp1 y1 g16 g17 a w S h0
  delta smithyref15_Cache_without.j1 at h0
  refine hK1 a w (c_region (s_move S rfl rfl fun a S => s_fieldAddr S rfl I51_1 T49 (by decide) rfl rfl fun a S => s_store S rfl rfl rfl (s' := [.q Y34 ch_0_0 ch_0_1 x1.1, .s A1 nn1 cp1]) .h2 T49 rfl rfl fun w S => c_end (c_region (s_loada S rfl .h2 T51 (s' := [.q Y34 ch_0_0 ch_0_1 x1.1, .s A1 nn1 cp1]) rfl rfl fun a S => s_store S rfl rfl rfl (s' := [.q Y34 ch_0_0 ch_0_1 x1.1, .s A1 nn1 cp1]) .h1 T51 rfl rfl fun w S => c_end (wp_ret ?_)))))
  obtain rfl := Option.some.inj h0
  exact b_ret1 (d := (.agg [.q Y34 ch_0_0 ch_0_1 x1.1, .s A1 nn1 cp1])) S rfl (resD_cell rfl .h1 T51 rfl rfl) fun ok => S.retX (Hx := []) hb _ _ ((ch_0_0, ch_0_1, A1, nn1, cp1) : (Option Addr) × Nat × (Option Addr) × Nat × Nat) (.c0 .n) ok
 refine c_region (s_fieldAddr S rfl I51_1 T49 (by decide) rfl rfl fun a S => s_loadSl S rfl .h2 T49 (A := ch_0_2) (len := (x1.2).length) (cap := ch_0_3) rfl rfl fun a S => s_lenS S rfl underlying49 rfl fun a S => s_move S rfl rfl fun a S => c_end (wp_block ?_))
 refine c_loop (fun q1 a w => ∃ m y6 A2 nn5 cp7 y7 g28 g29, St 29 m b0 [(11, (.i y6)), (10, (.i ((x1.2).length : Int))), (5, (.s A2 nn5 cp7)), (4, (.p g28)), (2, (.p g29)), (1, (.i x2))] [Res.row Y66 66 A2 nn5 cp7 y7, Res.cells g28 51 [.s none 0 0, .s none 0 0], Res.cells g29 51 [.q Y34 ch_0_0 ch_0_1 x1.1, .q Y66 ch_0_2 ch_0_3 x1.2]] a w ∧ smithyref15_Cache_without.l1 x1 x2 q1 y6 y7 = some r) ?_ ?_ (k := k) ⟨_, 0, (ad g3), 0, 0, ([] : List ((List Int) × Int)), g2, g1, (S.sb rfl (.c0 (.c0 (.c0 .n)))), h0⟩
 ·rintro a w ⟨m, y6, A2, nn5, cp7, y7, g28, g29, S, h0⟩
  exact (nomatch (show (none : Option (((List L34) × (List ((List Int) × Int))))) = some r from h0))
 ·clear S h0
  rintro q1 a w ⟨m, y6, A2, nn5, cp7, y7, g28, g29, S, h0⟩
  replace h0 : smithyref15_Cache_without.b1 x1 x2 (smithyref15_Cache_without.l1 x1 x2 q1) y6 y7 = some r := h0
  delta smithyref15_Cache_without.b1 at h0
  refine c_region (s_bin S rfl rfl rfl rfl fun a S => c_end (wp_seq ?_))
  rcases ite_of h0 with ⟨c1, h1⟩ | ⟨c1, h1⟩
  ·refine c_condT S rfl c1 (wp_skip (x_thenN (wp_seq_k fun K2 hK2 => ?_)))
   have j2 : ∀ m A3 nn6 cp9 y8 g31 g32 a w, St 29 m b0 [(5, (.s A3 nn6 cp9)), (11, (.i y6)), (10, (.i ((x1.2).length : Int))), (4, (.p g31)), (2, (.p g32)), (1, (.i x2))] [Res.row Y66 66 A3 nn6 cp9 y8, Res.cells g31 51 [.s none 0 0, .s none 0 0], Res.cells g32 51 [.q Y34 ch_0_0 ch_0_1 x1.1, .q Y66 ch_0_2 ch_0_3 x1.2]] a w → smithyref15_Cache_without.j2 y6 (smithyref15_Cache_without.l1 x1 x2 q1) y8 = some r → K2 a w := by
    intro m A3 nn6 cp9 y8 g31 g32 a w S h0
    delta smithyref15_Cache_without.j2 at h0
    refine hK2 a w (c_region' (s_bin S rfl rfl rfl rfl fun a S => s_move S rfl rfl fun a S => c_end' (x_thenN ?_)))
    exact ⟨_, (wr .i64 (y6 + 1)), A3, nn6, cp9, y8, g31, g32, (S.sb rfl (.c0 (.c0 (.c0 .n)))), h0⟩
   refine wp_block (c_region (s_move S rfl rfl fun a S => s_assign S rfl rfl fun a S => c_end (c_region (s_move S rfl rfl fun a S => s_move S rfl rfl fun a S => s_bin S rfl rfl rfl rfl fun a S => c_end ?_))))
   rcases ite_of h1 with ⟨c2, h2⟩ | ⟨c2, h2⟩
   ·refine c_condT S rfl c2 (c_region' (s_move S rfl rfl fun a S => s_fieldAddr S rfl I51_1 T49 (by decide) rfl rfl fun a S => s_loadSl S rfl .h2 T49 (A := ch_0_2) (len := (x1.2).length) (cap := ch_0_3) rfl rfl fun a S => s_move S rfl rfl fun a S => ?_))
    obtain ⟨c3, h3⟩ := chk_of h2; clear h2
    refine s_iaddrS S rfl rfl rfl underlying49 T66 c3.1 c3.2 rfl fun p1 a S => s_ldA S (fun (c : Unit × Unit) => [.b20 ((gt x1.2 y6).1), .i ((gt x1.2 y6).2)]) rfl T66 (fun _ => rfl) rfl fun ch1 a S => ?_
    refine s_bldSl S (ty' := Y66) (ds := [(0, (.agg [.b20 ((gt x1.2 y6).1), .i ((gt x1.2 y6).2)]))]) (z := (z20, 0)) (c0 := ((), ())) (ys := [gt x1.2 y6]) (cs := [((), ())]) rfl underlying49 J66 Z66 rfl ⟨rfl, rfl, trivial⟩ rfl rfl rfl rfl rfl rfl fun g33 a w S => ?_
    obtain ⟨c4, h4⟩ := chk_of h3; clear h3
    refine s_app S (k2 := 1) (ys := [gt x1.2 y6]) rfl (fun _ _ => .h1) rfl rfl (S.holds _ (Pull.mem .h).1).1 (Res.row.src (S.holds _ (Pull.mem .h).1)) underlying49 J66 c4 rfl fun A4 cp10 a w S => s_assign S rfl rfl fun a S => c_end' (x_blockN (x_thenN ?_))
    exact j2 _ A4 (nn5 + 1) cp10 (y7 ++ [gt x1.2 y6]) g28 g29 a w (S.sb rfl (.c1 (.c1 (.c1 .n)))) h4
   ·refine c_condF S rfl c2 (wp_skip (x_blockN (x_thenN ?_)))
    exact j2 _ A2 nn5 cp7 y7 g28 g29 a w (S.sb rfl (.c0 (.c0 (.c0 .n)))) h2
  ·refine c_condF S rfl c1 (wp_exit (x_thenX (x_thenX (x_blockX (x_thenN ?_)))))
   exact j1 _ A2 nn5 cp7 y7 g28 g29 a w (S.sb rfl (.c0 (.c0 (.c0 .n)))) h1
abbrev smithyref08_Less.Ty : Type := (List Int) → (List Int) → Option Bool
def smithyref08_Less.Ctr (s : smithyref08_Less.Ty) : Prop := ∀ (x1 : List Int) (x2 : List Int) (r : Bool), Ct (C := Unit) Try.prog 46 (s x1 x2 = some r) [] [(.agg [.b20 x1]), (.agg [.b20 x2])] (fun _ => (.b r)) fun _ => []
def smithyref08_Less.j1 : Option Bool := some false
def smithyref08_Less.b1 (x1 : List Int) (x2 : List Int) (rec1 : Int → Option Bool) (y1 : Int) : Option Bool := if (decide (y1 < 20)) = true then (if (0 : Int) ≤ y1 ∧ y1 < 20 then (if ((rd x1 y1) != (rd x2 y1)) = true then (some (decide ((rd x1 y1) < (rd x2 y1)))) else (rec1 (wr .i64 (y1 + 1)))) else none) else smithyref08_Less.j1
def smithyref08_Less.l1 (x1 : List Int) (x2 : List Int) : Nat → Int → Option Bool
  | 0, _ => none
  | q + 1, y1 => smithyref08_Less.b1 x1 x2 (smithyref08_Less.l1 x1 x2 q) y1
def smithyref08_Less.f (k : Nat) (x1 : List Int) (x2 : List Int) : Option Bool := smithyref08_Less.l1 x1 x2 k 0
theorem smithyref08_Less.ok (k : Nat) : smithyref08_Less.Ctr (smithyref08_Less.f k) := by
 intro x1 x2 r h0 mi w0 ok hm
 delta smithyref08_Less.f at h0
 refine c_enterZ (n := 24) ok hm func46 rfl rfl rfl fun b0 hb a S => c_region (s_box S rfl rfl rfl fun g1 a w S => s_box S rfl rfl rfl fun g2 a w S => s_assign S rfl rfl fun a S => c_end (wp_seq_k fun K1 hK1 => ?_))
 have j1 : ∀ m a w, St 24 m b0 [] [] a w → smithyref08_Less.j1 = some r → K1 a w := by
  intro m a w S h0
  delta smithyref08_Less.j1 at h0
  refine hK1 a w (c_region (s_assign S rfl rfl fun a S => c_end (wp_ret ?_)))
  obtain rfl := Option.some.inj h0
  exact b_ret1 (d := (.b false)) S rfl rfl (S.rt hb)
 refine c_region (s_assign S rfl rfl fun a S => c_end (wp_block ?_))
 refine c_loop (fun q1 a w => ∃ m y1 g13 g14, St 24 m b0 [(5, (.i y1)), (3, (.p g13)), (2, (.p g14))] [Res.cells g13 28 [.b20 x2], Res.cells g14 28 [.b20 x1]] a w ∧ smithyref08_Less.l1 x1 x2 q1 y1 = some r) ?_ ?_ (k := k) ⟨_, 0, g2, g1, (S.sb rfl (.c0 (.c0 .n))), h0⟩
 ·rintro a w ⟨m, y1, g13, g14, S, h0⟩
  exact (nomatch (show (none : Option Bool) = some r from h0))
 ·clear S h0
  rintro q1 a w ⟨m, y1, g13, g14, S, h0⟩
  replace h0 : smithyref08_Less.b1 x1 x2 (smithyref08_Less.l1 x1 x2 q1) y1 = some r := h0
  delta smithyref08_Less.b1 at h0
  refine wp_seq (c_region (s_move S rfl rfl fun a S => s_bin S rfl rfl rfl rfl fun a S => c_end ?_))
  rcases ite_of h0 with ⟨c1, h1⟩ | ⟨c1, h1⟩
  ·refine c_condT S rfl c1 (wp_skip (x_thenN (wp_seq (wp_block ?_))))
   refine wp_seq (c_heldS S (.take 0 (.take 1 (.take 2 (.take 3 (.take 4 (.take 5 (.take 6 .done))))))) 7 [Res.cells g13 28 [.b20 x2], Res.cells g14 28 [.b20 x1]] (.c0 (.c0 .n)) ⟨Res.stay_cells, Res.stay_cells, trivial⟩ [(5, (.i y1)), (3, (.p g13)), (2, (.p g14))] (subR rfl) (by kernel_rfl) (by kernel_rfl) ?_); clear S; intro w S CL hw le
   refine h_move S CL hw le (subR rfl) rfl rfl rfl trivial fun a S CL => ?_
   obtain ⟨c2, h2⟩ := chk_of h1; clear h1
   refine h_iaddr S CL hw le (subR rfl) rfl rfl underlying28 T5 c2.1 c2.2 (mul1 _ _) rfl rfl trivial fun a S CL => h_loadi S CL hw le (subR rfl) (i := y1) rfl .h1 T5 .h rfl c2.1 c2.2 rfl rfl trivial fun a S CL => h_move S CL hw le (subR rfl) rfl rfl rfl trivial fun a S CL => h_iaddr S CL hw le (subR rfl) rfl rfl underlying28 T5 c2.1 c2.2 (mul1 _ _) rfl rfl trivial fun a S CL => h_loadi S CL hw le (subR rfl) (i := y1) rfl .h T5 .h rfl c2.1 c2.2 rfl rfl trivial fun a S CL => h_bin S CL hw le (subR rfl) rfl rfl rfl rfl rfl trivial fun a S CL => ?_
   refine h_done ?_; clear CL hw le
   refine x_thenN ?_
   rcases ite_of h2 with ⟨c3, h3⟩ | ⟨c3, h3⟩
   ·refine c_condT S rfl c3 ?_
    refine wp_seq (c_heldS S (.take 0 (.take 1 (.take 2 (.take 3 (.take 4 (.take 5 (.take 6 (.take 7 .done)))))))) 8 [Res.cells g13 28 [.b20 x2], Res.cells g14 28 [.b20 x1]] (.c0 (.c0 .n)) ⟨Res.stay_cells, Res.stay_cells, trivial⟩ [(5, (.i y1)), (3, (.p g13)), (2, (.p g14))] (subR rfl) (by kernel_rfl) (by kernel_rfl) ?_); clear S; intro w S CL hw le
    refine h_move S CL hw le (subR rfl) rfl rfl rfl trivial fun a S CL => h_iaddr S CL hw le (subR rfl) rfl rfl underlying28 T5 c2.1 c2.2 (mul1 _ _) rfl rfl trivial fun a S CL => h_loadi S CL hw le (subR rfl) (i := y1) rfl .h1 T5 .h rfl c2.1 c2.2 rfl rfl trivial fun a S CL => h_move S CL hw le (subR rfl) rfl rfl rfl trivial fun a S CL => h_iaddr S CL hw le (subR rfl) rfl rfl underlying28 T5 c2.1 c2.2 (mul1 _ _) rfl rfl trivial fun a S CL => h_loadi S CL hw le (subR rfl) (i := y1) rfl .h T5 .h rfl c2.1 c2.2 rfl rfl trivial fun a S CL => h_bin S CL hw le (subR rfl) rfl rfl rfl rfl rfl trivial fun a S CL => h_assign S CL hw le (subR rfl) rfl rfl rfl trivial fun a S CL => ?_
    refine h_done ?_; clear CL hw le
    refine x_thenN (wp_ret (x_blockR (x_thenR (x_thenR (x_blockR (x_thenR ?_))))))
    obtain rfl := Option.some.inj h3
    exact b_ret1 (d := (.b (decide ((rd x1 y1) < (rd x2 y1))))) S rfl rfl (S.rt hb)
   ·refine c_condF S rfl c3 (wp_skip (x_blockN (x_thenN (c_region' (s_move S rfl rfl fun a S => s_bin S rfl rfl rfl rfl fun a S => s_assign S rfl rfl fun a S => c_end' (x_thenN ?_))))))
    exact ⟨_, (wr .i64 (y1 + 1)), g13, g14, (S.sb rfl (.c0 (.c0 .n))), h3⟩
  ·refine c_condF S rfl c1 (wp_exit (x_thenX (x_thenX (x_blockX (x_thenN ?_)))))
   exact j1 _ a w (S.sub trivial .nil) h1
abbrev smithyref13_Put.Ty : Type := (List L34) → (L34) → Option ((List L34))
def smithyref13_Put.Ctr (s : smithyref13_Put.Ty) : Prop := ∀ (x1 : List L34) (x2 : L34) (ch_0_0 : Option Addr) (ch_0_1 : Nat) (ch_1_0 : Option Addr) (ch_1_1 : Nat) (ch_1_2 : Option Addr) (ch_1_3 : Nat) (r : (List L34)), Ct (C := ((Option Addr) × Nat × Nat)) Try.prog 37 (s x1 x2 = some r) [] [(.q Y34 ch_0_0 ch_0_1 x1), (.agg [.b20 x2.1, .w x2.2.1, .w4 x2.2.2.1, .q yb ch_1_0 ch_1_1 x2.2.2.2.1, .q Y71 ch_1_2 ch_1_3 x2.2.2.2.2])] (fun ch => (.s ch.1 ch.2.1 ch.2.2)) fun ch => [Res.row Y34 34 ch.1 ch.2.1 ch.2.2 r]
def smithyref13_Put.j2 (y3 : List L34) : Option ((List L34)) := some y3
def smithyref13_Put.j1 (x2 : L34) (y1 : Bool) (y2 : List L34) : Option ((List L34)) := if (!y1) = true then (if ((y2).length + ([x2]).length) * 112 ≤ 140737488355328 then (smithyref13_Put.j2 (y2 ++ [x2])) else none) else (smithyref13_Put.j2 y2)
def smithyref13_Put.j3 (y18 : Int) (rec1 : Int → Bool → (List L34) → Option ((List L34))) (y24 : Bool) (y25 : List L34) : Option ((List L34)) := rec1 (wr .i64 (y18 + 1)) y24 y25
def smithyref13_Put.j4 (x1 : List L34) (x2 : L34) (y18 : Int) (rec1 : Int → Bool → (List L34) → Option ((List L34))) (y27 : Bool) (y28 : List L34) : Option ((List L34)) := if (0 : Int) ≤ y18 ∧ y18 < ((x1).length : Int) then (if (decide ((gt x1 y18).1 = x2.1)) = true then (if ((y28).length + ([x2]).length) * 112 ≤ 140737488355328 then (smithyref13_Put.j3 y18 rec1 true (y28 ++ [x2])) else none) else (if ((y28).length + ([gt x1 y18]).length) * 112 ≤ 140737488355328 then (smithyref13_Put.j3 y18 rec1 y27 (y28 ++ [gt x1 y18])) else none)) else none
def smithyref13_Put.j5 (x1 : List L34) (x2 : L34) (y18 : Int) (y19 : Bool) (y20 : List L34) (rec1 : Int → Bool → (List L34) → Option ((List L34))) (y29 : Bool) : Option ((List L34)) := if y29 = true then (if ((y20).length + ([x2]).length) * 112 ≤ 140737488355328 then (smithyref13_Put.j4 x1 x2 y18 rec1 true (y20 ++ [x2])) else none) else (smithyref13_Put.j4 x1 x2 y18 rec1 y19 y20)
def smithyref13_Put.b1 (k : Nat) (x1 : List L34) (x2 : L34) (rec1 : Int → Bool → (List L34) → Option ((List L34))) (y18 : Int) (y19 : Bool) (y20 : List L34) : Option ((List L34)) := if (decide (y18 < ((x1).length : Int))) = true then (if (!y19) = true then (if (0 : Int) ≤ y18 ∧ y18 < ((x1).length : Int) then ((smithyref08_Less.f k x2.1 ((gt x1 y18).1)).bind fun t1 => (smithyref13_Put.j5 x1 x2 y18 y19 y20 rec1 t1)) else none) else (smithyref13_Put.j5 x1 x2 y18 y19 y20 rec1 false)) else (smithyref13_Put.j1 x2 y19 y20)
def smithyref13_Put.l1 (k : Nat) (x1 : List L34) (x2 : L34) : Nat → Int → Bool → (List L34) → Option ((List L34))
  | 0, _, _, _ => none
  | q + 1, y18, y19, y20 => smithyref13_Put.b1 k x1 x2 (smithyref13_Put.l1 k x1 x2 q) y18 y19 y20
def smithyref13_Put.f (k : Nat) (x1 : List L34) (x2 : L34) : Option ((List L34)) := smithyref13_Put.l1 k x1 x2 k 0 false ([] : List L34)
theorem smithyref13_Put.ok (k : Nat) : smithyref13_Put.Ctr (smithyref13_Put.f k) := by
 intro x1 x2 ch_0_0 ch_0_1 ch_1_0 ch_1_1 ch_1_2 ch_1_3 r h0 mi w0 ok hm
 delta smithyref13_Put.f at h0
 refine c_enterZ (n := 57) ok hm func37 rfl rfl rfl fun b0 hb a S => c_region (s_box S rfl rfl rfl fun g1 a w S => s_assign S rfl rfl fun a S => c_end (c_region (s_bldSl S (ty' := Y34) (ds := []) (z := zt1) (c0 := ((), (), (), (none, 0), (none, 0))) (ys := ([] : List L34)) (cs := []) rfl underlying22 J34 Z34 rfl ⟨rfl, rfl, rfl, ⟨Nat.le_refl _, Nat.zero_le _, RdS.nil _ _ _, RdS.mono _ _ _⟩, ⟨Nat.le_refl _, Nat.zero_le _, RdS.nil _ _ _, RdS.mono _ _ _⟩, trivial⟩ rfl rfl rfl rfl rfl rfl fun g2 a w S => s_assign S rfl rfl fun a S => c_end (c_region (s_assign S rfl rfl fun a S => c_end (wp_seq_k fun K1 hK1 => ?_))))))
 have j1 : ∀ m y1 A1 nn1 cp1 y2 g17 a w, St 57 m b0 [(6, (.b y1)), (5, (.s A1 nn1 cp1)), (3, (.p g17))] [Res.row Y34 34 A1 nn1 cp1 y2, Res.cells g17 34 [.b20 x2.1, .w x2.2.1, .w4 x2.2.2.1, .q yb ch_1_0 ch_1_1 x2.2.2.2.1, .q Y71 ch_1_2 ch_1_3 x2.2.2.2.2]] a w → smithyref13_Put.j1 x2 y1 y2 = some r → K1 a w := by
  intro m y1 A1 nn1 cp1 y2 g17 a w S h0
  delta smithyref13_Put.j1 at h0
  refine hK1 a w (wp_seq_k fun K2 hK2 => ?_)
  have j2 : ∀ m A2 nn2 cp3 y3 a w, St 57 m b0 [(5, (.s A2 nn2 cp3))] [Res.row Y34 34 A2 nn2 cp3 y3] a w → smithyref13_Put.j2 y3 = some r → K2 a w := by
   intro m A2 nn2 cp3 y3 a w S h0
   delta smithyref13_Put.j2 at h0
   refine hK2 a w (c_region (s_move S rfl rfl fun a S => s_assign S rfl rfl fun a S => c_end (wp_ret ?_)))
   obtain rfl := Option.some.inj h0
   exact b_ret1 (d := (.s A2 nn2 cp3)) S rfl rfl fun ok => S.retX (Hx := []) hb _ _ ((A2, nn2, cp3) : (Option Addr) × Nat × Nat) (.c0 .n) ok
  refine c_region (s_move S rfl rfl fun a S => s_not S rfl rfl fun a S => c_end ?_)
  rcases ite_of h0 with ⟨c1, h1⟩ | ⟨c1, h1⟩
  ·refine c_condT S rfl c1 (c_region' (s_move S rfl rfl fun a S => s_loada S rfl .h1 T34 (s' := [.b20 x2.1, .w x2.2.1, .w4 x2.2.2.1, .q yb ch_1_0 ch_1_1 x2.2.2.2.1, .q Y71 ch_1_2 ch_1_3 x2.2.2.2.2]) rfl rfl fun a S => s_bldSl S (ty' := Y34) (ds := [(0, (.agg [.b20 x2.1, .w x2.2.1, .w4 x2.2.2.1, .q yb ch_1_0 ch_1_1 x2.2.2.2.1, .q Y71 ch_1_2 ch_1_3 x2.2.2.2.2]))]) (z := zt1) (c0 := ((), (), (), (none, 0), (none, 0))) (ys := [x2]) (cs := [((), (), (), (ch_1_0, ch_1_1), (ch_1_2, ch_1_3))]) rfl underlying22 J34 Z34 rfl ⟨rfl, rfl, rfl, ⟨Nat.le_refl _, Nat.zero_le _, RdS.nil _ _ _, RdS.mono _ _ _⟩, ⟨Nat.le_refl _, Nat.zero_le _, RdS.nil _ _ _, RdS.mono _ _ _⟩, trivial⟩ rfl rfl rfl rfl rfl rfl fun g19 a w S => ?_))
   obtain ⟨c2, h2⟩ := chk_of h1; clear h1
   refine s_app S (k2 := 1) (ys := [x2]) rfl (fun _ _ => .h1) rfl rfl (S.holds _ (Pull.mem .h).1).1 (Res.row.src (S.holds _ (Pull.mem .h).1)) underlying22 J34 c2 rfl fun A3 cp4 a w S => s_assign S rfl rfl fun a S => c_end' (x_thenN ?_)
   exact j2 _ A3 (nn1 + 1) cp4 (y2 ++ [x2]) a w (S.sub ⟨rfl, trivial⟩ (.c1 .n)) h2
  ·refine c_condF S rfl c1 (wp_skip (x_thenN ?_))
   exact j2 _ A1 nn1 cp1 y2 a w (S.sub ⟨rfl, trivial⟩ (.c0 .n)) h1
 refine c_region (s_move S rfl rfl fun a S => s_lenS S rfl underlying22 rfl fun a S => s_move S rfl rfl fun a S => c_end (wp_block ?_))
 refine c_loop (fun q1 a w => ∃ m y18 y19 A4 nn8 cp16 y20 g33, St 57 m b0 [(11, (.i y18)), (10, (.i ((x1).length : Int))), (6, (.b y19)), (5, (.s A4 nn8 cp16)), (3, (.p g33)), (0, (.q Y34 ch_0_0 ch_0_1 x1))] [Res.row Y34 34 A4 nn8 cp16 y20, Res.cells g33 34 [.b20 x2.1, .w x2.2.1, .w4 x2.2.2.1, .q yb ch_1_0 ch_1_1 x2.2.2.2.1, .q Y71 ch_1_2 ch_1_3 x2.2.2.2.2]] a w ∧ smithyref13_Put.l1 k x1 x2 q1 y18 y19 y20 = some r) ?_ ?_ (k := k) ⟨_, 0, false, (ad g2), 0, 0, ([] : List L34), g1, (S.sb rfl (.c0 (.c0 .n))), h0⟩
 ·rintro a w ⟨m, y18, y19, A4, nn8, cp16, y20, g33, S, h0⟩
  exact (nomatch (show (none : Option ((List L34))) = some r from h0))
 ·clear S h0
  rintro q1 a w ⟨m, y18, y19, A4, nn8, cp16, y20, g33, S, h0⟩
  replace h0 : smithyref13_Put.b1 k x1 x2 (smithyref13_Put.l1 k x1 x2 q1) y18 y19 y20 = some r := h0
  delta smithyref13_Put.b1 at h0
  refine c_region (s_bin S rfl rfl rfl rfl fun a S => c_end (wp_seq ?_))
  rcases ite_of h0 with ⟨c3, h1⟩ | ⟨c3, h1⟩
  ·refine c_condT S rfl c3 (wp_skip (x_thenN (wp_seq_k fun K3 hK3 => ?_)))
   have j3 : ∀ m y24 A5 nn10 cp21 y25 g39 a w, St 57 m b0 [(6, (.b y24)), (5, (.s A5 nn10 cp21)), (11, (.i y18)), (10, (.i ((x1).length : Int))), (3, (.p g39)), (0, (.q Y34 ch_0_0 ch_0_1 x1))] [Res.row Y34 34 A5 nn10 cp21 y25, Res.cells g39 34 [.b20 x2.1, .w x2.2.1, .w4 x2.2.2.1, .q yb ch_1_0 ch_1_1 x2.2.2.2.1, .q Y71 ch_1_2 ch_1_3 x2.2.2.2.2]] a w → smithyref13_Put.j3 y18 (smithyref13_Put.l1 k x1 x2 q1) y24 y25 = some r → K3 a w := by
    intro m y24 A5 nn10 cp21 y25 g39 a w S h0
    delta smithyref13_Put.j3 at h0
    refine hK3 a w (c_region' (s_bin S rfl rfl rfl rfl fun a S => s_move S rfl rfl fun a S => c_end' (x_thenN ?_)))
    exact ⟨_, (wr .i64 (y18 + 1)), y24, A5, nn10, cp21, y25, g39, (S.sb rfl (.c0 (.c0 .n))), h0⟩
   refine wp_block (c_region (s_move S rfl rfl fun a S => s_assign S rfl rfl fun a S => c_end (wp_seq_k fun K4 hK4 => ?_)))
   have j4 : ∀ m y27 A6 nn11 cp23 y28 g42 a w, St 57 m b0 [(6, (.b y27)), (5, (.s A6 nn11 cp23)), (7, (.i y18)), (11, (.i y18)), (10, (.i ((x1).length : Int))), (3, (.p g42)), (0, (.q Y34 ch_0_0 ch_0_1 x1))] [Res.row Y34 34 A6 nn11 cp23 y28, Res.cells g42 34 [.b20 x2.1, .w x2.2.1, .w4 x2.2.2.1, .q yb ch_1_0 ch_1_1 x2.2.2.2.1, .q Y71 ch_1_2 ch_1_3 x2.2.2.2.2]] a w → smithyref13_Put.j4 x1 x2 y18 (smithyref13_Put.l1 k x1 x2 q1) y27 y28 = some r → K4 a w := by
    intro m y27 A6 nn11 cp23 y28 g42 a w S h0
    delta smithyref13_Put.j4 at h0
    refine hK4 a w (wp_seq ?_)
    refine wp_seq (c_heldS S (.take 0 (.take 1 (.take 2 (.take 3 (.take 4 (.take 5 (.take 6 (.take 7 .done)))))))) 8 [Res.cells g42 34 [.b20 x2.1, .w x2.2.1, .w4 x2.2.2.1, .q yb ch_1_0 ch_1_1 x2.2.2.2.1, .q Y71 ch_1_2 ch_1_3 x2.2.2.2.2]] (.c1 .n) ⟨Res.stay_cells, trivial⟩ [(7, (.i y18)), (3, (.p g42)), (0, (.q Y34 ch_0_0 ch_0_1 x1))] (subR rfl) (by kernel_rfl) (by kernel_rfl) ?_); clear S; intro w S CL hw le
    refine h_move S CL hw le (subR rfl) rfl rfl rfl trivial fun a S CL => h_move S CL hw le (subR rfl) rfl rfl rfl trivial fun a S CL => ?_
    obtain ⟨c4, h1⟩ := chk_of h0; clear h0
    refine h_iaddrS S CL hw le (subR rfl) rfl rfl rfl underlying22 T34 c4.1 c4.2 rfl rfl trivial fun p1 a S CL => h_faddrP S CL hw le (subR rfl) (tF := (Ty.arr .u8 20)) (y := (gt x1 y18).1) rfl I34_0 T28 (by decide) (fun m h => (at_fst (at_0 h))) rfl rfl trivial fun a S CL => h_ldA S CL hw le (subR rfl) (fun (c : Unit) => [.b20 ((gt x1 y18).1)]) rfl T28 (fun _ => rfl) rfl rfl trivial fun ch1 a S CL => ?_
    refine h_fieldAddr S CL hw le (subR rfl) rfl I34_0 T28 (by decide) rfl rfl rfl trivial fun a S CL => h_loada S CL hw le (subR rfl) rfl .h T28 (s' := [.b20 x2.1]) rfl rfl rfl trivial fun a S CL => h_eqa S CL hw le (subR rfl) rfl rfl underlying28 underlying5 T5 Q28 rfl rfl trivial fun a S CL => ?_
    refine h_done ?_; clear CL hw le
    refine x_thenN ?_
    rcases ite_of h1 with ⟨c5, h2⟩ | ⟨c5, h2⟩
    ·refine c_condT S rfl c5 (c_region (s_move S rfl rfl fun a S => s_loada S rfl .h1 T34 (s' := [.b20 x2.1, .w x2.2.1, .w4 x2.2.2.1, .q yb ch_1_0 ch_1_1 x2.2.2.2.1, .q Y71 ch_1_2 ch_1_3 x2.2.2.2.2]) rfl rfl fun a S => s_bldSl S (ty' := Y34) (ds := [(0, (.agg [.b20 x2.1, .w x2.2.1, .w4 x2.2.2.1, .q yb ch_1_0 ch_1_1 x2.2.2.2.1, .q Y71 ch_1_2 ch_1_3 x2.2.2.2.2]))]) (z := zt1) (c0 := ((), (), (), (none, 0), (none, 0))) (ys := [x2]) (cs := [((), (), (), (ch_1_0, ch_1_1), (ch_1_2, ch_1_3))]) rfl underlying22 J34 Z34 rfl ⟨rfl, rfl, rfl, ⟨Nat.le_refl _, Nat.zero_le _, RdS.nil _ _ _, RdS.mono _ _ _⟩, ⟨Nat.le_refl _, Nat.zero_le _, RdS.nil _ _ _, RdS.mono _ _ _⟩, trivial⟩ rfl rfl rfl rfl rfl rfl fun g43 a w S => ?_))
     obtain ⟨c6, h3⟩ := chk_of h2; clear h2
     refine s_app S (k2 := 1) (ys := [x2]) rfl (fun _ _ => .h1) rfl rfl (S.holds _ (Pull.mem .h).1).1 (Res.row.src (S.holds _ (Pull.mem .h).1)) underlying22 J34 c6 rfl fun A7 cp24 a w S => s_assign S rfl rfl fun a S => c_end (c_region (s_assign S rfl rfl fun a S => c_end (wp_exit (x_thenX (x_blockX (x_thenN ?_))))))
     exact j3 _ true A7 (nn11 + 1) cp24 (y28 ++ [x2]) g42 a w (S.sb rfl (.c1 (.c1 .n))) h3
    ·refine c_condF S rfl c5 (wp_skip (x_thenN (c_region' (s_move S rfl rfl fun a S => s_move S rfl rfl fun a S => s_move S rfl rfl fun a S => s_iaddrS S rfl rfl rfl underlying22 T34 c4.1 c4.2 rfl fun p2 a S => s_ldA S (fun (c : Unit × Unit × Unit × (Option Addr × Nat) × (Option Addr × Nat)) => [.b20 ((gt x1 y18).1), .w ((gt x1 y18).2.1), .w4 ((gt x1 y18).2.2.1), .q yb c.2.2.2.1.1 c.2.2.2.1.2 ((gt x1 y18).2.2.2.1), .q Y71 c.2.2.2.2.1 c.2.2.2.2.2 ((gt x1 y18).2.2.2.2)]) rfl T34 (fun _ => rfl) rfl fun ch2 a S => ?_))))
     refine s_bldSl S (ty' := Y34) (ds := [(0, (.agg [.b20 ((gt x1 y18).1), .w ((gt x1 y18).2.1), .w4 ((gt x1 y18).2.2.1), .q yb ch2.2.2.2.1.1 ch2.2.2.2.1.2 ((gt x1 y18).2.2.2.1), .q Y71 ch2.2.2.2.2.1 ch2.2.2.2.2.2 ((gt x1 y18).2.2.2.2)]))]) (z := zt1) (c0 := ((), (), (), (none, 0), (none, 0))) (ys := [gt x1 y18]) (cs := [((), (), (), (ch2.2.2.2.1.1, ch2.2.2.2.1.2), (ch2.2.2.2.2.1, ch2.2.2.2.2.2))]) rfl underlying22 J34 Z34 rfl ⟨rfl, rfl, rfl, ⟨Nat.le_refl _, Nat.zero_le _, RdS.nil _ _ _, RdS.mono _ _ _⟩, ⟨Nat.le_refl _, Nat.zero_le _, RdS.nil _ _ _, RdS.mono _ _ _⟩, trivial⟩ rfl rfl rfl rfl rfl rfl fun g44 a w S => ?_
     obtain ⟨c7, h3⟩ := chk_of h2; clear h2
     refine s_app S (k2 := 1) (ys := [gt x1 y18]) rfl (fun _ _ => .h1) rfl rfl (S.holds _ (Pull.mem .h).1).1 (Res.row.src (S.holds _ (Pull.mem .h).1)) underlying22 J34 c7 rfl fun A8 cp25 a w S => s_assign S rfl rfl fun a S => c_end' (x_blockN (x_thenN ?_))
     exact j3 _ y27 A8 (nn11 + 1) cp25 (y28 ++ [gt x1 y18]) g42 a w (S.sb rfl (.c1 (.c1 .n))) h3
   refine wp_seq_k fun K5 hK5 => ?_
   have j5 : ∀ m y29 g45 a w, St 57 m b0 [(25, (.b y29)), (7, (.i y18)), (11, (.i y18)), (10, (.i ((x1).length : Int))), (6, (.b y19)), (5, (.s A4 nn8 cp16)), (3, (.p g45)), (0, (.q Y34 ch_0_0 ch_0_1 x1))] [Res.row Y34 34 A4 nn8 cp16 y20, Res.cells g45 34 [.b20 x2.1, .w x2.2.1, .w4 x2.2.2.1, .q yb ch_1_0 ch_1_1 x2.2.2.2.1, .q Y71 ch_1_2 ch_1_3 x2.2.2.2.2]] a w → smithyref13_Put.j5 x1 x2 y18 y19 y20 (smithyref13_Put.l1 k x1 x2 q1) y29 = some r → K5 a w := by
    intro m y29 g45 a w S h0
    delta smithyref13_Put.j5 at h0
    refine hK5 a w ?_
    rcases ite_of h0 with ⟨c8, h1⟩ | ⟨c8, h1⟩
    ·refine c_condT S rfl c8 (c_region (s_move S rfl rfl fun a S => s_loada S rfl .h1 T34 (s' := [.b20 x2.1, .w x2.2.1, .w4 x2.2.2.1, .q yb ch_1_0 ch_1_1 x2.2.2.2.1, .q Y71 ch_1_2 ch_1_3 x2.2.2.2.2]) rfl rfl fun a S => s_bldSl S (ty' := Y34) (ds := [(0, (.agg [.b20 x2.1, .w x2.2.1, .w4 x2.2.2.1, .q yb ch_1_0 ch_1_1 x2.2.2.2.1, .q Y71 ch_1_2 ch_1_3 x2.2.2.2.2]))]) (z := zt1) (c0 := ((), (), (), (none, 0), (none, 0))) (ys := [x2]) (cs := [((), (), (), (ch_1_0, ch_1_1), (ch_1_2, ch_1_3))]) rfl underlying22 J34 Z34 rfl ⟨rfl, rfl, rfl, ⟨Nat.le_refl _, Nat.zero_le _, RdS.nil _ _ _, RdS.mono _ _ _⟩, ⟨Nat.le_refl _, Nat.zero_le _, RdS.nil _ _ _, RdS.mono _ _ _⟩, trivial⟩ rfl rfl rfl rfl rfl rfl fun g46 a w S => ?_))
     obtain ⟨c9, h2⟩ := chk_of h1; clear h1
     refine s_app S (k2 := 1) (ys := [x2]) rfl (fun _ _ => .h1) rfl rfl (S.holds _ (Pull.mem .h).1).1 (Res.row.src (S.holds _ (Pull.mem .h).1)) underlying22 J34 c9 rfl fun A9 cp26 a w S => s_assign S rfl rfl fun a S => c_end (c_region' (s_assign S rfl rfl fun a S => c_end' (x_thenN ?_)))
     exact j4 _ true A9 (nn8 + 1) cp26 (y20 ++ [x2]) g45 a w (S.sb rfl (.c1 (.c1 .n))) h2
    ·refine c_condF S rfl c8 (wp_skip (x_thenN ?_))
     exact j4 _ y19 A4 nn8 cp16 y20 g45 a w (S.sb rfl (.c0 (.c0 .n))) h1
   refine c_heldS S (.take 0 (.take 1 (.take 2 (.take 3 (.take 4 (.take 5 (.take 6 (.take 7 (.take 8 (.take 9 (.alts (.run 10 true (.take 11 .done) .nil)))))))))))) 12 [Res.cells g33 34 [.b20 x2.1, .w x2.2.1, .w4 x2.2.2.1, .q yb ch_1_0 ch_1_1 x2.2.2.2.1, .q Y71 ch_1_2 ch_1_3 x2.2.2.2.2]] (.c1 .n) ⟨Res.stay_cells, trivial⟩ [(7, (.i y18)), (6, (.b y19)), (3, (.p g33)), (0, (.q Y34 ch_0_0 ch_0_1 x1))] (subR rfl) (by kernel_rfl) (by kernel_rfl) fun w S CL hw le => ?_
   refine h_move S CL hw le (subR rfl) rfl rfl rfl trivial fun a S CL => h_not S CL hw le (subR rfl) rfl rfl rfl trivial fun a S CL => h_move S CL hw le (subR rfl) rfl rfl rfl trivial fun a S CL => ?_
   rcases ite_of h1 with ⟨c10, h2⟩ | ⟨c10, h2⟩
   ·refine h_fieldAddr S CL hw le (subR rfl) rfl I34_0 T28 (by decide) rfl rfl rfl ⟨_, _, rfl, rfl, c10⟩ fun a S CL => h_loada S CL hw le (subR rfl) rfl .h T28 (s' := [.b20 x2.1]) rfl rfl rfl ⟨_, _, rfl, rfl, c10⟩ fun a S CL => h_move S CL hw le (subR rfl) rfl rfl rfl ⟨_, _, rfl, rfl, c10⟩ fun a S CL => h_move S CL hw le (subR rfl) rfl rfl rfl ⟨_, _, rfl, rfl, c10⟩ fun a S CL => ?_
    obtain ⟨c11, h3⟩ := chk_of h2; clear h2
    refine h_iaddrS S CL hw le (subR rfl) rfl rfl rfl underlying22 T34 c11.1 c11.2 rfl rfl ⟨_, _, rfl, rfl, c10⟩ fun p4 a S CL => h_faddrP S CL hw le (subR rfl) (tF := (Ty.arr .u8 20)) (y := (gt x1 y18).1) rfl I34_0 T28 (by decide) (fun m h => (at_fst (at_0 h))) rfl rfl ⟨_, _, rfl, rfl, c10⟩ fun a S CL => h_ldA S CL hw le (subR rfl) (fun (c : Unit) => [.b20 ((gt x1 y18).1)]) rfl T28 (fun _ => rfl) rfl rfl ⟨_, _, rfl, rfl, c10⟩ fun ch3 a S CL => ?_
    refine h_run' S rfl ⟨_, _, rfl, rfl, c10⟩ (bindX h3 fun t1 et1 h4 => s_callP S _ N46 rfl rfl (smithyref08_Less.ok k x2.1 ((gt x1 y18).1) t1 et1 _ _) fun ch4 m le1 a w S => ?_)
    replace le := le.trans le1
    refine CL.bk hw S (.c1 .n) le fun hw => ?_
    replace CL := CL.add (t := 24) (d := (.b t1)) S rfl rfl
    refine h_pick S CL hw le (subR rfl) (b := true) (hc_of rfl c10) rfl rfl rfl trivial fun a S CL => ?_
    refine h_done ?_; clear CL hw le
    refine x_thenN ?_
    exact j5 _ t1 g33 a w (S.sb rfl (.c0 (.c0 .n))) h4
   ·refine h_skip S CL rfl rfl rfl (ne_bool c10) rfl fun a S CL => h_skip S CL rfl rfl rfl (ne_bool c10) rfl fun a S CL => h_skip S CL rfl rfl rfl (ne_bool c10) rfl fun a S CL => h_skip S CL rfl rfl rfl (ne_bool c10) rfl fun a S CL => h_skip S CL rfl rfl rfl (ne_bool c10) rfl fun a S CL => h_skip S CL rfl rfl rfl (ne_bool c10) rfl fun a S CL => h_skip S CL rfl rfl rfl (ne_bool c10) rfl fun a S CL => h_skipRt S rfl rfl rfl (ne_bool c10) rfl fun a S => CL.bk hw S (.c1 .n) le fun hw => ?_
    replace CL := CL.add (t := 24) (d := .u) S rfl rfl
    refine h_pick S CL hw le (subR rfl) (b := false) (hc_of rfl c10) rfl rfl rfl trivial fun a S CL => ?_
    refine h_done ?_; clear CL hw le
    refine x_thenN ?_
    exact j5 _ false g33 a w (S.sb rfl (.c0 (.c0 .n))) h2
  ·refine c_condF S rfl c3 (wp_exit (x_thenX (x_thenX (x_blockX (x_thenN ?_)))))
   exact j1 _ y19 A4 nn8 cp16 y20 g33 a w (S.sb rfl (.c0 (.c0 .n))) h1
abbrev smithyref15_Cache_Fill.Ty : Type := ((List L34) × (List ((List Int) × Int))) → (L34) → Option (Bool × ((List L34) × (List ((List Int) × Int))))
def smithyref15_Cache_Fill.Ctr (s : smithyref15_Cache_Fill.Ty) : Prop := ∀ (x1 : (List L34) × (List ((List Int) × Int))) (x2 : L34) (ch_0_0 : Option Addr) (ch_0_1 : Nat) (ch_0_2 : Option Addr) (ch_0_3 : Nat) (ch_1_0 : Option Addr) (ch_1_1 : Nat) (ch_1_2 : Option Addr) (ch_1_3 : Nat) (r : Bool × ((List L34) × (List ((List Int) × Int)))), Ct (C := ((Option Addr) × Nat × (Option Addr) × Nat)) Try.prog 20 (s x1 x2 = some r) [] [(.agg [.q Y34 ch_0_0 ch_0_1 x1.1, .q Y66 ch_0_2 ch_0_3 x1.2]), (.agg [.b20 x2.1, .w x2.2.1, .w4 x2.2.2.1, .q yb ch_1_0 ch_1_1 x2.2.2.2.1, .q Y71 ch_1_2 ch_1_3 x2.2.2.2.2])] (fun ch => (.tup [(false, [.b r.1]), (true, [.q Y34 ch.1 ch.2.1 r.2.1, .q Y66 ch.2.2.1 ch.2.2.2 r.2.2])])) fun _ => []
def smithyref15_Cache_Fill.j1 (k : Nat) (x1 : (List L34) × (List ((List Int) × Int))) (x2 : L34) (t1 : Int) (y1 : Bool) : Option (Bool × ((List L34) × (List ((List Int) × Int)))) := if y1 = true then (some (false, x1)) else ((smithyref15_Cache_without.f k x1 t1).bind fun t3 => ((smithyref13_Put.f k t3.1 x2).bind fun t4 => (some (true, (t4, t3.2)))))
def smithyref15_Cache_Fill.f (k : Nat) (x1 : (List L34) × (List ((List Int) × Int))) (x2 : L34) : Option (Bool × ((List L34) × (List ((List Int) × Int)))) := (smithyref15_Cache_At.f k x1 x2.1).bind fun t1 => (if (decide (t1 < 0)) = true then (smithyref15_Cache_Fill.j1 k x1 x2 t1 true) else ((smithyref13_Right.f k x2).bind fun t5 => (smithyref15_Cache_Fill.j1 k x1 x2 t1 (!t5))))
theorem smithyref15_Cache_Fill.ok (k : Nat) : smithyref15_Cache_Fill.Ctr (smithyref15_Cache_Fill.f k) := by
 intro x1 x2 ch_0_0 ch_0_1 ch_0_2 ch_0_3 ch_1_0 ch_1_1 ch_1_2 ch_1_3 r h0 mi w0 ok hm
 delta smithyref15_Cache_Fill.f at h0
 refine c_enterZ (n := 28) ok hm func20 rfl rfl rfl fun b0 hb a S => c_region (s_box S rfl rfl rfl fun g1 a w S => s_box S rfl rfl rfl fun g2 a w S => s_assign S rfl rfl fun a S => s_alloc S Z51 rfl ⟨rfl, rfl, trivial⟩ rfl fun g3 a w S => c_end (c_region (s_loada S rfl .h2 T51 (s' := [.q Y34 ch_0_0 ch_0_1 x1.1, .q Y66 ch_0_2 ch_0_3 x1.2]) rfl rfl fun a S => s_fieldAddr S rfl I34_0 T28 (by decide) rfl rfl fun a S => s_loada S rfl .h1 T28 (s' := [.b20 x2.1]) rfl rfl fun a S => bindX h0 fun t1 et1 h1 => s_callP S _ N24 rfl rfl (smithyref15_Cache_At.ok k x1 x2.1 ch_0_0 ch_0_1 ch_0_2 ch_0_3 t1 et1 _ _) fun ch1 m le1 a w S => s_assign S rfl rfl fun a S => c_end (wp_seq (wp_seq_k fun K1 hK1 => ?_)))))
 have j1 : ∀ m y1 g4 g5 g6 a w, St 28 m b0 [(17, (.b y1)), (6, (.i t1)), (5, (.p g4)), (3, (.p g5)), (2, (.p g6))] [Res.cells g4 51 [.s none 0 0, .s none 0 0], Res.cells g5 34 [.b20 x2.1, .w x2.2.1, .w4 x2.2.2.1, .q yb ch_1_0 ch_1_1 x2.2.2.2.1, .q Y71 ch_1_2 ch_1_3 x2.2.2.2.2], Res.cells g6 51 [.q Y34 ch_0_0 ch_0_1 x1.1, .q Y66 ch_0_2 ch_0_3 x1.2]] a w → smithyref15_Cache_Fill.j1 k x1 x2 t1 y1 = some r → K1 a w := by
  intro m y1 g4 g5 g6 a w S h0
  delta smithyref15_Cache_Fill.j1 at h0
  refine hK1 a w ?_
  rcases ite_of h0 with ⟨c1, h1⟩ | ⟨c1, h1⟩
  ·refine c_condT S rfl c1 ?_
   refine wp_seq (c_heldS S (.take 0 (.take 1 (.alts (.run 2 false .done .nil)))) 2 [Res.cells g4 51 [.s none 0 0, .s none 0 0], Res.cells g5 34 [.b20 x2.1, .w x2.2.1, .w4 x2.2.2.1, .q yb ch_1_0 ch_1_1 x2.2.2.2.1, .q Y71 ch_1_2 ch_1_3 x2.2.2.2.2], Res.cells g6 51 [.q Y34 ch_0_0 ch_0_1 x1.1, .q Y66 ch_0_2 ch_0_3 x1.2]] (.c0 (.c0 (.c0 .n))) ⟨Res.stay_cells, Res.stay_cells, Res.stay_cells, trivial⟩ [(2, (.p g6))] ⟨rfl, trivial⟩ (by kernel_rfl) (by kernel_rfl) ?_); clear S; intro w S CL hw le
   refine h_loada S CL hw le ⟨rfl, trivial⟩ rfl .h2 T51 (s' := [.q Y34 ch_0_0 ch_0_1 x1.1, .q Y66 ch_0_2 ch_0_3 x1.2]) rfl rfl rfl trivial fun a S CL => h_assign S CL hw le (subR rfl) rfl rfl rfl trivial fun a S CL => h_run' S rfl trivial (s_store S rfl rfl rfl (s' := [.q Y34 ch_0_0 ch_0_1 x1.1, .q Y66 ch_0_2 ch_0_3 x1.2]) .h T51 rfl rfl fun w S => ?_)
   refine h_back ⟨fun h => (nomatch h), ?_⟩
   refine h_done ?_; clear CL hw le
   refine x_thenN (wp_ret (x_thenR ?_))
   obtain rfl := Option.some.inj h1
   exact b_ret2 (d1 := (.b false)) (d2 := (.agg [.q Y34 ch_0_0 ch_0_1 x1.1, .q Y66 ch_0_2 ch_0_3 x1.2])) S rfl rfl (resD_cell rfl .h T51 rfl rfl) fun ok1 ok2 => S.retX (Hx := []) hb _ _ ((ch_0_0, ch_0_1, ch_0_2, ch_0_3) : (Option Addr) × Nat × (Option Addr) × Nat) .nil ⟨⟨ok1, trivial⟩, ok2, trivial⟩
  ·refine c_condF S rfl c1 (wp_skip (x_thenN (c_region (s_loada S rfl .h2 T51 (s' := [.q Y34 ch_0_0 ch_0_1 x1.1, .q Y66 ch_0_2 ch_0_3 x1.2]) rfl rfl fun a S => s_move S rfl rfl fun a S => bindX h1 fun t3 et3 h2 => s_callR S (fun (ch : (Option Addr) × Nat × (Option Addr) × Nat × Nat) => ((.agg [.q Y34 ch.1 ch.2.1 t3.1, .s ch.2.2.1 ch.2.2.2.1 ch.2.2.2.2]) : D)) (fun (ch : (Option Addr) × Nat × (Option Addr) × Nat × Nat) => Res.row Y66 66 ch.2.2.1 ch.2.2.2.1 ch.2.2.2.2 t3.2) N36 rfl rfl (smithyref15_Cache_without.ok k x1 t1 ch_0_0 ch_0_1 ch_0_2 ch_0_3 t3 et3 _ _) fun ch2 m le1 a w S => s_store S rfl rfl rfl (s' := [.q Y34 ch2.1 ch2.2.1 t3.1, .s ch2.2.2.1 ch2.2.2.2.1 ch2.2.2.2.2]) .h3 T51 rfl rfl fun w S => c_end (c_region (s_fieldAddr S rfl I51_0 T22 (by decide) rfl rfl fun a S => s_loadSl S rfl .h3 T22 (A := ch2.1) (len := (t3.1).length) (cap := ch2.2.1) rfl rfl fun a S => s_loada S rfl .h2 T34 (s' := [.b20 x2.1, .w x2.2.1, .w4 x2.2.2.1, .q yb ch_1_0 ch_1_1 x2.2.2.2.1, .q Y71 ch_1_2 ch_1_3 x2.2.2.2.2]) rfl rfl fun a S => bindX h2 fun t4 et4 h3 => s_callR S (fun (ch : (Option Addr) × Nat × Nat) => ((.s ch.1 ch.2.1 ch.2.2) : D)) (fun (ch : (Option Addr) × Nat × Nat) => Res.row Y34 34 ch.1 ch.2.1 ch.2.2 t4) N37 rfl rfl (smithyref13_Put.ok k t3.1 x2 ch2.1 ch2.2.1 ch_1_0 ch_1_1 ch_1_2 ch_1_3 t4 et4 _ _) fun ch3 m le1 a w S => s_fieldAddr S rfl I51_0 T22 (by decide) rfl rfl fun a S => s_store S rfl rfl rfl (s' := [.s ch3.1 ch3.2.1 ch3.2.2, .s ch2.2.2.1 ch2.2.2.2.1 ch2.2.2.2.2]) .h4 T22 rfl rfl fun w S => c_end ?_))))))
   refine wp_seq (c_heldS S (.take 0 (.take 1 (.alts (.run 2 false .done .nil)))) 2 [Res.row Y66 66 ch2.2.2.1 ch2.2.2.2.1 ch2.2.2.2.2 t3.2, Res.cells g4 51 [.s none 0 0, .s none 0 0], Res.cells g5 34 [.b20 x2.1, .w x2.2.1, .w4 x2.2.2.1, .q yb ch_1_0 ch_1_1 x2.2.2.2.1, .q Y71 ch_1_2 ch_1_3 x2.2.2.2.2], Res.cells g6 51 [.s ch3.1 ch3.2.1 ch3.2.2, .s ch2.2.2.1 ch2.2.2.2.1 ch2.2.2.2.2]] (.c1 (.c1 (.c1 (.c1 .n)))) ⟨Res.stay_row (flat_prod flat_arr flat_int), Res.stay_cells, Res.stay_cells, Res.stay_cells, trivial⟩ [(2, (.p g6))] ⟨rfl, trivial⟩ (by kernel_rfl) (by kernel_rfl) ?_); clear S; intro w S CL hw le
   refine h_loada S CL hw le ⟨rfl, trivial⟩ rfl .h3 T51 (s' := [.s ch3.1 ch3.2.1 ch3.2.2, .s ch2.2.2.1 ch2.2.2.2.1 ch2.2.2.2.2]) rfl rfl rfl trivial fun a S CL => h_assign S CL hw le (subR rfl) rfl rfl rfl trivial fun a S CL => h_run' S rfl trivial (s_store S rfl rfl rfl (s' := [.s ch3.1 ch3.2.1 ch3.2.2, .s ch2.2.2.1 ch2.2.2.2.1 ch2.2.2.2.2]) .h2 T51 rfl rfl fun w S => ?_)
   refine h_back ⟨fun h => (nomatch h), ?_⟩
   refine h_done ?_; clear CL hw le
   refine x_thenN (wp_ret ?_)
   replace S := S.rowfro .h
   obtain ⟨m, le1, S, hro⟩ := S
   replace S := S.slot (u := 27) (d' := (.agg [.q Y34 ch3.1 ch3.2.2 t4, .s ch2.2.2.1 ch2.2.2.2.1 ch2.2.2.2.2])) rfl (by simp [D.val, pd, cellsOf, Seg.cells, hro.2.1]) (by have h := (S.get 27 (.agg [.s ch3.1 ch3.2.1 ch3.2.2, .s ch2.2.2.1 ch2.2.2.2.1 ch2.2.2.2.2]) rfl).2; exact ⟨⟨by have := hro.2.2.1; omega, hro.2.2.2, hro.1, RdS.mono _ _ _⟩, h.2.1, trivial⟩)
   replace S := S.slotro (u := 25) rfl hro
   replace S := S.cellro (s' := [.q Y34 ch3.1 ch3.2.2 t4, .s ch2.2.2.1 ch2.2.2.2.1 ch2.2.2.2.2]) .h1 (by simp [cellsOf, Seg.cells, hro.2.1]) (fun h => ⟨⟨by have := hro.2.2.1; omega, hro.2.2.2, hro.1, RdS.mono _ _ _⟩, h.2.1, trivial⟩)
   replace S := S.cellro (s' := [.q Y34 ch3.1 ch3.2.2 t4, .s ch2.2.2.1 ch2.2.2.2.1 ch2.2.2.2.2]) .h3 (by simp [cellsOf, Seg.cells, hro.2.1]) (fun h => ⟨⟨by have := hro.2.2.1; omega, hro.2.2.2, hro.1, RdS.mono _ _ _⟩, h.2.1, trivial⟩)
   replace S := S.rowfro .h
   obtain ⟨m, le1, S, hro⟩ := S
   replace S := S.slot (u := 27) (d' := (.agg [.q Y34 ch3.1 ch3.2.2 t4, .q Y66 ch2.2.2.1 ch2.2.2.2.2 t3.2])) rfl (by simp [D.val, pd, cellsOf, Seg.cells, hro.2.1]) (by have h := (S.get 27 (.agg [.q Y34 ch3.1 ch3.2.2 t4, .s ch2.2.2.1 ch2.2.2.2.1 ch2.2.2.2.2]) rfl).2; exact ⟨h.1, ⟨by have := hro.2.2.1; omega, hro.2.2.2, hro.1, RdS.mono _ _ _⟩, trivial⟩)
   replace S := S.slot (u := 21) (d' := (.agg [.q Y34 ch2.1 ch2.2.1 t3.1, .q Y66 ch2.2.2.1 ch2.2.2.2.2 t3.2])) rfl (by simp [D.val, pd, cellsOf, Seg.cells, hro.2.1]) (by have h := (S.get 21 (.agg [.q Y34 ch2.1 ch2.2.1 t3.1, .s ch2.2.2.1 ch2.2.2.2.1 ch2.2.2.2.2]) rfl).2; exact ⟨h.1, ⟨by have := hro.2.2.1; omega, hro.2.2.2, hro.1, RdS.mono _ _ _⟩, trivial⟩)
   replace S := S.cellro (s' := [.q Y34 ch3.1 ch3.2.2 t4, .q Y66 ch2.2.2.1 ch2.2.2.2.2 t3.2]) .h (by simp [cellsOf, Seg.cells, hro.2.1]) (fun h => ⟨h.1, ⟨by have := hro.2.2.1; omega, hro.2.2.2, hro.1, RdS.mono _ _ _⟩, trivial⟩)
   replace S := S.cellro (s' := [.q Y34 ch3.1 ch3.2.2 t4, .q Y66 ch2.2.2.1 ch2.2.2.2.2 t3.2]) .h2 (by simp [cellsOf, Seg.cells, hro.2.1]) (fun h => ⟨h.1, ⟨by have := hro.2.2.1; omega, hro.2.2.2, hro.1, RdS.mono _ _ _⟩, trivial⟩)
   obtain rfl := Option.some.inj h3
   exact b_ret2 (d1 := (.b true)) (d2 := (.agg [.q Y34 ch3.1 ch3.2.2 t4, .q Y66 ch2.2.2.1 ch2.2.2.2.2 t3.2])) S rfl rfl (resD_cell rfl .h T51 rfl rfl) fun ok1 ok2 => S.retX (Hx := []) hb _ _ ((ch3.1, ch3.2.2, ch2.2.2.1, ch2.2.2.2.2) : (Option Addr) × Nat × (Option Addr) × Nat) .nil ⟨⟨ok1, trivial⟩, ok2, trivial⟩
 refine c_region' (s_move S rfl rfl fun a S => s_bin S rfl rfl rfl rfl fun a S => s_move S rfl rfl fun a S => ?_)
 rcases ite_of h1 with ⟨c2, h2⟩ | ⟨c2, h2⟩
 ·refine s_gF S (b := (decide (t1 < 0))) rfl rfl c2 rfl fun a S => s_gF S (b := (decide (t1 < 0))) rfl rfl c2 rfl fun a S => s_gF S (b := (decide (t1 < 0))) rfl rfl c2 rfl fun a S => s_pick S (b := true) (hc_of rfl c2) rfl rfl fun a S => c_end' (x_thenN ?_)
  exact j1 _ true g3 g2 g1 a w (S.sb rfl (.c0 (.c0 (.c0 .n)))) h2
 ·refine s_gT S (b := (decide (t1 < 0))) rfl rfl c2 (s_loada S rfl .h1 T34 (s' := [.b20 x2.1, .w x2.2.1, .w4 x2.2.2.1, .q yb ch_1_0 ch_1_1 x2.2.2.2.1, .q Y71 ch_1_2 ch_1_3 x2.2.2.2.2]) rfl rfl fun a S => s_gT S (b := (decide (t1 < 0))) rfl rfl c2 (bindX h2 fun t5 et5 h3 => s_callP S _ N9 rfl rfl (smithyref13_Right.ok k x2 ch_1_0 ch_1_1 ch_1_2 ch_1_3 t5 et5 _ _) fun ch4 m le1 a w S => s_gT S (b := (decide (t1 < 0))) rfl rfl c2 (s_not S rfl rfl fun a S => s_pick S (b := false) (hc_of rfl c2) rfl rfl fun a S => c_end' (x_thenN ?_))))
  exact j1 _ (!t5) g3 g2 g1 a w (S.sb rfl (.c0 (.c0 (.c0 .n)))) h3
abbrev bits_Len64.Ty : Type := Int → Option Int
def bits_Len64.Ctr (s : bits_Len64.Ty) : Prop := ∀ (x1 : Int) (r : Int), Ct (C := Unit) Try.prog 59 (s x1 = some r) [] [(.w x1)] (fun _ => (.i r)) fun _ => []
def bits_Len64.j3 (y5 : Int) (y6 : Int) : Option Int := if (0 : Int) ≤ (wr .u8 y6) ∧ (wr .u8 y6) < (txt0.size : Int) then (some (wr .i64 (y5 + (wr .i64 (bt txt0 (wr .u8 y6)))))) else none
def bits_Len64.j2 (y3 : Int) (y4 : Int) : Option Int := if (decide (256 ≤ y4)) = true then (bits_Len64.j3 (wr .i64 (y3 + 8)) (shr y4 8)) else (bits_Len64.j3 y3 y4)
def bits_Len64.j1 (y1 : Int) (y2 : Int) : Option Int := if (decide (65536 ≤ y2)) = true then (bits_Len64.j2 (wr .i64 (y1 + 16)) (shr y2 16)) else (bits_Len64.j2 y1 y2)
def bits_Len64.f (x1 : Int) : Option Int := if (decide (4294967296 ≤ x1)) = true then (bits_Len64.j1 32 (shr x1 32)) else (bits_Len64.j1 0 x1)
theorem bits_Len64.ok : bits_Len64.Ctr (bits_Len64.f) := by
 intro x1 r h0 mi w0 ok hm
 delta bits_Len64.f at h0
 refine c_enterZ (n := 25) ok hm func59 rfl rfl rfl fun b0 hb a S => c_region (s_assign S rfl rfl fun a S => c_end (wp_seq_k fun K1 hK1 => ?_))
 have j1 : ∀ m y1 y2 a w, St 25 m b0 [(2, (.i y1)), (0, (.w y2))] [] a w → bits_Len64.j1 y1 y2 = some r → K1 a w := by
  intro m y1 y2 a w S h0
  delta bits_Len64.j1 at h0
  refine hK1 a w (wp_seq_k fun K2 hK2 => ?_)
  have j2 : ∀ m y3 y4 a w, St 25 m b0 [(2, (.i y3)), (0, (.w y4))] [] a w → bits_Len64.j2 y3 y4 = some r → K2 a w := by
   intro m y3 y4 a w S h0
   delta bits_Len64.j2 at h0
   refine hK2 a w (wp_seq_k fun K3 hK3 => ?_)
   have j3 : ∀ m y5 y6 a w, St 25 m b0 [(2, (.i y5)), (0, (.w y6))] [] a w → bits_Len64.j3 y5 y6 = some r → K3 a w := by
    intro m y5 y6 a w S h0
    delta bits_Len64.j3 at h0
    refine hK3 a w (c_region (s_move S rfl rfl fun a S => s_move S rfl rfl fun a S => s_conv S rfl rfl underlying5 rfl fun a S => ?_))
    obtain ⟨c1, h1⟩ := chk_of h0; clear h0
    refine s_indexT S rfl rfl underlying9 c1.1 c1.2 rfl fun a S => s_conv S rfl rfl underlying3 rfl fun a S => s_bin S rfl rfl rfl rfl fun a S => s_assign S rfl rfl fun a S => c_end (wp_ret ?_)
    obtain rfl := Option.some.inj h1
    exact b_ret1 (d := (.i (wr .i64 (y5 + (wr .i64 (bt txt0 (wr .u8 y6))))))) S rfl rfl (S.rt hb)
   refine c_region (s_move S rfl rfl fun a S => s_bin S rfl rfl rfl rfl fun a S => c_end ?_)
   rcases ite_of h0 with ⟨c2, h1⟩ | ⟨c2, h1⟩
   ·refine c_condT S rfl c2 (c_region (s_move S rfl rfl fun a S => s_shr S (e := 8) rfl rfl (by decide) rfl rfl fun a S => s_assign S rfl rfl fun a S => c_end (c_region' (s_move S rfl rfl fun a S => s_bin S rfl rfl rfl rfl fun a S => s_assign S rfl rfl fun a S => c_end' (x_thenN ?_)))))
    exact j3 _ (wr .i64 (y3 + 8)) (shr y4 8) a w (S.sb rfl .nil) h1
   ·refine c_condF S rfl c2 (wp_skip (x_thenN ?_))
    exact j3 _ y3 y4 a w (S.sb rfl .nil) h1
  refine c_region (s_move S rfl rfl fun a S => s_bin S rfl rfl rfl rfl fun a S => c_end ?_)
  rcases ite_of h0 with ⟨c3, h1⟩ | ⟨c3, h1⟩
  ·refine c_condT S rfl c3 (c_region (s_move S rfl rfl fun a S => s_shr S (e := 16) rfl rfl (by decide) rfl rfl fun a S => s_assign S rfl rfl fun a S => c_end (c_region' (s_move S rfl rfl fun a S => s_bin S rfl rfl rfl rfl fun a S => s_assign S rfl rfl fun a S => c_end' (x_thenN ?_)))))
   exact j2 _ (wr .i64 (y1 + 16)) (shr y2 16) a w (S.sb rfl .nil) h1
  ·refine c_condF S rfl c3 (wp_skip (x_thenN ?_))
   exact j2 _ y1 y2 a w (S.sb rfl .nil) h1
 refine c_region (s_move S rfl rfl fun a S => s_bin S rfl rfl rfl rfl fun a S => c_end ?_)
 rcases ite_of h0 with ⟨c4, h1⟩ | ⟨c4, h1⟩
 ·refine c_condT S rfl c4 (c_region (s_move S rfl rfl fun a S => s_shr S (e := 32) rfl rfl (by decide) rfl rfl fun a S => s_assign S rfl rfl fun a S => c_end (c_region' (s_assign S rfl rfl fun a S => c_end' (x_thenN ?_)))))
  exact j1 _ 32 (shr x1 32) a w0 (S.sb rfl .nil) h1
 ·refine c_condF S rfl c4 (wp_skip (x_thenN ?_))
  exact j1 _ 0 x1 a w0 (S.sb rfl .nil) h1
abbrev bits_Len.Ty : Type := Int → Option Int
def bits_Len.Ctr (s : bits_Len.Ty) : Prop := ∀ (x1 : Int) (r : Int), Ct (C := Unit) Try.prog 48 (s x1 = some r) [] [(.w x1)] (fun _ => (.i r)) fun _ => []
def bits_Len.f (x1 : Int) : Option Int := (bits_Len64.f x1).bind fun t1 => (some t1)
theorem bits_Len.ok : bits_Len.Ctr (bits_Len.f) := by
 intro x1 r h0 mi w0 ok hm
 delta bits_Len.f at h0
 refine c_enterZ (n := 8) ok hm func48 rfl rfl rfl fun b0 hb a S => c_region (s_assign S rfl rfl fun a S => c_end (wp_seq (c_condF S rfl rfl (wp_skip (x_thenN (c_region (s_move S rfl rfl fun a S => bindX h0 fun t1 et1 h1 => s_callP S _ N59 rfl rfl (bits_Len64.ok x1 t1 et1 _ _) fun ch1 m le1 a w S => s_assign S rfl rfl fun a S => c_end (wp_ret ?_))))))))
 obtain rfl := Option.some.inj h1
 exact b_ret1 (d := (.i t1)) S rfl rfl (S.rt hb)
abbrev bytes_Compare.Ty : Type := (List Int) → (List Int) → Option Int
def bytes_Compare.Ctr (s : bytes_Compare.Ty) : Prop := ∀ (x1 : List Int) (x2 : List Int) (ch_0_0 : Option Addr) (ch_0_1 : Nat) (ch_1_0 : Option Addr) (ch_1_1 : Nat) (r : Int), Ct (C := Unit) Try.prog 49 (s x1 x2 = some r) [] [(.q yb ch_0_0 ch_0_1 x1), (.q yb ch_1_0 ch_1_1 x2)] (fun _ => (.i r)) fun _ => []
def bytes_Compare.f (x1 : List Int) (x2 : List Int) : Option Int := some (Lib.compareBytes (u8s x1) (u8s x2))
theorem bytes_Compare.ok : bytes_Compare.Ctr (bytes_Compare.f) := by
 intro x1 x2 ch_0_0 ch_0_1 ch_1_0 ch_1_1 r h0 mi w0 ok hm
 delta bytes_Compare.f at h0
 refine c_enterZ (n := 8) ok hm func49 rfl rfl rfl fun b0 hb a S => c_region (s_assign S rfl rfl fun a S => c_end (c_region (s_move S rfl rfl fun a S => s_move S rfl rfl fun a S => s_extCmp S X60 rfl rfl rfl fun a S => s_assign S rfl rfl fun a S => c_end (wp_ret ?_))))
 obtain rfl := Option.some.inj h0
 exact b_ret1 (d := (.i (Lib.compareBytes (u8s x1) (u8s x2)))) S rfl rfl (S.rt hb)
abbrev addr_Compare.Ty : Type := (List Int) → (List Int) → Option Int
def addr_Compare.Ctr (s : addr_Compare.Ty) : Prop := ∀ (x1 : List Int) (x2 : List Int) (r : Int), Ct (C := Unit) Try.prog 39 (s x1 x2 = some r) [] [(.agg [.b20 x1]), (.agg [.b20 x2])] (fun _ => (.i r)) fun _ => []
def addr_Compare.f (x1 : List Int) (x2 : List Int) : Option Int := (bytes_Compare.f (((x1).drop 0).take 20) (((x2).drop 0).take 20)).bind fun t1 => (some t1)
theorem addr_Compare.ok : addr_Compare.Ctr (addr_Compare.f) := by
 intro x1 x2 r h0 mi w0 ok hm
 delta addr_Compare.f at h0
 refine c_enterZ (n := 8) ok hm func39 rfl rfl rfl fun b0 hb a S => c_region (s_box S rfl rfl rfl fun g1 a w S => s_box S rfl rfl rfl fun g2 a w S => s_assign S rfl rfl fun a S => c_end ?_)
 replace S := S.freeze .h
 obtain ⟨m, le1, S⟩ := S
 replace S := S.freeze .h1
 obtain ⟨m, le1, S⟩ := S
 refine wp_seq (c_heldS S (.take 0 (.take 1 (.alts (.run 2 true (.take 3 .done) .nil)))) 4 [Res.fro g2 28 [.b20 x2], Res.fro g1 28 [.b20 x1]] (.c0 (.c0 .n)) ⟨Res.stay_fro, Res.stay_fro, trivial⟩ [(3, (.p g2)), (2, (.p g1))] (subR rfl) (by kernel_rfl) (by kernel_rfl) ?_); clear S; intro w S CL hw le
 refine h_sliceA S CL hw le (subR rfl) (i := 0) (j := 20) (o' := 0) (len := 20) (cap := 20) rfl underlying28 T5 (.inl ⟨rfl, rfl⟩) (.inl ⟨rfl, rfl⟩) (by decide) rfl rfl rfl rfl rfl trivial fun a S CL => h_sliceA S CL hw le (subR rfl) (i := 0) (j := 20) (o' := 0) (len := 20) (cap := 20) rfl underlying28 T5 (.inl ⟨rfl, rfl⟩) (.inl ⟨rfl, rfl⟩) (by decide) rfl rfl rfl rfl rfl trivial fun a S CL => h_run' S rfl trivial ?_
 replace S := (S.slup' (u := 5) (lo := 0) (c := 20) (ys := ((x1).drop 0).take 20) rfl (Pull.mem .h1).1 .h (.inl rfl) (by decide) (by decide) rfl).2
 replace S := (S.slup' (u := 6) (lo := 0) (c := 20) (ys := ((x2).drop 0).take 20) rfl (Pull.mem .h).1 .h (.inl rfl) (by decide) (by decide) rfl).2
 replace CL := CL.drop (lq' := [(3, (.p g2)), (2, (.p g1))]) (subR rfl)
 refine bindX h0 fun t1 et1 h1 => s_callP S _ N49 rfl rfl (bytes_Compare.ok (((x1).drop 0).take 20) (((x2).drop 0).take 20) (ad g1) 20 (ad g2) 20 t1 et1 _ _) fun ch1 m le1 a w S => ?_
 replace le := le.trans le1
 refine CL.bk hw S (.c0 (.c0 .n)) le fun hw => ?_
 replace CL := CL.add (t := 7) (d := (.i t1)) S rfl rfl
 refine h_assign S CL hw le (subR rfl) rfl rfl rfl trivial fun a S CL => ?_
 refine h_done ?_; clear CL hw le
 refine x_thenN (wp_ret ?_)
 obtain rfl := Option.some.inj h1
 exact b_ret1 (d := (.i t1)) S rfl rfl (S.rt hb)
end
end GW
