import Derived.Test.YtjgdpkmbnooemaaDoorProg
import Derived.Test.YtjgdpkmbnooemaaDoorGA
set_option linter.unusedVariables false
set_option linter.unusedSimpArgs false
set_option maxRecDepth 10000
set_option maxHeartbeats 4000000
namespace GW
open Go Go.RowKit Go.Proofs Go.Proofs.Tryd
noncomputable section
abbrev ff6_.Ty : Type := Int → Option Int
def ff6_.Ctr (s : ff6_.Ty) : Prop := ∀ (x1 : Int) (r : Int), Ct (C := Unit) Tryd.prog 83 (s x1 = some r) [] [(.w x1)] (fun _ => (.i r)) fun _ => []
def ff6_.j3 (y5 : Int) (y6 : Int) : Option Int := if (0 : Int) ≤ (wr .u8 y6) ∧ (wr .u8 y6) < (txt13.size : Int) then (some (wr .i64 (y5 + (wr .i64 (bt txt13 (wr .u8 y6)))))) else none
def ff6_.j2 (y3 : Int) (y4 : Int) : Option Int := if (decide (256 ≤ y4)) = true then (ff6_.j3 (wr .i64 (y3 + 8)) (shr y4 8)) else (ff6_.j3 y3 y4)
def ff6_.j1 (y1 : Int) (y2 : Int) : Option Int := if (decide (65536 ≤ y2)) = true then (ff6_.j2 (wr .i64 (y1 + 16)) (shr y2 16)) else (ff6_.j2 y1 y2)
def ff6_.f (x1 : Int) : Option Int := if (decide (4294967296 ≤ x1)) = true then (ff6_.j1 32 (shr x1 32)) else (ff6_.j1 0 x1)
theorem ff6_.ok : ff6_.Ctr (ff6_.f) := by
 intro x1 r h0 mi w0 ok hm
 delta ff6_.f at h0
 refine c_enterZ (n := 25) ok hm func83 rfl rfl rfl fun b0 hb a S => c_region (s_assign S rfl rfl fun a S => c_end (wp_seq_k fun K1 hK1 => ?_))
 have j1 : ∀ m y1 y2 a w, St 25 m b0 [(2, (.i y1)), (0, (.w y2))] [] a w → ff6_.j1 y1 y2 = some r → K1 a w := by
  intro m y1 y2 a w S h0
  delta ff6_.j1 at h0
  refine hK1 a w (wp_seq_k fun K2 hK2 => ?_)
  have j2 : ∀ m y3 y4 a w, St 25 m b0 [(2, (.i y3)), (0, (.w y4))] [] a w → ff6_.j2 y3 y4 = some r → K2 a w := by
   intro m y3 y4 a w S h0
   delta ff6_.j2 at h0
   refine hK2 a w (wp_seq_k fun K3 hK3 => ?_)
   have j3 : ∀ m y5 y6 a w, St 25 m b0 [(2, (.i y5)), (0, (.w y6))] [] a w → ff6_.j3 y5 y6 = some r → K3 a w := by
    intro m y5 y6 a w S h0
    delta ff6_.j3 at h0
    refine hK3 a w (c_region (s_move S rfl rfl fun a S => s_move S rfl rfl fun a S => s_conv S rfl rfl underlying5 rfl fun a S => ?_))
    obtain ⟨c1, h1⟩ := chk_of h0; clear h0
    refine s_indexT S rfl rfl underlying9 c1.1 c1.2 rfl fun a S => s_conv S rfl rfl underlying3 rfl fun a S => s_bin S rfl rfl rfl rfl fun a S => s_assign S rfl rfl fun a S => c_end (wp_ret ?_)
    obtain rfl := Option.some.inj h1
    exact b_ret1 (d := (.i (wr .i64 (y5 + (wr .i64 (bt txt13 (wr .u8 y6))))))) S rfl rfl (S.rt hb)
   refine c_region (s_move S rfl rfl fun a S => s_bin S rfl rfl rfl rfl fun a S => c_end ?_)
   rcases ite_of h0 with ⟨c2, h1⟩ | ⟨c2, h1⟩
   ·refine c_condT S rfl c2 (c_region (s_move S rfl rfl fun a S => s_shr S (e := 8) rfl rfl (by decide) rfl rfl fun a S => s_assign S rfl rfl fun a S => c_end (c_region' (s_move S rfl rfl fun a S => s_bin S rfl rfl rfl rfl fun a S => s_assign S rfl rfl fun a S => c_end' (x_thenN ?_)))))
    exact j3 _ (wr .i64 (y3 + 8)) (shr y4 8) a w (S.sb rfl .nil) h1
   ·refine c_condF S rfl c2 (wp_skip (x_thenN ?_))
    exact j3 _ y3 y4 a w (S.sb rfl .nil) h1
  refine c_region (s_move S rfl rfl fun a S => s_bin S rfl rfl rfl rfl fun a S => c_end ?_)
  rcases ite_of h0 with ⟨c3, h1⟩ | ⟨c3, h1⟩
  ·refine c_condT S rfl c3 (c_region (s_move S rfl rfl fun a S => s_shr S (e := 16) rfl rfl (by decide) rfl rfl fun a S => s_assign S rfl rfl fun a S => c_end (c_region' (s_move S rfl rfl fun a S => s_bin S rfl rfl rfl rfl fun a S => s_assign S rfl rfl fun a S => c_end' (x_thenN ?_)))))
   exact j2 _ (wr .i64 (y1 + 16)) (shr y2 16) a w (S.sb rfl .nil) h1
  ·refine c_condF S rfl c3 (wp_skip (x_thenN ?_))
   exact j2 _ y1 y2 a w (S.sb rfl .nil) h1
 refine c_region (s_move S rfl rfl fun a S => s_bin S rfl rfl rfl rfl fun a S => c_end ?_)
 rcases ite_of h0 with ⟨c4, h1⟩ | ⟨c4, h1⟩
 ·refine c_condT S rfl c4 (c_region (s_move S rfl rfl fun a S => s_shr S (e := 32) rfl rfl (by decide) rfl rfl fun a S => s_assign S rfl rfl fun a S => c_end (c_region' (s_assign S rfl rfl fun a S => c_end' (x_thenN ?_)))))
  exact j1 _ 32 (shr x1 32) a w0 (S.sb rfl .nil) h1
 ·refine c_condF S rfl c4 (wp_skip (x_thenN ?_))
  exact j1 _ 0 x1 a w0 (S.sb rfl .nil) h1
abbrev fg3_.Ty : Type := (List Int) → Option Int
def fg3_.Ctr (s : fg3_.Ty) : Prop := ∀ (x1 : List Int) (r : Int), Ct (C := Unit) Tryd.prog 71 (s x1 = some r) [] [(.a4 x1)] (fun _ => (.i r)) fun _ => []
def fg3_.j1 : Option Int := some 0
def fg3_.b1 (x1 : List Int) (rec1 : Int → Option Int) (y1 : Int) : Option Int := if (decide (0 ≤ y1)) = true then (if (0 : Int) ≤ y1 ∧ y1 < 4 then (if ((rd x1 y1) != 0) = true then ((ff6_.f (rd x1 y1)).bind fun t1 => (some (wr .i64 ((wr .i64 (64 * y1)) + t1)))) else (rec1 (wr .i64 (y1 - 1)))) else none) else fg3_.j1
def fg3_.l1 (x1 : List Int) : Nat → Int → Option Int
  | 0, _ => none
  | q + 1, y1 => fg3_.b1 x1 (fg3_.l1 x1 q) y1
def fg3_.f (k : Nat) (x1 : List Int) : Option Int := fg3_.l1 x1 k 3
theorem fg3_.ok (k : Nat) : fg3_.Ctr (fg3_.f k) := by
 intro x1 r h0 mi w0 ok hm
 delta fg3_.f at h0
 refine c_enterZ (n := 19) ok hm func71 rfl rfl rfl fun b0 hb a S => c_region (s_box S rfl rfl rfl fun g1 a w S => s_assign S rfl rfl fun a S => c_end (wp_seq_k fun K1 hK1 => ?_))
 have j1 : ∀ m a w, St 19 m b0 [] [] a w → fg3_.j1 = some r → K1 a w := by
  intro m a w S h0
  delta fg3_.j1 at h0
  refine hK1 a w (c_region (s_assign S rfl rfl fun a S => c_end (wp_ret ?_)))
  obtain rfl := Option.some.inj h0
  exact b_ret1 (d := (.i 0)) S rfl rfl (S.rt hb)
 refine c_region (s_assign S rfl rfl fun a S => c_end (wp_block ?_))
 refine c_loop (fun q1 a w => ∃ m y1 g7, St 19 m b0 [(3, (.i y1)), (1, (.p g7))] [Res.cells g7 54 [.w4 x1]] a w ∧ fg3_.l1 x1 q1 y1 = some r) ?_ ?_ (k := k) ⟨_, 3, g1, (S.sb rfl (.c0 .n)), h0⟩
 ·rintro a w ⟨m, y1, g7, S, h0⟩
  exact (nomatch (show (none : Option Int) = some r from h0))
 ·clear S h0
  rintro q1 a w ⟨m, y1, g7, S, h0⟩
  replace h0 : fg3_.b1 x1 (fg3_.l1 x1 q1) y1 = some r := h0
  delta fg3_.b1 at h0
  refine wp_seq (c_region (s_move S rfl rfl fun a S => s_bin S rfl rfl rfl rfl fun a S => c_end ?_))
  rcases ite_of h0 with ⟨c1, h1⟩ | ⟨c1, h1⟩
  ·refine c_condT S rfl c1 (wp_skip (x_thenN (wp_seq (wp_block (c_region (s_move S rfl rfl fun a S => ?_))))))
   obtain ⟨c2, h2⟩ := chk_of h1; clear h1
   refine s_iaddr S rfl rfl underlying54 T52 c2.1 c2.2 (mul1 _ _) rfl fun a S => s_loadi S (i := y1) rfl .h T52 .h rfl c2.1 c2.2 rfl fun a S => s_bin S rfl rfl rfl rfl fun a S => c_end ?_
   rcases ite_of h2 with ⟨c3, h3⟩ | ⟨c3, h3⟩
   ·refine c_condT S rfl c3 (c_region (s_move S rfl rfl fun a S => s_bin S rfl rfl rfl rfl fun a S => s_move S rfl rfl fun a S => s_iaddr S rfl rfl underlying54 T52 c2.1 c2.2 (mul1 _ _) rfl fun a S => s_loadi S (i := y1) rfl .h T52 .h rfl c2.1 c2.2 rfl fun a S => bindX h3 fun t1 et1 h4 => s_callP S _ N83 rfl rfl (ff6_.ok (rd x1 y1) t1 et1 _ _) fun ch1 m le1 a w S => s_bin S rfl rfl rfl rfl fun a S => s_assign S rfl rfl fun a S => c_end (wp_ret (x_blockR (x_thenR (x_thenR (x_blockR (x_thenR ?_))))))))
    obtain rfl := Option.some.inj h4
    exact b_ret1 (d := (.i (wr .i64 ((wr .i64 (64 * y1)) + t1)))) S rfl rfl (S.rt hb)
   ·refine c_condF S rfl c3 (wp_skip (x_blockN (x_thenN (c_region' (s_move S rfl rfl fun a S => s_bin S rfl rfl rfl rfl fun a S => s_assign S rfl rfl fun a S => c_end' (x_thenN ?_))))))
    exact ⟨_, (wr .i64 (y1 - 1)), g7, (S.sb rfl (.c0 .n)), h3⟩
  ·refine c_condF S rfl c1 (wp_exit (x_thenX (x_thenX (x_blockX (x_thenN ?_)))))
   exact j1 _ a w (S.sub trivial .nil) h1
abbrev fe0_.Ty : Type := PT61 → (List Int) → Option Bool
def fe0_.Ctr (s : fe0_.Ty) : Prop := ∀ (x1 : PT61) (x2 : List Int) (ch_0_0 : Option Addr) (r : Bool), Ct (C := Unit) Tryd.prog 48 (s x1 x2 = some r) [] [(.rf (.pointer ch_0_0) (PR61 ch_0_0 x1)), (.a4 x2)] (fun _ => (.b r)) fun _ => []
def fe0_.f (k : Nat) (x1 : PT61) (x2 : List Int) : Option Bool := if PT61.nn x1 = true then (if (((PT61.to x1).1) == 1) = true then ((fg3_.f k x2).bind fun t1 => (some (decide (t1 ≤ 160)))) else (if (((PT61.to x1).1) == 2) = true then ((fg3_.f k x2).bind fun t2 => (some (decide (t2 ≤ 1)))) else (some true))) else none
theorem fe0_.ok (k : Nat) : fe0_.Ctr (fe0_.f k) := by
 intro x1 x2 ch_0_0 r h0 mi w0 ok hm
 delta fe0_.f at h0
 refine c_enterZ (n := 19) ok hm func48 rfl rfl rfl fun b0 hb a S => c_region (s_box S rfl rfl rfl fun g1 a w S => s_assign S rfl rfl fun a S => c_end (wp_seq (c_region (s_move S rfl rfl fun a S => ?_))))
 obtain ⟨c1, h1⟩ := chk_of h0; clear h0
 refine s_nilQ S rfl PH61 c1 rfl fun a S => s_faddrP S (tF := yb) (y := (PT61.to x1).1) rfl I67_0 T64 (by decide) (fun m h => (at_fst (at_0 h))) rfl fun a S => s_ld1 S (v := (.int .u8 ((PT61.to x1).1))) rfl T64 (fun _ => rfl) rfl fun a S => c_end (wp_block (c_region (s_bin S rfl rfl rfl rfl fun a S => s_assign S rfl rfl fun a S => c_end ?_)))
 rcases ite_of h1 with ⟨c2, h2⟩ | ⟨c2, h2⟩
 ·refine c_condT S rfl c2 (c_region (s_loada S rfl .h T54 (s' := [.w4 x2]) rfl rfl fun a S => bindX h2 fun t1 et1 h3 => s_callP S _ N71 rfl rfl (fg3_.ok k x2 t1 et1 _ _) fun ch1 m le1 a w S => s_bin S rfl rfl rfl rfl fun a S => s_assign S rfl rfl fun a S => c_end (wp_ret (x_blockR (x_thenR ?_)))))
  obtain rfl := Option.some.inj h3
  exact b_ret1 (d := (.b (decide (t1 ≤ 160)))) S rfl rfl (S.rt hb)
 ·refine c_condF S rfl c2 (c_region (s_bin S rfl rfl rfl rfl fun a S => s_assign S rfl rfl fun a S => c_end ?_))
  rcases ite_of h2 with ⟨c3, h3⟩ | ⟨c3, h3⟩
  ·refine c_condT S rfl c3 (c_region (s_loada S rfl .h T54 (s' := [.w4 x2]) rfl rfl fun a S => bindX h3 fun t2 et2 h4 => s_callP S _ N71 rfl rfl (fg3_.ok k x2 t2 et2 _ _) fun ch2 m le1 a w S => s_bin S rfl rfl rfl rfl fun a S => s_assign S rfl rfl fun a S => c_end (wp_ret (x_blockR (x_thenR ?_)))))
   obtain rfl := Option.some.inj h4
   exact b_ret1 (d := (.b (decide (t2 ≤ 1)))) S rfl rfl (S.rt hb)
  ·refine c_condF S rfl c3 (wp_skip (x_blockN (x_thenN (c_region (s_assign S rfl rfl fun a S => c_end (wp_ret ?_))))))
   obtain rfl := Option.some.inj h3
   exact b_ret1 (d := (.b true)) S rfl rfl (S.rt hb)
abbrev fb9_.Ty : Type := (L38 × Bool) → PT61 → Option ((L38 × Bool))
def fb9_.Ctr (s : fb9_.Ty) : Prop := ∀ (x1 : L38 × Bool) (x2 : PT61) (ch_0_0 : Nat) (ch_0_1 : Option Addr) (ch_0_2 : Nat) (ch_1_0 : Option Addr) (r : (L38 × Bool)), Ct (C := ((Option Addr) × Nat)) Tryd.prog 45 (s x1 x2 = some r) [Res.cells ch_0_0 98 [.q Y56 ch_0_1 ch_0_2 x1.1, .b x1.2]] [(.p ch_0_0), (.rf (.pointer ch_1_0) (PR61 ch_1_0 x2))] (fun _ => (.tup [])) fun ch => [Res.cells ch_0_0 98 [.q Y56 ch.1 ch.2 r.1, .b r.2]]
def fb9_.b1 (self0 : fb9_.Ty) (t2 : (List PT61)) (rec1 : Int → (List ((List Int) × (List Int) × Int)) → Bool → Option ((L38 × Bool))) (y1 : Int) (y2 : List ((List Int) × (List Int) × Int)) (y3 : Bool) : Option ((L38 × Bool)) := if (decide (y1 < ((t2).length : Int))) = true then (if (0 : Int) ≤ y1 ∧ y1 < ((t2).length : Int) then ((self0 (y2, y3) (gt t2 y1)).bind fun t5 => (rec1 (wr .i64 (y1 + 1)) t5.1 t5.2)) else none) else (some (y2, y3))
def fb9_.l1 (self0 : fb9_.Ty) (t2 : (List PT61)) : Nat → Int → (List ((List Int) × (List Int) × Int)) → Bool → Option ((L38 × Bool))
  | 0, _, _, _ => none
  | q + 1, y1, y2, y3 => fb9_.b1 self0 t2 (fb9_.l1 self0 t2 q) y1 y2 y3
def fb9_.body (self0 : fb9_.Ty) (k : Nat) (x1 : L38 × Bool) (x2 : PT61) : Option ((L38 × Bool)) := if (0 : Int) ≤ 0 ∧ 0 < ((x1.1).length : Int) then (if (0 : Int) ≤ 1 ∧ (1 : Int) ≤ ((x1.1).length : Int) ∧ ((x1.1).length : Int) ≤ ((x1.1).length : Int) then (if PT61.nn x2 = true then (if (decide (((PT61.to x2).1) < 3)) = true then (if x1.2 = true then (some (x1.1.drop (Int.toNat 1), true)) else ((fe0_.f k x2 ((gt x1.1 0).1)).bind fun t1 => (some (x1.1.drop (Int.toNat 1), !t1)))) else (if (((PT61.to x2).1) == 3) = true then (some (x1.1.drop (Int.toNat 1), x1.2)) else ((fa8_.f k x2 ((gt x1.1 0).2.2)).bind fun t2 => (fb9_.l1 self0 t2 k 0 (x1.1.drop (Int.toNat 1)) x1.2)))) else none) else none) else none
theorem fb9_.okb (self0 : fb9_.Ty) (c_0 : fb9_.Ctr self0) (k : Nat) : fb9_.Ctr (fb9_.body self0 k) := by
 intro x1 x2 ch_0_0 ch_0_1 ch_0_2 ch_1_0 r h0 mi w0 ok hm
 delta fb9_.body at h0
 refine c_enterZ (n := 58) ok hm func45 rfl rfl rfl fun b0 hb a S => c_region (s_move S rfl rfl fun a S => s_nilchk S rfl rfl fun a S => s_fieldAddr S rfl I98_0 T38 (by decide) rfl rfl fun a S => s_loadSl S rfl .h T38 (A := ch_0_1) (len := (x1.1).length) (cap := ch_0_2) rfl rfl fun a S => ?_)
 obtain ⟨c1, h1⟩ := chk_of h0; clear h0
 refine s_iaddrS S rfl rfl rfl underlying38 T56 c1.1 c1.2 rfl fun p1 a S => s_ldA S (fun (c : Unit × (Option Addr × Nat) × Unit) => (Y56.segs (gt x1.1 0) c)) rfl T56 (fun _ => rfl) rfl fun ch1 a S => ?_
 refine s_alloc S Z56 rfl ⟨rfl, rfl, rfl, trivial⟩ rfl fun g1 a w S => s_store S rfl rfl rfl (s' := [.w4 ((gt x1.1 0).1), .q yb ch1.2.1.1 ch1.2.1.2 ((gt x1.1 0).2.1), .i ((gt x1.1 0).2.2)]) .h T56 rfl rfl fun w S => c_end (c_region (s_move S rfl rfl fun a S => s_move S rfl rfl fun a S => s_nilchk S rfl rfl fun a S => s_fieldAddr S rfl I98_0 T38 (by decide) rfl rfl fun a S => s_loadSl S rfl .h1 T38 (A := ch_0_1) (len := (x1.1).length) (cap := ch_0_2) rfl rfl fun a S => ?_))
 obtain ⟨c2, h2⟩ := chk_of h1; clear h1
 refine s_cutS S (i := 1) (j := ((x1.1).length : Int)) (ys := x1.1.drop (Int.toNat 1)) rfl rfl underlying38 T56 (.inr ⟨_, _, rfl, rfl⟩) (.inl ⟨rfl, rfl⟩) c2 rfl (cut_end rfl) fun A1 cp1 a S => s_nilchk S rfl rfl fun a S => s_fieldAddr S rfl I98_0 T38 (by decide) rfl rfl fun a S => s_store S rfl rfl rfl (s' := [.q Y56 A1 cp1 (x1.1.drop (Int.toNat 1)), .b x1.2]) .h1 T38 rfl rfl fun w S => c_end (wp_seq (c_region (s_move S rfl rfl fun a S => ?_)))
 obtain ⟨c3, h3⟩ := chk_of h2; clear h2
 refine s_nilQ S rfl PH61 c3 rfl fun a S => s_faddrP S (tF := yb) (y := (PT61.to x2).1) rfl I67_0 T64 (by decide) (fun m h => (at_fst (at_0 h))) rfl fun a S => s_ld1 S (v := (.int .u8 ((PT61.to x2).1))) rfl T64 (fun _ => rfl) rfl fun a S => s_bin S rfl rfl rfl rfl fun a S => c_end ?_
 rcases ite_of h3 with ⟨c4, h4⟩ | ⟨c4, h4⟩
 ·refine c_condT S rfl c4 (c_region (s_move S rfl rfl fun a S => s_move S rfl rfl fun a S => s_nilchk S rfl rfl fun a S => s_fieldAddr S rfl I98_1 T4 (by decide) rfl rfl fun a S => s_load1 S rfl .h1 T4 (v := (.bool x1.2)) rfl rfl fun a S => s_move S rfl rfl fun a S => ?_))
  rcases ite_of h4 with ⟨c5, h5⟩ | ⟨c5, h5⟩
  ·refine s_gF S (b := x1.2) rfl rfl c5 rfl fun a S => s_gF S (b := x1.2) rfl rfl c5 rfl fun a S => s_gF S (b := x1.2) rfl rfl c5 rfl fun a S => s_gF S (b := x1.2) rfl rfl c5 rfl fun a S => s_gF S (b := x1.2) rfl rfl c5 rfl fun a S => s_pick S (b := true) (hc_of rfl c5) rfl rfl fun a S => s_nilchk S rfl rfl fun a S => s_fieldAddr S rfl I98_1 T4 (by decide) rfl rfl fun a S => s_store S rfl rfl rfl (s' := [.q Y56 A1 cp1 (x1.1.drop (Int.toNat 1)), .b true]) .h1 T4 rfl rfl fun w S => c_end (wp_ret (x_thenR ?_))
   obtain rfl := Option.some.inj h5
   exact b_ret0 S rfl (S.retX (Hx := []) hb _ _ ((A1, cp1) : (Option Addr) × Nat) (.c1 .n) trivial)
  ·refine s_gT S (b := x1.2) rfl rfl c5 (s_move S rfl rfl fun a S => s_gT S (b := x1.2) rfl rfl c5 (s_fieldAddr S rfl I56_0 T54 (by decide) rfl rfl fun a S => s_gT S (b := x1.2) rfl rfl c5 (s_loada S rfl .h T54 (s' := [.w4 ((gt x1.1 0).1)]) rfl rfl fun a S => s_gT S (b := x1.2) rfl rfl c5 (bindX h5 fun t1 et1 h6 => s_callP S _ N48 rfl rfl (fe0_.ok k x2 ((gt x1.1 0).1) ch_1_0 t1 et1 _ _) fun ch2 m le1 a w S => s_gT S (b := x1.2) rfl rfl c5 (s_not S rfl rfl fun a S => s_pick S (b := false) (hc_of rfl c5) rfl rfl fun a S => s_nilchk S rfl rfl fun a S => s_fieldAddr S rfl I98_1 T4 (by decide) rfl rfl fun a S => s_store S rfl rfl rfl (s' := [.q Y56 A1 cp1 (x1.1.drop (Int.toNat 1)), .b (!t1)]) .h1 T4 rfl rfl fun w S => c_end (wp_ret (x_thenR ?_)))))))
   obtain rfl := Option.some.inj h6
   exact b_ret0 S rfl (S.retX (Hx := []) hb _ _ ((A1, cp1) : (Option Addr) × Nat) (.c1 .n) trivial)
 ·refine c_condF S rfl c4 (wp_skip (x_thenN (wp_seq (c_region (s_move S rfl rfl fun a S => s_nilQ S rfl PH61 c3 rfl fun a S => s_faddrP S (tF := yb) (y := (PT61.to x2).1) rfl I67_0 T64 (by decide) (fun m h => (at_fst (at_0 h))) rfl fun a S => s_ld1 S (v := (.int .u8 ((PT61.to x2).1))) rfl T64 (fun _ => rfl) rfl fun a S => s_bin S rfl rfl rfl rfl fun a S => c_end ?_)))))
  rcases ite_of h4 with ⟨c6, h5⟩ | ⟨c6, h5⟩
  ·refine c_condT S rfl c6 (wp_ret (x_thenR ?_))
   obtain rfl := Option.some.inj h5
   exact b_ret0 S rfl (S.retX (Hx := []) hb _ _ ((A1, cp1) : (Option Addr) × Nat) (.c1 .n) trivial)
  ·refine c_condF S rfl c6 (wp_skip (x_thenN (c_region (s_move S rfl rfl fun a S => s_fieldAddr S rfl I56_2 T3 (by decide) rfl rfl fun a S => s_load1 S rfl .h T3 (v := (.int .i64 ((gt x1.1 0).2.2))) rfl rfl fun a S => bindX h5 fun t2 et2 h6 => s_callP S _ N44 rfl rfl (fa8_.ok k x2 ((gt x1.1 0).2.2) ch_1_0 t2 et2 _ _) fun ch3 m le1 a w S => s_lenS S rfl underlying65 rfl fun a S => s_move S rfl rfl fun a S => c_end (wp_block ?_)))))
   refine c_loop (fun q1 a w => ∃ m y1 A2 cp4 A3 cp5 y2 y3, St 58 m b0 [(50, (.i y1)), (49, (.i ((t2).length : Int))), (48, (.q PY61 A2 cp4 t2)), (0, (.p ch_0_0))] [Res.cells ch_0_0 98 [.q Y56 A3 cp5 y2, .b y3]] a w ∧ fb9_.l1 self0 t2 q1 y1 y2 y3 = some r) ?_ ?_ (k := k) ⟨_, 0, ch3.1, ch3.2, A1, cp1, (x1.1.drop (Int.toNat 1)), x1.2, (S.sb rfl (.c1 .n)), h6⟩
   ·rintro a w ⟨m, y1, A2, cp4, A3, cp5, y2, y3, S, h0⟩
    exact (nomatch (show (none : Option ((L38 × Bool))) = some r from h0))
   ·clear S h6
    rintro q1 a w ⟨m, y1, A2, cp4, A3, cp5, y2, y3, S, h0⟩
    replace h0 : fb9_.b1 self0 t2 (fb9_.l1 self0 t2 q1) y1 y2 y3 = some r := h0
    delta fb9_.b1 at h0
    refine c_region (s_bin S rfl rfl rfl rfl fun a S => c_end (wp_seq ?_))
    rcases ite_of h0 with ⟨c7, h1⟩ | ⟨c7, h1⟩
    ·refine c_condT S rfl c7 (wp_skip (x_thenN (wp_seq (wp_block (c_region ?_)))))
     obtain ⟨c8, h2⟩ := chk_of h1; clear h1
     refine s_iaddrS S rfl rfl rfl underlying65 T61 c8.1 c8.2 rfl fun p4 a S => s_ldF S (fun c => .pointer c) (fun c => PR61 c (gt t2 y1)) rfl T61 (fun _ => rfl) rfl fun ch8 a S => s_assign S rfl rfl fun a S => c_end (c_region' (s_move S rfl rfl fun a S => s_move S rfl rfl fun a S => bindX h2 fun t5 et5 h3 => s_callX S (ds' := [(.p ch_0_0), (.rf (.pointer ch8) (PR61 ch8 (gt t2 y1)))]) (ds := [(.p ch_0_0), (.rf (.pointer ch8) (PR61 ch8 (gt t2 y1)))]) [Res.cells ch_0_0 98 [.q Y56 A3 cp5 y2, .b y3]] [] (fun (ch : (Option Addr) × Nat) => ((.tup []) : D)) (fun (ch : (Option Addr) × Nat) => [Res.cells ch_0_0 98 [.q Y56 ch.1 ch.2 t5.1, .b t5.2]]) (fun (ch : (Option Addr) × Nat) => [Res.cells ch_0_0 98 [.q Y56 ch.1 ch.2 t5.1, .b t5.2]]) (fun _ => rfl) N45 rfl rfl (fun ok => ok) (.c0 .n) rfl (c_0 (y2, y3) (gt t2 y1) ch_0_0 A3 cp5 ch8 t5 et5 _ _) fun ch9 m le1 a w S => c_end' (x_blockN (x_thenN (c_region' (s_bin S rfl rfl rfl rfl fun a S => s_move S rfl rfl fun a S => c_end' (x_thenN ?_)))))))
     exact ⟨_, (wr .i64 (y1 + 1)), A2, cp4, ch9.1, ch9.2, t5.1, t5.2, (S.sb rfl (.c0 .n)), h3⟩
    ·refine c_condF S rfl c7 (wp_exit (x_thenX (x_thenX (x_blockX (b_end ?_)))))
     obtain rfl := Option.some.inj h1
     exact b_ret0 S rfl (S.retX (Hx := []) hb _ _ ((A3, cp5) : (Option Addr) × Nat) (.c0 .n) trivial)
def fb9_.f : Nat → fb9_.Ty
  | 0 => fun _ _ => none
  | k + 1 => fb9_.body (fb9_.f k) k
theorem fb9_.oks : ∀ k : Nat, fb9_.Ctr (fb9_.f k)
  | 0 => fun _ _ _ _ _ _ r h0 => (nomatch (show (none : Option ((L38 × Bool))) = some r from h0))
  | k + 1 => by
    have ih := fb9_.oks k
    exact fb9_.okb (fb9_.f k) ih k
theorem fb9_.ok (k : Nat) : fb9_.Ctr (fb9_.f k) := (fb9_.oks k)
abbrev ff7_.Ty : Type := PT61 → L38 → Option Bool
def ff7_.Ctr (s : ff7_.Ty) : Prop := ∀ (x1 : PT61) (x2 : L38) (ch_0_0 : Option Addr) (ch_1_0 : Option Addr) (ch_1_1 : Nat) (r : Bool), Ct (C := Unit) Tryd.prog 30 (s x1 x2 = some r) [] [(.rf (.pointer ch_0_0) (PR61 ch_0_0 x1)), (.q Y56 ch_1_0 ch_1_1 x2)] (fun _ => (.b r)) fun _ => []
def ff7_.f (k : Nat) (x1 : PT61) (x2 : L38) : Option Bool := (fb9_.f k (x2, false) x1).bind fun t1 => (some t1.2)
theorem ff7_.ok (k : Nat) : ff7_.Ctr (ff7_.f k) := by
 intro x1 x2 ch_0_0 ch_1_0 ch_1_1 r h0 mi w0 ok hm
 delta ff7_.f at h0
 refine c_enterZ (n := 16) ok hm func30 rfl rfl rfl fun b0 hb a S => c_region (s_assign S rfl rfl fun a S => c_end (c_region (s_move S rfl rfl fun a S => s_bldS S (ds := [(0, (.q Y56 ch_1_0 ch_1_1 x2))]) (zs := [.s none 0 0, .b false]) (s' := [.q Y56 ch_1_0 ch_1_1 x2, .b false]) rfl underlying98 P98 Z98 ⟨rfl, rfl, trivial⟩ rfl rfl fun a S => s_box S rfl rfl rfl fun g1 a w S => s_assign S rfl rfl fun a S => c_end (c_region (s_move S rfl rfl fun a S => s_move S rfl rfl fun a S => bindX h0 fun t1 et1 h1 => s_callX S (ds' := [(.p g1), (.rf (.pointer ch_0_0) (PR61 ch_0_0 x1))]) (ds := [(.p g1), (.rf (.pointer ch_0_0) (PR61 ch_0_0 x1))]) [Res.cells g1 98 [.q Y56 ch_1_0 ch_1_1 x2, .b false]] [] (fun (ch : (Option Addr) × Nat) => ((.tup []) : D)) (fun (ch : (Option Addr) × Nat) => [Res.cells g1 98 [.q Y56 ch.1 ch.2 t1.1, .b t1.2]]) (fun (ch : (Option Addr) × Nat) => [Res.cells g1 98 [.q Y56 ch.1 ch.2 t1.1, .b t1.2]]) (fun _ => rfl) N45 rfl rfl (fun ok => ok) (.c0 .n) rfl (fb9_.ok k (x2, false) x1 g1 ch_1_0 ch_1_1 ch_0_0 t1 et1 _ _) fun ch1 m le1 a w S => c_end (c_region (s_move S rfl rfl fun a S => s_nilchk S rfl rfl fun a S => s_fieldAddr S rfl I98_1 T4 (by decide) rfl rfl fun a S => s_load1 S rfl .h T4 (v := (.bool t1.2)) rfl rfl fun a S => s_assign S rfl rfl fun a S => c_end (wp_ret ?_))))))))
 obtain rfl := Option.some.inj h1
 exact b_ret1 (d := (.b t1.2)) S rfl rfl (S.rt hb)
abbrev fe_.Ty : Type := (L38 × Int) → Int → Option ((Unit × Int))
def fe_.Ctr (s : fe_.Ty) : Prop := ∀ (x1 : L38 × Int) (x2 : Int) (ch_0_0 : Nat) (ch_0_1 : Option Addr) (ch_0_2 : Nat) (r : (Unit × Int)), Ct (C := Unit) Tryd.prog 46 (s x1 x2 = some r) [Res.cells ch_0_0 73 [.q Y56 ch_0_1 ch_0_2 x1.1, .i x1.2]] [(.p ch_0_0), (.i x2)] (fun _ => (.tup [])) fun _ => [Res.cells ch_0_0 73 [.q Y56 ch_0_1 ch_0_2 x1.1, .i r.2]]
def fe_.f (x1 : L38 × Int) (x2 : Int) : Option ((Unit × Int)) := if (x1.2 == 0) = true then (some ((), x2)) else (some ((), x1.2))
theorem fe_.ok : fe_.Ctr (fe_.f) := by
 intro x1 x2 ch_0_0 ch_0_1 ch_0_2 r h0 mi w0 ok hm
 delta fe_.f at h0
 refine c_enterZ (n := 13) ok hm func46 rfl rfl rfl fun b0 hb a S => c_region (s_move S rfl rfl fun a S => s_nilchk S rfl rfl fun a S => s_fieldAddr S rfl I73_1 T40 (by decide) rfl rfl fun a S => s_load1 S rfl .h T40 (v := (.int .i64 x1.2)) rfl rfl fun a S => s_bin S rfl rfl rfl rfl fun a S => c_end ?_)
 rcases ite_of h0 with ⟨c1, h1⟩ | ⟨c1, h1⟩
 ·refine c_condT S rfl c1 (c_region' (s_move S rfl rfl fun a S => s_move S rfl rfl fun a S => s_nilchk S rfl rfl fun a S => s_fieldAddr S rfl I73_1 T40 (by decide) rfl rfl fun a S => s_store S rfl rfl rfl (s' := [.q Y56 ch_0_1 ch_0_2 x1.1, .i x2]) .h T40 rfl rfl fun w S => c_end' (b_end ?_)))
  obtain rfl := Option.some.inj h1
  exact b_ret0 S rfl (S.retX (Hx := []) hb _ _ (() : Unit) (.c0 .n) trivial)
 ·refine c_condF S rfl c1 (wp_skip (b_end ?_))
  obtain rfl := Option.some.inj h1
  exact b_ret0 S rfl (S.retX (Hx := []) hb _ _ (() : Unit) (.c0 .n) trivial)
abbrev ff4_.Ty : Type := (List Int) → Option ((List Int))
def ff4_.Ctr (s : ff4_.Ty) : Prop := ∀ (x1 : List Int) (r : (List Int)), Ct (C := Unit) Tryd.prog 47 (s x1 = some r) [] [(.a4 x1)] (fun _ => (.a32 r)) fun _ => []
def ff4_.j1 (y1 : List Int) : Option ((List Int)) := some y1
def ff4_.j2 (y14 : Int) (rec1 : Int → (List Int) → Option ((List Int))) (y20 : List Int) : Option ((List Int)) := rec1 (wr .i64 (y14 + 1)) y20
def ff4_.b2 (x1 : List Int) (y14 : Int) (rec1 : Int → (List Int) → Option ((List Int))) (rec2 : Int → (List Int) → Option ((List Int))) (y23 : Int) (y24 : List Int) : Option ((List Int)) := if (decide (y23 < 8)) = true then (if (0 : Int) ≤ (wr .i64 (8 * y23)) then (if (0 : Int) ≤ (wr .i64 ((wr .i64 (31 - (wr .i64 (8 * y14)))) - y23)) ∧ (wr .i64 ((wr .i64 (31 - (wr .i64 (8 * y14)))) - y23)) < 32 then (rec2 (wr .i64 (y23 + 1)) (y24.set (Int.toNat (wr .i64 ((wr .i64 (31 - (wr .i64 (8 * y14)))) - y23))) (wr .u8 (shr (rd x1 y14) (min (Int.toNat (wr .i64 (8 * y23))) 64))))) else none) else none) else (ff4_.j2 y14 rec1 y24)
def ff4_.l2 (x1 : List Int) (y14 : Int) (rec1 : Int → (List Int) → Option ((List Int))) : Nat → Int → (List Int) → Option ((List Int))
  | 0, _, _ => none
  | q + 1, y23, y24 => ff4_.b2 x1 y14 rec1 (ff4_.l2 x1 y14 rec1 q) y23 y24
def ff4_.b1 (k : Nat) (x1 : List Int) (rec1 : Int → (List Int) → Option ((List Int))) (y14 : Int) (y15 : List Int) : Option ((List Int)) := if (decide (y14 < 4)) = true then (if (0 : Int) ≤ y14 ∧ y14 < 4 then (ff4_.l2 x1 y14 rec1 k 0 y15) else none) else (ff4_.j1 y15)
def ff4_.l1 (k : Nat) (x1 : List Int) : Nat → Int → (List Int) → Option ((List Int))
  | 0, _, _ => none
  | q + 1, y14, y15 => ff4_.b1 k x1 (ff4_.l1 k x1 q) y14 y15
def ff4_.f (k : Nat) (x1 : List Int) : Option ((List Int)) := ff4_.l1 k x1 k 0 [0, 0, 0, 0, 0, 0, 0, 0, 0, 0, 0, 0, 0, 0, 0, 0, 0, 0, 0, 0, 0, 0, 0, 0, 0, 0, 0, 0, 0, 0, 0, 0]
theorem ff4_.ok (k : Nat) : ff4_.Ctr (ff4_.f k) := by
 intro x1 r h0 mi w0 ok hm
 delta ff4_.f at h0
 refine c_enterZ (n := 29) ok hm func47 rfl rfl rfl fun b0 hb a S => c_region (s_box S rfl rfl rfl fun g1 a w S => s_alloc S Z23 rfl ⟨rfl, trivial⟩ rfl fun g2 a w S => c_end (c_region (s_alloc S Z23 rfl ⟨rfl, trivial⟩ rfl fun g3 a w S => c_end (wp_seq_k fun K1 hK1 => ?_))))
 have j1 : ∀ m g26 g27 y1 a w, St 29 m b0 [(3, (.p g26)), (2, (.p g27))] [Res.cells g26 23 [.b32 y1], Res.cells g27 23 [.b32 z32]] a w → ff4_.j1 y1 = some r → K1 a w := by
  intro m g26 g27 y1 a w S h0
  delta ff4_.j1 at h0
  refine hK1 a w (c_region (s_loada S rfl .h T23 (s' := [.b32 y1]) rfl rfl fun a S => s_store S rfl rfl rfl (s' := [.b32 y1]) .h1 T23 rfl rfl fun w S => c_end (wp_ret ?_)))
  obtain rfl := Option.some.inj h0
  exact b_ret1 (d := (.a32 y1)) S rfl (resD_cell rfl .h1 T23 rfl rfl) (S.rt hb)
 refine c_region (s_loada S rfl .h2 T54 (s' := [.w4 x1]) rfl rfl fun a S => s_move S rfl rfl fun a S => c_end (wp_block ?_))
 refine c_loop (fun q1 a w => ∃ m y14 g48 g49 y15, St 29 m b0 [(8, (.i y14)), (7, (.a4 x1)), (3, (.p g48)), (2, (.p g49))] [Res.cells g48 23 [.b32 y15], Res.cells g49 23 [.b32 z32]] a w ∧ ff4_.l1 k x1 q1 y14 y15 = some r) ?_ ?_ (k := k) ⟨_, 0, g3, g2, z32, (S.sb rfl (.c0 (.c0 .n))), h0⟩
 ·rintro a w ⟨m, y14, g48, g49, y15, S, h0⟩
  exact (nomatch (show (none : Option ((List Int))) = some r from h0))
 ·clear S h0
  rintro q1 a w ⟨m, y14, g48, g49, y15, S, h0⟩
  replace h0 : ff4_.b1 k x1 (ff4_.l1 k x1 q1) y14 y15 = some r := h0
  delta ff4_.b1 at h0
  refine c_region (s_bin S rfl rfl rfl rfl fun a S => c_end (wp_seq ?_))
  rcases ite_of h0 with ⟨c1, h1⟩ | ⟨c1, h1⟩
  ·refine c_condT S rfl c1 (wp_skip (x_thenN (wp_seq_k fun K2 hK2 => ?_)))
   have j2 : ∀ m g56 g57 y20 a w, St 29 m b0 [(8, (.i y14)), (7, (.a4 x1)), (3, (.p g56)), (2, (.p g57))] [Res.cells g56 23 [.b32 y20], Res.cells g57 23 [.b32 z32]] a w → ff4_.j2 y14 (ff4_.l1 k x1 q1) y20 = some r → K2 a w := by
    intro m g56 g57 y20 a w S h0
    delta ff4_.j2 at h0
    refine hK2 a w (c_region' (s_bin S rfl rfl rfl rfl fun a S => s_move S rfl rfl fun a S => c_end' (x_thenN ?_)))
    exact ⟨_, (wr .i64 (y14 + 1)), g56, g57, y20, (S.sb rfl (.c0 (.c0 .n))), h0⟩
   refine wp_block (c_region (s_move S rfl rfl fun a S => ?_))
   obtain ⟨c2, h2⟩ := chk_of h1; clear h1
   refine s_index S rfl rfl underlying54 T52 c2.1 c2.2 rfl fun a S => s_assign S rfl rfl fun a S => s_assign S rfl rfl fun a S => c_end (c_region (s_move S rfl rfl fun a S => c_end (wp_block ?_)))
   refine c_loop (fun q2 a w => ∃ m y23 g62 g63 y24, St 29 m b0 [(12, (.i y23)), (5, (.w (rd x1 y14))), (4, (.i y14)), (8, (.i y14)), (7, (.a4 x1)), (3, (.p g62)), (2, (.p g63))] [Res.cells g62 23 [.b32 y24], Res.cells g63 23 [.b32 z32]] a w ∧ ff4_.l2 x1 y14 (ff4_.l1 k x1 q1) q2 y23 y24 = some r) ?_ ?_ (k := k) ⟨_, 0, g48, g49, y15, (S.sb rfl (.c0 (.c0 .n))), h2⟩
   ·rintro a w ⟨m, y23, g62, g63, y24, S, h0⟩
    exact (nomatch (show (none : Option ((List Int))) = some r from h0))
   ·clear S h2
    rintro q2 a w ⟨m, y23, g62, g63, y24, S, h0⟩
    replace h0 : ff4_.b2 x1 y14 (ff4_.l1 k x1 q1) (ff4_.l2 x1 y14 (ff4_.l1 k x1 q1) q2) y23 y24 = some r := h0
    delta ff4_.b2 at h0
    refine c_region (s_bin S rfl rfl rfl rfl fun a S => c_end (wp_seq ?_))
    rcases ite_of h0 with ⟨c3, h1⟩ | ⟨c3, h1⟩
    ·refine c_condT S rfl c3 (wp_skip (x_thenN (wp_seq (wp_block (c_region (s_move S rfl rfl fun a S => s_assign S rfl rfl fun a S => c_end (c_region' (s_move S rfl rfl fun a S => s_bin S rfl rfl rfl rfl fun a S => s_bin S rfl rfl rfl rfl fun a S => s_move S rfl rfl fun a S => s_bin S rfl rfl rfl rfl fun a S => s_move S rfl rfl fun a S => s_move S rfl rfl fun a S => s_bin S rfl rfl rfl rfl fun a S => ?_))))))))
     obtain ⟨c4, h2⟩ := chk_of h1; clear h1
     refine s_shr S (e := (min (Int.toNat (wr .i64 (8 * y23))) 64)) rfl rfl c4 rfl rfl fun a S => s_conv S rfl rfl underlying5 rfl fun a S => ?_
     obtain ⟨c5, h3⟩ := chk_of h2; clear h2
     refine s_iaddr S rfl rfl underlying23 T5 c5.1 c5.2 (mul1 _ _) rfl fun a S => s_storei S (i := (wr .i64 ((wr .i64 (31 - (wr .i64 (8 * y14)))) - y23))) rfl rfl .h T5 .h rfl c5.1 c5.2 fun w S => c_end' (x_blockN (x_thenN (c_region' (s_bin S rfl rfl rfl rfl fun a S => s_move S rfl rfl fun a S => c_end' (x_thenN ?_)))))
     exact ⟨_, (wr .i64 (y23 + 1)), g62, g63, (y24.set (Int.toNat (wr .i64 ((wr .i64 (31 - (wr .i64 (8 * y14)))) - y23))) (wr .u8 (shr (rd x1 y14) (min (Int.toNat (wr .i64 (8 * y23))) 64)))), (S.sb rfl (.c0 (.c0 .n))), h3⟩
    ·refine c_condF S rfl c3 (wp_exit (x_thenX (x_thenX (x_blockX (x_blockN (x_thenN ?_))))))
     exact j2 _ g62 g63 y24 a w (S.sb rfl (.c0 (.c0 .n))) h1
  ·refine c_condF S rfl c1 (wp_exit (x_thenX (x_thenX (x_blockX (x_thenN ?_)))))
   exact j1 _ g48 g49 y15 a w (S.sb rfl (.c0 (.c0 .n))) h1
abbrev fg4_.Ty : Type := Int → Option ((List Int))
def fg4_.Ctr (s : fg4_.Ty) : Prop := ∀ (x1 : Int) (r : (List Int)), Ct (C := Unit) Tryd.prog 73 (s x1 = some r) [] [(.w x1)] (fun _ => (.a4 r)) fun _ => []
def fg4_.f (x1 : Int) : Option ((List Int)) := some [x1, 0, 0, 0]
theorem fg4_.ok : fg4_.Ctr (fg4_.f) := by
 intro x1 r h0 mi w0 ok hm
 delta fg4_.f at h0
 refine c_enterZ (n := 5) ok hm func73 rfl rfl rfl fun b0 hb a S => c_region (s_alloc S Z54 rfl ⟨rfl, trivial⟩ rfl fun g1 a w S => c_end (c_region (s_move S rfl rfl fun a S => s_build S (ds := [(0, (.w x1))]) (dv := (.a4 [x1, 0, 0, 0])) rfl (fun _ => by kernel_rfl) ⟨rfl, trivial⟩ rfl fun a S => s_store S rfl rfl rfl (s' := [.w4 [x1, 0, 0, 0]]) .h T54 rfl rfl fun w S => c_end (wp_ret ?_))))
 obtain rfl := Option.some.inj h0
 exact b_ret1 (d := (.a4 [x1, 0, 0, 0])) S rfl (resD_cell rfl .h T54 rfl rfl) (S.rt hb)
abbrev fg_.Ty : Type := Int → Option ((List Int))
def fg_.Ctr (s : fg_.Ty) : Prop := ∀ (x1 : Int) (r : (List Int)), Ct (C := ((Option Addr) × Nat)) Tryd.prog 50 (s x1 = some r) [] [(.i x1)] (fun ch => (.q yb ch.1 ch.2 r)) fun _ => []
def fg_.f (k : Nat) (x1 : Int) : Option ((List Int)) := (fg4_.f (wr .u64 x1)).bind fun t1 => ((ff4_.f k t1).bind fun t2 => (some (((t2).drop 0).take 32)))
theorem fg_.ok (k : Nat) : fg_.Ctr (fg_.f k) := by
 intro x1 r h0 mi w0 ok hm
 delta fg_.f at h0
 refine c_enterZ (n := 9) ok hm func50 rfl rfl rfl fun b0 hb a S => c_region (s_assign S rfl rfl fun a S => c_end (c_region (s_move S rfl rfl fun a S => s_conv S rfl rfl underlying52 rfl fun a S => bindX h0 fun t1 et1 h1 => s_callP S _ N73 rfl rfl (fg4_.ok (wr .u64 x1) t1 et1 _ _) fun ch1 m le1 a w S => bindX h1 fun t2 et2 h2 => s_callP S _ N47 rfl rfl (ff4_.ok k t1 t2 et2 _ _) fun ch2 m le1 a w S => s_alloc S Z23 rfl ⟨rfl, trivial⟩ rfl fun g1 a w S => s_store S rfl rfl rfl (s' := [.b32 t2]) .h T23 rfl rfl fun w S => c_end (c_region (s_sliceA S (i := 0) (j := 32) (o' := 0) (len := 32) (cap := 32) rfl underlying23 T5 (.inl ⟨rfl, rfl⟩) (.inl ⟨rfl, rfl⟩) (by decide) rfl rfl rfl rfl fun a S => s_assign S rfl rfl fun a S => c_end (wp_ret ?_))))))
 replace S := S.freeze .h
 obtain ⟨m, le1, S⟩ := S
 replace S := (S.slup' (u := 2) (lo := 0) (c := 32) (ys := ((t2).drop 0).take 32) rfl (Pull.mem .h).1 .h (.inl rfl) (by decide) (by decide) rfl).2
 obtain rfl := Option.some.inj h2
 exact b_ret1 (d := (.q yb (ad g1) 32 (((t2).drop 0).take 32))) S rfl rfl fun ok => S.retX (Hx := []) hb _ _ (((ad g1), 32) : (Option Addr) × Nat) .nil ok
abbrev fa1_.Ty : Type := Int → Option ((List Int))
def fa1_.Ctr (s : fa1_.Ty) : Prop := ∀ (x1 : Int) (r : (List Int)), Ct (C := ((Option Addr) × Nat × Nat)) Tryd.prog 72 (s x1 = some r) [] [(.s none 0 0), (.i x1)] (fun ch => (.s ch.1 ch.2.1 ch.2.2)) fun ch => [Res.row yb 5 ch.1 ch.2.1 ch.2.2 r]
def fa1_.j1 (y1 : List Int) : Option ((List Int)) := some y1
def fa1_.f (x1 : Int) : Option ((List Int)) := if (decide (x1 < 0)) = true then none else (if (decide (0 < (wr .i64 (x1 - (wr .i64 (0 - 0)))))) = true then (if (0 : Int) ≤ (wr .i64 (x1 - (wr .i64 (0 - 0)))) ∧ ((([] : List Int)).length + Int.toNat (wr .i64 (x1 - (wr .i64 (0 - 0))))) * 1 ≤ 140737488355328 then (if (0 : Int) ≤ 0 ∧ 0 ≤ ((([] : List Int) ++ List.replicate (Int.toNat (wr .i64 (x1 - (wr .i64 (0 - 0))))) (0 : Int)).length : Int) then (fa1_.j1 ((([] : List Int) ++ List.replicate (Int.toNat (wr .i64 (x1 - (wr .i64 (0 - 0))))) (0 : Int)).take (Int.toNat 0))) else none) else none) else (fa1_.j1 ([] : List Int)))
theorem fa1_.ok : fa1_.Ctr (fa1_.f) := by
 intro x1 r h0 mi w0 ok hm
 delta fa1_.f at h0
 refine c_enterZ (n := 27) ok hm func72 rfl rfl rfl fun b0 hb a S => c_region (s_assign S rfl rfl fun a S => c_end (wp_seq (c_region (s_move S rfl rfl fun a S => s_bin S rfl rfl rfl rfl fun a S => c_end ?_))))
 rcases ite_of h0 with ⟨c1, h1⟩ | ⟨c1, h1⟩
 ·refine c_condT S rfl c1 (c_region' (s_mkI S (s := [.one (.string txt11)]) (v := (.string txt11)) rfl rfl rfl (by kernel_rfl) rfl fun a S => ?_))
  exact (nomatch h1)
 ·refine c_condF S rfl c1 (wp_skip (x_thenN (wp_seq_k fun K1 hK1 => ?_)))
  have j1 : ∀ m A1 nn1 cp1 y1 a w, St 27 m b0 [(0, (.s A1 nn1 cp1))] [Res.row yb 5 A1 nn1 cp1 y1] a w → fa1_.j1 y1 = some r → K1 a w := by
   intro m A1 nn1 cp1 y1 a w S h0
   delta fa1_.j1 at h0
   refine hK1 a w (c_region (s_move S rfl rfl fun a S => s_assign S rfl rfl fun a S => c_end (wp_ret ?_)))
   obtain rfl := Option.some.inj h0
   exact b_ret1 (d := (.s A1 nn1 cp1)) S rfl rfl fun ok => S.retX (Hx := []) hb _ _ ((A1, nn1, cp1) : (Option Addr) × Nat × Nat) (.c0 .n) ok
  refine c_region (s_move S rfl rfl fun a S => s_move S rfl rfl fun a S => s_capN S rfl underlying26 rfl fun a S => s_move S rfl rfl fun a S => s_lens S rfl underlying26 rfl fun a S => s_bin S rfl rfl rfl rfl fun a S => s_bin S rfl rfl rfl rfl fun a S => s_assign S rfl rfl fun a S => c_end (c_region (s_move S rfl rfl fun a S => s_bin S rfl rfl rfl rfl fun a S => c_end ?_)))
  rcases ite_of h1 with ⟨c2, h2⟩ | ⟨c2, h2⟩
  ·refine c_condT S rfl c2 (c_region' (s_move S rfl rfl fun a S => s_move S rfl rfl fun a S => s_capN S rfl underlying26 rfl fun a S => s_cutN S rfl underlying26 T5 (.inl rfl) (.inr ⟨_, _, rfl, rfl⟩) rfl fun a S => s_move S rfl rfl fun a S => ?_))
   replace S := S.nilrow yb 5
   obtain ⟨c3, h3⟩ := chk_of h2; clear h2
   refine s_appZ S (z := 0) (c0 := ()) rfl (fun _ _ => .h) rfl underlying26 underlying3 J5 Z5 rfl ⟨rfl, trivial⟩ c3.1 c3.2 rfl fun A2 cp2 a w S => s_move S rfl rfl fun a S => s_lens S rfl underlying26 rfl fun a S => ?_
   obtain ⟨c4, h4⟩ := chk_of h3; clear h3
   refine s_cutO S (j := 0) rfl .h underlying26 T5 (.inl rfl) rfl c4.1 c4.2 rfl fun a S => s_assign S rfl rfl fun a S => c_end' (x_thenN ?_)
   exact j1 _ A2 (Int.toNat 0) cp2 ((([] : List Int) ++ List.replicate (Int.toNat (wr .i64 (x1 - (wr .i64 (0 - 0))))) (0 : Int)).take (Int.toNat 0)) a w (S.sub ⟨rfl, trivial⟩ (.c0 .n)) h4
  ·refine c_condF S rfl c2 (wp_skip (x_thenN ?_))
   replace S := S.nilrow yb 5
   exact j1 _ none 0 0 ([] : List Int) a w0 (S.sub ⟨rfl, trivial⟩ (.c0 .n)) h2
abbrev fa2_.Ty : Type := (List (List Int)) → Option ((List Int))
def fa2_.Ctr (s : fa2_.Ty) : Prop := ∀ (x1 : List (List Int)) (ch_0_0 : Option Addr) (ch_0_1 : Nat) (r : (List Int)), Ct (C := ((Option Addr) × Nat × Nat)) Tryd.prog 49 (s x1 = some r) [] [(.q (Ty.slice yb) ch_0_0 ch_0_1 x1)] (fun ch => (.s ch.1 ch.2.1 ch.2.2)) fun ch => [Res.row yb 5 ch.1 ch.2.1 ch.2.2 r]
def fa2_.j2 (y6 : List Int) : Option ((List Int)) := some y6
def fa2_.b1 (x1 : List (List Int)) (rec1 : Int → (List Int) → Option ((List Int))) (y9 : Int) (y10 : List Int) : Option ((List Int)) := if (decide (y9 < ((x1).length : Int))) = true then (if (0 : Int) ≤ y9 ∧ y9 < ((x1).length : Int) then (if ((y10).length + (gt x1 y9).length) * 1 ≤ 140737488355328 then (rec1 (wr .i64 (y9 + 1)) (y10 ++ (gt x1 y9))) else none) else none) else (fa2_.j2 y10)
def fa2_.l1 (x1 : List (List Int)) : Nat → Int → (List Int) → Option ((List Int))
  | 0, _, _ => none
  | q + 1, y9, y10 => fa2_.b1 x1 (fa2_.l1 x1 q) y9 y10
def fa2_.j1 (k : Nat) (x1 : List (List Int)) (y1 : Int) : Option ((List Int)) := (fa1_.f y1).bind fun t1 => (fa2_.l1 x1 k 0 t1)
def fa2_.b2 (k : Nat) (x1 : List (List Int)) (rec2 : Int → Int → Option ((List Int))) (y13 : Int) (y14 : Int) : Option ((List Int)) := if (decide (y13 < ((x1).length : Int))) = true then (if (0 : Int) ≤ y13 ∧ y13 < ((x1).length : Int) then (if (decide ((wr .i64 (y14 + ((gt x1 y13).length : Int))) < 0)) = true then none else (rec2 (wr .i64 (y13 + 1)) (wr .i64 (y14 + ((gt x1 y13).length : Int))))) else none) else (fa2_.j1 k x1 y14)
def fa2_.l2 (k : Nat) (x1 : List (List Int)) : Nat → Int → Int → Option ((List Int))
  | 0, _, _ => none
  | q + 1, y13, y14 => fa2_.b2 k x1 (fa2_.l2 k x1 q) y13 y14
def fa2_.f (k : Nat) (x1 : List (List Int)) : Option ((List Int)) := fa2_.l2 k x1 k 0 0
theorem fa2_.ok (k : Nat) : fa2_.Ctr (fa2_.f k) := by
 intro x1 ch_0_0 ch_0_1 r h0 mi w0 ok hm
 delta fa2_.f at h0
 refine c_enterZ (n := 36) ok hm func49 rfl rfl rfl fun b0 hb a S => c_region (s_assign S rfl rfl fun a S => c_end (c_region (s_assign S rfl rfl fun a S => c_end (wp_seq_k fun K1 hK1 => ?_))))
 have j1 : ∀ m y1 a w, St 36 m b0 [(3, (.i y1)), (0, (.q (Ty.slice yb) ch_0_0 ch_0_1 x1))] [] a w → fa2_.j1 k x1 y1 = some r → K1 a w := by
  intro m y1 a w S h0
  delta fa2_.j1 at h0
  refine hK1 a w (c_region (s_move S rfl rfl fun a S => bindX h0 fun t1 et1 h1 => s_callR S (fun (ch : (Option Addr) × Nat × Nat) => ((.s ch.1 ch.2.1 ch.2.2) : D)) (fun (ch : (Option Addr) × Nat × Nat) => Res.row yb 5 ch.1 ch.2.1 ch.2.2 t1) N72 rfl rfl (fa1_.ok y1 t1 et1 _ _) fun ch1 m le1 a w S => s_assign S rfl rfl fun a S => c_end (wp_seq_k fun K2 hK2 => ?_)))
  have j2 : ∀ m A1 nn1 cp1 y6 a w, St 36 m b0 [(6, (.s A1 nn1 cp1))] [Res.row yb 5 A1 nn1 cp1 y6] a w → fa2_.j2 y6 = some r → K2 a w := by
   intro m A1 nn1 cp1 y6 a w S h0
   delta fa2_.j2 at h0
   refine hK2 a w (c_region (s_move S rfl rfl fun a S => s_assign S rfl rfl fun a S => c_end (wp_ret ?_)))
   obtain rfl := Option.some.inj h0
   exact b_ret1 (d := (.s A1 nn1 cp1)) S rfl rfl fun ok => S.retX (Hx := []) hb _ _ ((A1, nn1, cp1) : (Option Addr) × Nat × Nat) (.c0 .n) ok
  refine c_region (s_move S rfl rfl fun a S => s_lenS S rfl underlying125 rfl fun a S => s_move S rfl rfl fun a S => c_end (wp_block ?_))
  refine c_loop (fun q1 a w => ∃ m y9 A2 nn4 cp8 y10, St 36 m b0 [(27, (.i y9)), (26, (.i ((x1).length : Int))), (25, (.q (Ty.slice yb) ch_0_0 ch_0_1 x1)), (6, (.s A2 nn4 cp8))] [Res.row yb 5 A2 nn4 cp8 y10] a w ∧ fa2_.l1 x1 q1 y9 y10 = some r) ?_ ?_ (k := k) ⟨_, 0, ch1.1, ch1.2.1, ch1.2.2, t1, (S.sb rfl (.c0 .n)), h1⟩
  ·rintro a w ⟨m, y9, A2, nn4, cp8, y10, S, h0⟩
   exact (nomatch (show (none : Option ((List Int))) = some r from h0))
  ·clear S h1
   rintro q1 a w ⟨m, y9, A2, nn4, cp8, y10, S, h0⟩
   replace h0 : fa2_.b1 x1 (fa2_.l1 x1 q1) y9 y10 = some r := h0
   delta fa2_.b1 at h0
   refine c_region (s_bin S rfl rfl rfl rfl fun a S => c_end (wp_seq ?_))
   rcases ite_of h0 with ⟨c1, h1⟩ | ⟨c1, h1⟩
   ·refine c_condT S rfl c1 (wp_skip (x_thenN (wp_seq (wp_block (c_region ?_)))))
    obtain ⟨c2, h2⟩ := chk_of h1; clear h1
    refine s_iaddrS S rfl rfl rfl underlying125 T26 c2.1 c2.2 rfl fun p1 a S => s_ldS S (fun c => c) rfl T26 (fun _ => rfl) rfl fun A3 cp9 a S => s_assign S rfl rfl fun a S => c_end (c_region' (s_move S rfl rfl fun a S => s_move S rfl rfl fun a S => ?_))
    obtain ⟨c3, h3⟩ := chk_of h2; clear h2
    refine s_app S (k2 := ((gt x1 y9).length)) (ys := (gt x1 y9)) rfl (fun _ _ => .h) rfl rfl rfl (RdS.src (S.get 32 (.q yb A3 cp9 (gt x1 y9)) rfl).2.2.2.1 (by decide) S.frz) underlying26 J5 c3 rfl fun A4 cp10 a w S => s_assign S rfl rfl fun a S => c_end' (x_blockN (x_thenN (c_region' (s_bin S rfl rfl rfl rfl fun a S => s_move S rfl rfl fun a S => c_end' (x_thenN ?_)))))
    exact ⟨_, (wr .i64 (y9 + 1)), A4, (nn4 + ((gt x1 y9).length)), cp10, (y10 ++ (gt x1 y9)), (S.sb rfl (.c0 .n)), h3⟩
   ·refine c_condF S rfl c1 (wp_exit (x_thenX (x_thenX (x_blockX (x_thenN ?_)))))
    exact j2 _ A2 nn4 cp8 y10 a w (S.sub ⟨rfl, trivial⟩ (.c0 .n)) h1
 refine c_region (s_move S rfl rfl fun a S => s_lenS S rfl underlying125 rfl fun a S => s_move S rfl rfl fun a S => c_end (wp_block ?_))
 refine c_loop (fun q2 a w => ∃ m y13 y14, St 36 m b0 [(11, (.i y13)), (10, (.i ((x1).length : Int))), (9, (.q (Ty.slice yb) ch_0_0 ch_0_1 x1)), (3, (.i y14)), (0, (.q (Ty.slice yb) ch_0_0 ch_0_1 x1))] [] a w ∧ fa2_.l2 k x1 q2 y13 y14 = some r) ?_ ?_ (k := k) ⟨_, 0, 0, (S.sb rfl .nil), h0⟩
 ·rintro a w ⟨m, y13, y14, S, h0⟩
  exact (nomatch (show (none : Option ((List Int))) = some r from h0))
 ·clear S h0
  rintro q2 a w ⟨m, y13, y14, S, h0⟩
  replace h0 : fa2_.b2 k x1 (fa2_.l2 k x1 q2) y13 y14 = some r := h0
  delta fa2_.b2 at h0
  refine c_region (s_bin S rfl rfl rfl rfl fun a S => c_end (wp_seq ?_))
  rcases ite_of h0 with ⟨c4, h1⟩ | ⟨c4, h1⟩
  ·refine c_condT S rfl c4 (wp_skip (x_thenN (wp_seq (wp_block (c_region ?_)))))
   obtain ⟨c5, h2⟩ := chk_of h1; clear h1
   refine s_iaddrS S rfl rfl rfl underlying125 T26 c5.1 c5.2 rfl fun p4 a S => s_ldS S (fun c => c) rfl T26 (fun _ => rfl) rfl fun A5 cp13 a S => s_assign S rfl rfl fun a S => c_end (c_region (s_move S rfl rfl fun a S => s_move S rfl rfl fun a S => s_lenS S rfl underlying26 rfl fun a S => s_bin S rfl rfl rfl rfl fun a S => s_assign S rfl rfl fun a S => c_end (c_region (s_move S rfl rfl fun a S => s_bin S rfl rfl rfl rfl fun a S => c_end ?_))))
   rcases ite_of h2 with ⟨c6, h3⟩ | ⟨c6, h3⟩
   ·refine c_condT S rfl c6 (c_region' (s_mkI S (s := [.one (.string txt14)]) (v := (.string txt14)) rfl rfl rfl (by kernel_rfl) rfl fun a S => ?_))
    exact (nomatch h3)
   ·refine c_condF S rfl c6 (wp_skip (x_blockN (x_thenN (c_region' (s_bin S rfl rfl rfl rfl fun a S => s_move S rfl rfl fun a S => c_end' (x_thenN ?_))))))
    exact ⟨_, (wr .i64 (y13 + 1)), (wr .i64 (y14 + ((gt x1 y13).length : Int))), (S.sb rfl .nil), h3⟩
  ·refine c_condF S rfl c4 (wp_exit (x_thenX (x_thenX (x_blockX (x_thenN ?_)))))
   exact j1 _ y14 a w (S.sb rfl .nil) h1
abbrev fb5_.Ty : Type := PT61 → Option Bool
def fb5_.Ctr (s : fb5_.Ty) : Prop := ∀ (x1 : PT61) (ch_0_0 : Option Addr) (r : Bool), Ct (C := Unit) Tryd.prog 27 (s x1 = some r) [] [(.rf (.pointer ch_0_0) (PR61 ch_0_0 x1))] (fun _ => (.b r)) fun _ => []
abbrev fb1_.Ty : Type := (List PT61) → Option Int
def fb1_.Ctr (s : fb1_.Ty) : Prop := ∀ (x1 : List PT61) (ch_0_0 : Option Addr) (ch_0_1 : Nat) (r : Int), Ct (C := Unit) Tryd.prog 69 (s x1 = some r) [] [(.q PY61 ch_0_0 ch_0_1 x1), (.v (.func (.func 27) #[] #[]))] (fun _ => (.i r)) fun _ => []
abbrev fb4_.Ty : Type := (List PT61) → Option Bool
def fb4_.Ctr (s : fb4_.Ty) : Prop := ∀ (x1 : List PT61) (ch_0_0 : Option Addr) (ch_0_1 : Nat) (r : Bool), Ct (C := Unit) Tryd.prog 43 (s x1 = some r) [] [(.q PY61 ch_0_0 ch_0_1 x1), (.v (.func (.func 27) #[] #[]))] (fun _ => (.b r)) fun _ => []
def fb5_.body (self0 : fb5_.Ty) (self1 : fb1_.Ty) (self2 : fb4_.Ty) (k : Nat) (x1 : PT61) : Option Bool := if PT61.nn x1 = true then (if (((PT61.to x1).1) == 3) = true then (some true) else (if (((PT61.to x1).1) == 4) = true then (some true) else ((self2 ((PT61.to x1).2.2)).bind fun t1 => (some t1)))) else none
theorem fb5_.okb (self0 : fb5_.Ty) (self1 : fb1_.Ty) (self2 : fb4_.Ty) (c_0 : fb5_.Ctr self0) (c_1 : fb1_.Ctr self1) (c_2 : fb4_.Ctr self2) (k : Nat) : fb5_.Ctr (fb5_.body self0 self1 self2 k) := by
 intro x1 ch_0_0 r h0 mi w0 ok hm
 delta fb5_.body at h0
 refine c_enterZ (n := 22) ok hm func27 rfl rfl rfl fun b0 hb a S => c_region (s_assign S rfl rfl fun a S => c_end (c_region (s_move S rfl rfl fun a S => ?_)))
 obtain ⟨c1, h1⟩ := chk_of h0; clear h0
 refine s_nilQ S rfl PH61 c1 rfl fun a S => s_faddrP S (tF := yb) (y := (PT61.to x1).1) rfl I67_0 T64 (by decide) (fun m h => (at_fst (at_0 h))) rfl fun a S => s_ld1 S (v := (.int .u8 ((PT61.to x1).1))) rfl T64 (fun _ => rfl) rfl fun a S => s_bin S rfl rfl rfl rfl fun a S => s_move S rfl rfl fun a S => ?_
 rcases ite_of h1 with ⟨c2, h2⟩ | ⟨c2, h2⟩
 ·refine s_gF S (b := (((PT61.to x1).1) == 3)) rfl rfl c2 rfl fun a S => s_gF S (b := (((PT61.to x1).1) == 3)) rfl rfl c2 rfl fun a S => s_gF S (b := (((PT61.to x1).1) == 3)) rfl rfl c2 rfl fun a S => s_gF S (b := (((PT61.to x1).1) == 3)) rfl rfl c2 rfl fun a S => s_gF S (b := (((PT61.to x1).1) == 3)) rfl rfl c2 rfl fun a S => s_pick S (b := true) (hc_of rfl c2) rfl rfl fun a S => s_move S rfl rfl fun a S => s_gF S (b := true) rfl rfl rfl rfl fun a S => s_gF S (b := true) rfl rfl rfl rfl fun a S => s_gF S (b := true) rfl rfl rfl rfl fun a S => s_gF S (b := true) rfl rfl rfl rfl fun a S => s_gF S (b := true) rfl rfl rfl rfl fun a S => s_pick S (b := true) (hc_of rfl rfl) rfl rfl fun a S => s_assign S rfl rfl fun a S => c_end (wp_ret ?_)
  obtain rfl := Option.some.inj h2
  exact b_ret1 (d := (.b true)) S rfl rfl (S.rt hb)
 ·refine s_gT S (b := (((PT61.to x1).1) == 3)) rfl rfl c2 (s_move S rfl rfl fun a S => s_gT S (b := (((PT61.to x1).1) == 3)) rfl rfl c2 (s_nilQ S rfl PH61 c1 rfl fun a S => s_gT S (b := (((PT61.to x1).1) == 3)) rfl rfl c2 (s_faddrP S (tF := yb) (y := (PT61.to x1).1) rfl I67_0 T64 (by decide) (fun m h => (at_fst (at_0 h))) rfl fun a S => s_gT S (b := (((PT61.to x1).1) == 3)) rfl rfl c2 (s_ld1 S (v := (.int .u8 ((PT61.to x1).1))) rfl T64 (fun _ => rfl) rfl fun a S => s_gT S (b := (((PT61.to x1).1) == 3)) rfl rfl c2 (s_bin S rfl rfl rfl rfl fun a S => s_pick S (b := false) (hc_of rfl c2) rfl rfl fun a S => s_move S rfl rfl fun a S => ?_)))))
  rcases ite_of h2 with ⟨c3, h3⟩ | ⟨c3, h3⟩
  ·refine s_gF S (b := (((PT61.to x1).1) == 4)) rfl rfl c3 rfl fun a S => s_gF S (b := (((PT61.to x1).1) == 4)) rfl rfl c3 rfl fun a S => s_gF S (b := (((PT61.to x1).1) == 4)) rfl rfl c3 rfl fun a S => s_gF S (b := (((PT61.to x1).1) == 4)) rfl rfl c3 rfl fun a S => s_gF S (b := (((PT61.to x1).1) == 4)) rfl rfl c3 rfl fun a S => s_pick S (b := true) (hc_of rfl c3) rfl rfl fun a S => s_assign S rfl rfl fun a S => c_end (wp_ret ?_)
   obtain rfl := Option.some.inj h3
   exact b_ret1 (d := (.b true)) S rfl rfl (S.rt hb)
  ·refine s_gT S (b := (((PT61.to x1).1) == 4)) rfl rfl c3 (s_move S rfl rfl fun a S => s_gT S (b := (((PT61.to x1).1) == 4)) rfl rfl c3 (s_nilQ S rfl PH61 c1 rfl fun a S => s_gT S (b := (((PT61.to x1).1) == 4)) rfl rfl c3 (s_faddrP S (tF := (Ty.slice PY61)) (y := (PT61.to x1).2.2) rfl I67_2 T65 (by decide) (fun m h => (at_snd (at_snd (at_0 h)))) rfl fun a S => s_gT S (b := (((PT61.to x1).1) == 4)) rfl rfl c3 (s_ldS S (fun c => c) rfl T65 (fun _ => rfl) rfl fun A1 cp1 a S => s_gT S (b := (((PT61.to x1).1) == 4)) rfl rfl c3 (bindX h3 fun t1 et1 h4 => s_callP S _ N43 rfl rfl (c_2 ((PT61.to x1).2.2) A1 cp1 t1 et1 _ _) fun ch1 m le1 a w S => s_pick S (b := false) (hc_of rfl c3) rfl rfl fun a S => s_assign S rfl rfl fun a S => c_end (wp_ret ?_))))))
   obtain rfl := Option.some.inj h4
   exact b_ret1 (d := (.b t1)) S rfl rfl (S.rt hb)
def fb1_.j1 : Option Int := some (-1)
def fb1_.b1 (self0 : fb5_.Ty) (x1 : List PT61) (rec1 : Int → Option Int) (y1 : Int) : Option Int := if (decide (y1 < ((x1).length : Int))) = true then (if (0 : Int) ≤ y1 ∧ y1 < ((x1).length : Int) then ((self0 (gt x1 y1)).bind fun t1 => (if t1 = true then (some y1) else (rec1 (wr .i64 (y1 + 1))))) else none) else fb1_.j1
def fb1_.l1 (self0 : fb5_.Ty) (x1 : List PT61) : Nat → Int → Option Int
  | 0, _ => none
  | q + 1, y1 => fb1_.b1 self0 x1 (fb1_.l1 self0 x1 q) y1
def fb1_.body (self0 : fb5_.Ty) (self1 : fb1_.Ty) (self2 : fb4_.Ty) (k : Nat) (x1 : List PT61) : Option Int := fb1_.l1 self0 x1 k 0
theorem fb1_.okb (self0 : fb5_.Ty) (self1 : fb1_.Ty) (self2 : fb4_.Ty) (c_0 : fb5_.Ctr self0) (c_1 : fb1_.Ctr self1) (c_2 : fb4_.Ctr self2) (k : Nat) : fb1_.Ctr (fb1_.body self0 self1 self2 k) := by
 intro x1 ch_0_0 ch_0_1 r h0 mi w0 ok hm
 delta fb1_.body at h0
 refine c_enterZ (n := 19) ok hm func69 rfl rfl rfl fun b0 hb a S => c_region (s_assign S rfl rfl fun a S => c_end (wp_seq_k fun K1 hK1 => ?_))
 have j1 : ∀ m a w, St 19 m b0 [] [] a w → fb1_.j1 = some r → K1 a w := by
  intro m a w S h0
  delta fb1_.j1 at h0
  refine hK1 a w (c_region (s_assign S rfl rfl fun a S => c_end (wp_ret ?_)))
  obtain rfl := Option.some.inj h0
  exact b_ret1 (d := (.i (-1))) S rfl rfl (S.rt hb)
 refine c_region (s_move S rfl rfl fun a S => s_lenS S rfl underlying65 rfl fun a S => s_move S rfl rfl fun a S => c_end (wp_block ?_))
 refine c_loop (fun q1 a w => ∃ m y1, St 19 m b0 [(8, (.i y1)), (7, (.i ((x1).length : Int))), (0, (.q PY61 ch_0_0 ch_0_1 x1)), (1, (.v (.func (.func 27) #[] #[])))] [] a w ∧ fb1_.l1 self0 x1 q1 y1 = some r) ?_ ?_ (k := k) ⟨_, 0, (S.sb rfl .nil), h0⟩
 ·rintro a w ⟨m, y1, S, h0⟩
  exact (nomatch (show (none : Option Int) = some r from h0))
 ·clear S h0
  rintro q1 a w ⟨m, y1, S, h0⟩
  replace h0 : fb1_.b1 self0 x1 (fb1_.l1 self0 x1 q1) y1 = some r := h0
  delta fb1_.b1 at h0
  refine c_region (s_bin S rfl rfl rfl rfl fun a S => c_end (wp_seq ?_))
  rcases ite_of h0 with ⟨c1, h1⟩ | ⟨c1, h1⟩
  ·refine c_condT S rfl c1 (wp_skip (x_thenN (wp_seq (wp_block (c_region (s_move S rfl rfl fun a S => s_assign S rfl rfl fun a S => c_end (c_region (s_move S rfl rfl fun a S => s_move S rfl rfl fun a S => s_move S rfl rfl fun a S => ?_))))))))
   obtain ⟨c2, h2⟩ := chk_of h1; clear h1
   refine s_iaddrS S rfl rfl rfl underlying65 T61 c2.1 c2.2 rfl fun p1 a S => s_ldF S (fun c => .pointer c) (fun c => PR61 c (gt x1 y1)) rfl T61 (fun _ => rfl) rfl fun ch1 a S => bindX h2 fun t1 et1 h3 => s_callP S _ N27 rfl rfl (c_0 (gt x1 y1) ch1 t1 et1 _ _) fun ch2 m le1 a w S => c_end ?_
   rcases ite_of h3 with ⟨c3, h4⟩ | ⟨c3, h4⟩
   ·refine c_condT S rfl c3 (c_region (s_move S rfl rfl fun a S => s_assign S rfl rfl fun a S => c_end (wp_ret (x_blockR (x_thenR (x_thenR (x_blockR (x_thenR ?_))))))))
    obtain rfl := Option.some.inj h4
    exact b_ret1 (d := (.i y1)) S rfl rfl (S.rt hb)
   ·refine c_condF S rfl c3 (wp_skip (x_blockN (x_thenN (c_region' (s_bin S rfl rfl rfl rfl fun a S => s_move S rfl rfl fun a S => c_end' (x_thenN ?_))))))
    exact ⟨_, (wr .i64 (y1 + 1)), (S.sb rfl .nil), h4⟩
  ·refine c_condF S rfl c1 (wp_exit (x_thenX (x_thenX (x_blockX (x_thenN ?_)))))
   exact j1 _ a w (S.sub trivial .nil) h1
def fb4_.body (self0 : fb5_.Ty) (self1 : fb1_.Ty) (self2 : fb4_.Ty) (k : Nat) (x1 : List PT61) : Option Bool := (self1 x1).bind fun t1 => (some (decide (0 ≤ t1)))
theorem fb4_.okb (self0 : fb5_.Ty) (self1 : fb1_.Ty) (self2 : fb4_.Ty) (c_0 : fb5_.Ctr self0) (c_1 : fb1_.Ctr self1) (c_2 : fb4_.Ctr self2) (k : Nat) : fb4_.Ctr (fb4_.body self0 self1 self2 k) := by
 intro x1 ch_0_0 ch_0_1 r h0 mi w0 ok hm
 delta fb4_.body at h0
 refine c_enterZ (n := 9) ok hm func43 rfl rfl rfl fun b0 hb a S => c_region (s_assign S rfl rfl fun a S => c_end (c_region (s_move S rfl rfl fun a S => s_move S rfl rfl fun a S => bindX h0 fun t1 et1 h1 => s_callP S _ N69 rfl rfl (c_1 x1 ch_0_0 ch_0_1 t1 et1 _ _) fun ch1 m le1 a w S => s_bin S rfl rfl rfl rfl fun a S => s_assign S rfl rfl fun a S => c_end (wp_ret ?_))))
 obtain rfl := Option.some.inj h1
 exact b_ret1 (d := (.b (decide (0 ≤ t1)))) S rfl rfl (S.rt hb)
mutual
def fb5_.f : Nat → fb5_.Ty
  | 0 => fun _ => none
  | k + 1 => fb5_.body (fb5_.f k) (fb1_.f k) (fb4_.f k) k
def fb1_.f : Nat → fb1_.Ty
  | 0 => fun _ => none
  | k + 1 => fb1_.body (fb5_.f k) (fb1_.f k) (fb4_.f k) k
def fb4_.f : Nat → fb4_.Ty
  | 0 => fun _ => none
  | k + 1 => fb4_.body (fb5_.f k) (fb1_.f k) (fb4_.f k) k
end
theorem fb5_.oks : ∀ k : Nat, fb5_.Ctr (fb5_.f k) ∧ fb1_.Ctr (fb1_.f k) ∧ fb4_.Ctr (fb4_.f k)
  | 0 => ⟨fun _ _ r h0 => (nomatch (show (none : Option Bool) = some r from h0)), fun _ _ _ r h0 => (nomatch (show (none : Option Int) = some r from h0)), fun _ _ _ r h0 => (nomatch (show (none : Option Bool) = some r from h0))⟩
  | k + 1 => by
    have ih := fb5_.oks k
    exact ⟨fb5_.okb (fb5_.f k) (fb1_.f k) (fb4_.f k) ih.1 ih.2.1 ih.2.2 k, fb1_.okb (fb5_.f k) (fb1_.f k) (fb4_.f k) ih.1 ih.2.1 ih.2.2 k, fb4_.okb (fb5_.f k) (fb1_.f k) (fb4_.f k) ih.1 ih.2.1 ih.2.2 k⟩
theorem fb5_.ok (k : Nat) : fb5_.Ctr (fb5_.f k) := (fb5_.oks k).1
theorem fb1_.ok (k : Nat) : fb1_.Ctr (fb1_.f k) := (fb5_.oks k).2.1
theorem fb4_.ok (k : Nat) : fb4_.Ctr (fb4_.f k) := (fb5_.oks k).2.2
abbrev fe4_.Ty : Type := PT61 → Option Int
def fe4_.Ctr (s : fe4_.Ty) : Prop := ∀ (x1 : PT61) (ch_0_0 : Option Addr) (r : Int), Ct (C := Unit) Tryd.prog 28 (s x1 = some r) [] [(.rf (.pointer ch_0_0) (PR61 ch_0_0 x1))] (fun _ => (.i r)) fun _ => []
def fe4_.j3 (y7 : Int) : Option Int := some y7
def fe4_.j2 (x1 : PT61) (y6 : Int) : Option Int := if PT61.nn x1 = true then (if (((PT61.to x1).1) == 5) = true then (fe4_.j3 (imin (wr .i64 (y6 * ((PT61.to x1).2.1))) 1048577)) else (fe4_.j3 y6)) else none
def fe4_.b1 (self0 : fe4_.Ty) (x1 : PT61) (rec1 : Int → Int → Option Int) (y10 : Int) (y11 : Int) : Option Int := if (decide (y10 < (((PT61.to x1).2.2).length : Int))) = true then (if (0 : Int) ≤ y10 ∧ y10 < (((PT61.to x1).2.2).length : Int) then ((self0 (gt ((PT61.to x1).2.2) y10)).bind fun t1 => (rec1 (wr .i64 (y10 + 1)) (imin (wr .i64 (y11 + t1)) 1048577))) else none) else (fe4_.j2 x1 y11)
def fe4_.l1 (self0 : fe4_.Ty) (x1 : PT61) : Nat → Int → Int → Option Int
  | 0, _, _ => none
  | q + 1, y10, y11 => fe4_.b1 self0 x1 (fe4_.l1 self0 x1 q) y10 y11
def fe4_.j1 (k : Nat) (self0 : fe4_.Ty) (x1 : PT61) (y1 : Bool) : Option Int := if y1 = true then (some 32) else (if PT61.nn x1 = true then (fe4_.l1 self0 x1 k 0 0) else none)
def fe4_.body (self0 : fe4_.Ty) (k : Nat) (x1 : PT61) : Option Int := if PT61.nn x1 = true then (if (decide (((PT61.to x1).1) < 5)) = true then (fe4_.j1 k self0 x1 true) else ((fb5_.f k x1).bind fun t2 => (fe4_.j1 k self0 x1 t2))) else none
theorem fe4_.okb (self0 : fe4_.Ty) (c_0 : fe4_.Ctr self0) (k : Nat) : fe4_.Ctr (fe4_.body self0 k) := by
 intro x1 ch_0_0 r h0 mi w0 ok hm
 delta fe4_.body at h0
 refine c_enterZ (n := 43) ok hm func28 rfl rfl rfl fun b0 hb a S => c_region (s_assign S rfl rfl fun a S => c_end (wp_seq (wp_seq_k fun K1 hK1 => ?_)))
 have j1 : ∀ m y1 a w, St 43 m b0 [(14, (.b y1)), (0, (.rf (.pointer ch_0_0) (PR61 ch_0_0 x1)))] [] a w → fe4_.j1 k self0 x1 y1 = some r → K1 a w := by
  intro m y1 a w S h0
  delta fe4_.j1 at h0
  refine hK1 a w ?_
  rcases ite_of h0 with ⟨c1, h1⟩ | ⟨c1, h1⟩
  ·refine c_condT S rfl c1 (c_region (s_assign S rfl rfl fun a S => c_end (wp_ret (x_thenR ?_))))
   obtain rfl := Option.some.inj h1
   exact b_ret1 (d := (.i 32)) S rfl rfl (S.rt hb)
  ·refine c_condF S rfl c1 (wp_skip (x_thenN (c_region (s_assign S rfl rfl fun a S => c_end (wp_seq_k fun K2 hK2 => ?_)))))
   have j2 : ∀ m y6 a w, St 43 m b0 [(3, (.i y6)), (0, (.rf (.pointer ch_0_0) (PR61 ch_0_0 x1)))] [] a w → fe4_.j2 x1 y6 = some r → K2 a w := by
    intro m y6 a w S h0
    delta fe4_.j2 at h0
    refine hK2 a w (wp_seq_k fun K3 hK3 => ?_)
    have j3 : ∀ m y7 a w, St 43 m b0 [(3, (.i y7))] [] a w → fe4_.j3 y7 = some r → K3 a w := by
     intro m y7 a w S h0
     delta fe4_.j3 at h0
     refine hK3 a w (c_region (s_move S rfl rfl fun a S => s_assign S rfl rfl fun a S => c_end (wp_ret ?_)))
     obtain rfl := Option.some.inj h0
     exact b_ret1 (d := (.i y7)) S rfl rfl (S.rt hb)
    refine c_region (s_move S rfl rfl fun a S => ?_)
    obtain ⟨c2, h1⟩ := chk_of h0; clear h0
    refine s_nilQ S rfl PH61 c2 rfl fun a S => s_faddrP S (tF := yb) (y := (PT61.to x1).1) rfl I67_0 T64 (by decide) (fun m h => (at_fst (at_0 h))) rfl fun a S => s_ld1 S (v := (.int .u8 ((PT61.to x1).1))) rfl T64 (fun _ => rfl) rfl fun a S => s_bin S rfl rfl rfl rfl fun a S => c_end ?_
    rcases ite_of h1 with ⟨c3, h2⟩ | ⟨c3, h2⟩
    ·refine c_condT S rfl c3 (c_region' (s_move S rfl rfl fun a S => s_move S rfl rfl fun a S => s_nilQ S rfl PH61 c2 rfl fun a S => s_faddrP S (tF := yi) (y := (PT61.to x1).2.1) rfl I67_1 T3 (by decide) (fun m h => (at_fst (at_snd (at_0 h)))) rfl fun a S => s_ld1 S (v := (.int .i64 ((PT61.to x1).2.1))) rfl T3 (fun _ => rfl) rfl fun a S => s_bin S rfl rfl rfl rfl fun a S => s_min2 S rfl rfl rfl fun a S => s_assign S rfl rfl fun a S => c_end' (x_thenN ?_)))
     exact j3 _ (imin (wr .i64 (y6 * ((PT61.to x1).2.1))) 1048577) a w (S.sub ⟨rfl, trivial⟩ .nil) h2
    ·refine c_condF S rfl c3 (wp_skip (x_thenN ?_))
     exact j3 _ y6 a w (S.sub ⟨rfl, trivial⟩ .nil) h2
   refine c_region (s_move S rfl rfl fun a S => ?_)
   obtain ⟨c4, h2⟩ := chk_of h1; clear h1
   refine s_nilQ S rfl PH61 c4 rfl fun a S => s_faddrP S (tF := (Ty.slice PY61)) (y := (PT61.to x1).2.2) rfl I67_2 T65 (by decide) (fun m h => (at_snd (at_snd (at_0 h)))) rfl fun a S => s_ldS S (fun c => c) rfl T65 (fun _ => rfl) rfl fun A1 cp1 a S => s_lenS S rfl underlying65 rfl fun a S => s_move S rfl rfl fun a S => c_end (wp_block ?_)
   refine c_loop (fun q1 a w => ∃ m y10 A2 cp4 y11, St 43 m b0 [(20, (.i y10)), (19, (.i (((PT61.to x1).2.2).length : Int))), (18, (.q PY61 A2 cp4 ((PT61.to x1).2.2))), (3, (.i y11)), (0, (.rf (.pointer ch_0_0) (PR61 ch_0_0 x1)))] [] a w ∧ fe4_.l1 self0 x1 q1 y10 y11 = some r) ?_ ?_ (k := k) ⟨_, 0, A1, cp1, 0, (S.sb rfl .nil), h2⟩
   ·rintro a w ⟨m, y10, A2, cp4, y11, S, h0⟩
    exact (nomatch (show (none : Option Int) = some r from h0))
   ·clear S h2
    rintro q1 a w ⟨m, y10, A2, cp4, y11, S, h0⟩
    replace h0 : fe4_.b1 self0 x1 (fe4_.l1 self0 x1 q1) y10 y11 = some r := h0
    delta fe4_.b1 at h0
    refine c_region (s_bin S rfl rfl rfl rfl fun a S => c_end (wp_seq ?_))
    rcases ite_of h0 with ⟨c5, h1⟩ | ⟨c5, h1⟩
    ·refine c_condT S rfl c5 (wp_skip (x_thenN (wp_seq (wp_block (c_region ?_)))))
     obtain ⟨c6, h2⟩ := chk_of h1; clear h1
     refine s_iaddrS S rfl rfl rfl underlying65 T61 c6.1 c6.2 rfl fun p1 a S => s_ldF S (fun c => .pointer c) (fun c => PR61 c (gt ((PT61.to x1).2.2) y10)) rfl T61 (fun _ => rfl) rfl fun ch1 a S => s_assign S rfl rfl fun a S => c_end (c_region' (s_move S rfl rfl fun a S => s_move S rfl rfl fun a S => bindX h2 fun t1 et1 h3 => s_callP S _ N28 rfl rfl (c_0 (gt ((PT61.to x1).2.2) y10) ch1 t1 et1 _ _) fun ch2 m le1 a w S => s_bin S rfl rfl rfl rfl fun a S => s_min2 S rfl rfl rfl fun a S => s_assign S rfl rfl fun a S => c_end' (x_blockN (x_thenN (c_region' (s_bin S rfl rfl rfl rfl fun a S => s_move S rfl rfl fun a S => c_end' (x_thenN ?_)))))))
     exact ⟨_, (wr .i64 (y10 + 1)), A2, cp4, (imin (wr .i64 (y11 + t1)) 1048577), (S.sb rfl .nil), h3⟩
    ·refine c_condF S rfl c5 (wp_exit (x_thenX (x_thenX (x_blockX (x_thenN ?_)))))
     exact j2 _ y11 a w (S.sb rfl .nil) h1
 refine c_region' (s_move S rfl rfl fun a S => ?_)
 obtain ⟨c7, h1⟩ := chk_of h0; clear h0
 refine s_nilQ S rfl PH61 c7 rfl fun a S => s_faddrP S (tF := yb) (y := (PT61.to x1).1) rfl I67_0 T64 (by decide) (fun m h => (at_fst (at_0 h))) rfl fun a S => s_ld1 S (v := (.int .u8 ((PT61.to x1).1))) rfl T64 (fun _ => rfl) rfl fun a S => s_bin S rfl rfl rfl rfl fun a S => s_move S rfl rfl fun a S => ?_
 rcases ite_of h1 with ⟨c8, h2⟩ | ⟨c8, h2⟩
 ·refine s_gF S (b := (decide (((PT61.to x1).1) < 5))) rfl rfl c8 rfl fun a S => s_gF S (b := (decide (((PT61.to x1).1) < 5))) rfl rfl c8 rfl fun a S => s_pick S (b := true) (hc_of rfl c8) rfl rfl fun a S => c_end' (x_thenN ?_)
  exact j1 _ true a w0 (S.sb rfl .nil) h2
 ·refine s_gT S (b := (decide (((PT61.to x1).1) < 5))) rfl rfl c8 (s_move S rfl rfl fun a S => s_gT S (b := (decide (((PT61.to x1).1) < 5))) rfl rfl c8 (bindX h2 fun t2 et2 h3 => s_callP S _ N27 rfl rfl (fb5_.ok k x1 ch_0_0 t2 et2 _ _) fun ch3 m le1 a w S => s_pick S (b := false) (hc_of rfl c8) rfl rfl fun a S => c_end' (x_thenN ?_)))
  exact j1 _ t2 a w (S.sb rfl .nil) h3
def fe4_.f : Nat → fe4_.Ty
  | 0 => fun _ => none
  | k + 1 => fe4_.body (fe4_.f k) k
theorem fe4_.oks : ∀ k : Nat, fe4_.Ctr (fe4_.f k)
  | 0 => fun _ _ r h0 => (nomatch (show (none : Option Int) = some r from h0))
  | k + 1 => by
    have ih := fe4_.oks k
    exact fe4_.okb (fe4_.f k) ih k
theorem fe4_.ok (k : Nat) : fe4_.Ctr (fe4_.f k) := (fe4_.oks k)
abbrev fd4_.Ty : Type := (L38 × Int) → PT61 → Option ((List Int) × (L38 × Int))
def fd4_.Ctr (s : fd4_.Ty) : Prop := ∀ (x1 : L38 × Int) (x2 : PT61) (ch_0_0 : Nat) (ch_0_1 : Option Addr) (ch_0_2 : Nat) (ch_1_0 : Option Addr) (r : (List Int) × (L38 × Int)), Ct (C := ((Option Addr) × Nat × (Option Addr) × Nat)) Tryd.prog 31 (s x1 x2 = some r) [Res.cells ch_0_0 73 [.q Y56 ch_0_1 ch_0_2 x1.1, .i x1.2]] [(.p ch_0_0), (.rf (.pointer ch_1_0) (PR61 ch_1_0 x2))] (fun ch => (.q yb ch.1 ch.2.1 r.1)) fun ch => [Res.cells ch_0_0 73 [.q Y56 ch.2.2.1 ch.2.2.2 r.2.1, .i r.2.2]]
abbrev fe3_.Ty : Type := (L38 × Int) → (List PT61) → Option ((List Int) × (L38 × Int))
def fe3_.Ctr (s : fe3_.Ty) : Prop := ∀ (x1 : L38 × Int) (x2 : List PT61) (ch_0_0 : Nat) (ch_0_1 : Option Addr) (ch_0_2 : Nat) (ch_1_0 : Option Addr) (ch_1_1 : Nat) (r : (List Int) × (L38 × Int)), Ct (C := ((Option Addr) × Nat × Nat × (Option Addr) × Nat)) Tryd.prog 51 (s x1 x2 = some r) [Res.cells ch_0_0 73 [.q Y56 ch_0_1 ch_0_2 x1.1, .i x1.2]] [(.p ch_0_0), (.q PY61 ch_1_0 ch_1_1 x2)] (fun ch => (.s ch.1 ch.2.1 ch.2.2.1)) fun ch => [Res.row yb 5 ch.1 ch.2.1 ch.2.2.1 r.1, Res.cells ch_0_0 73 [.q Y56 ch.2.2.2.1 ch.2.2.2.2 r.2.1, .i r.2.2]]
def fd4_.j2 (x1 : L38 × Int) (t2 : (List Int)) (y2 : Int) : Option ((List Int) × (L38 × Int)) := some (((t2).drop 0).take 32, (x1.1.drop (Int.toNat 1), y2))
def fd4_.j1 (k : Nat) (self1 : fe3_.Ty) (x1 : L38 × Int) (x2 : PT61) (y1 : Bool) : Option ((List Int) × (L38 × Int)) := if y1 = true then ((fe_.f x1 2).bind fun t1 => (some (([] : List Int), (x1.1, t1.2)))) else (if (0 : Int) ≤ 0 ∧ 0 < ((x1.1).length : Int) then (if (0 : Int) ≤ 1 ∧ (1 : Int) ≤ ((x1.1).length : Int) ∧ ((x1.1).length : Int) ≤ ((x1.1).length : Int) then (if PT61.nn x2 = true then (if (decide (((PT61.to x2).1) < 3)) = true then ((ff4_.f k ((gt x1.1 0).1)).bind fun t2 => ((fe0_.f k x2 ((gt x1.1 0).1)).bind fun t5 => (if (!t5) = true then ((fe_.f (x1.1.drop (Int.toNat 1), x1.2) 5).bind fun t6 => (fd4_.j2 x1 t2 t6.2)) else (fd4_.j2 x1 t2 x1.2)))) else (if (((PT61.to x2).1) == 3) = true then ((fg_.f k (((gt x1.1 0).2.1).length : Int)).bind fun t7 => ((fa2_.f k [t7, (gt x1.1 0).2.1]).bind fun t8 => (if (0 : Int) ≤ (Int.tmod (wr .i64 (32 - (Int.tmod ((t8).length : Int) 32))) 32) ∧ ((t8).length + Int.toNat (Int.tmod (wr .i64 (32 - (Int.tmod ((t8).length : Int) 32))) 32)) * 1 ≤ 140737488355328 then (some (t8 ++ List.replicate (Int.toNat (Int.tmod (wr .i64 (32 - (Int.tmod ((t8).length : Int) 32))) 32)) (0 : Int), (x1.1.drop (Int.toNat 1), x1.2))) else none))) else (if (((PT61.to x2).1) == 4) = true then ((fg_.f k ((gt x1.1 0).2.2)).bind fun t9 => ((fa8_.f k x2 ((gt x1.1 0).2.2)).bind fun t10 => ((self1 (x1.1.drop (Int.toNat 1), x1.2) t10).bind fun t11 => ((fa2_.f k [t9, t11.1]).bind fun t12 => (some (t12, t11.2)))))) else ((fa8_.f k x2 ((gt x1.1 0).2.2)).bind fun t13 => ((self1 (x1.1.drop (Int.toNat 1), x1.2) t13).bind fun t14 => (some (t14.1, t14.2))))))) else none) else none) else none)
def fd4_.body (self0 : fd4_.Ty) (self1 : fe3_.Ty) (k : Nat) (x1 : L38 × Int) (x2 : PT61) : Option ((List Int) × (L38 × Int)) := if (x1.2 != 0) = true then (fd4_.j1 k self1 x1 x2 true) else (fd4_.j1 k self1 x1 x2 (((x1.1).length : Int) == 0))
theorem fd4_.okb (self0 : fd4_.Ty) (self1 : fe3_.Ty) (c_0 : fd4_.Ctr self0) (c_1 : fe3_.Ctr self1) (k : Nat) : fd4_.Ctr (fd4_.body self0 self1 k) := by
 intro x1 x2 ch_0_0 ch_0_1 ch_0_2 ch_1_0 r h0 mi w0 ok hm
 delta fd4_.body at h0
 refine c_enterZ (n := 98) ok hm func31 rfl rfl rfl fun b0 hb a S => c_region (s_assign S rfl rfl fun a S => c_end (wp_seq (wp_seq_k fun K1 hK1 => ?_)))
 have j1 : ∀ m y1 a w, St 98 m b0 [(20, (.b y1)), (0, (.p ch_0_0)), (1, (.rf (.pointer ch_1_0) (PR61 ch_1_0 x2)))] [Res.cells ch_0_0 73 [.q Y56 ch_0_1 ch_0_2 x1.1, .i x1.2]] a w → fd4_.j1 k self1 x1 x2 y1 = some r → K1 a w := by
  intro m y1 a w S h0
  delta fd4_.j1 at h0
  refine hK1 a w ?_
  rcases ite_of h0 with ⟨c1, h1⟩ | ⟨c1, h1⟩
  ·refine c_condT S rfl c1 (c_region (s_move S rfl rfl fun a S => bindX h1 fun t1 et1 h2 => s_callX S (ds' := [(.p ch_0_0), (.i 2)]) (ds := [(.p ch_0_0), (.i 2)]) [Res.cells ch_0_0 73 [.q Y56 ch_0_1 ch_0_2 x1.1, .i x1.2]] [] (fun (ch : Unit) => ((.tup []) : D)) (fun (ch : Unit) => [Res.cells ch_0_0 73 [.q Y56 ch_0_1 ch_0_2 x1.1, .i t1.2]]) (fun (ch : Unit) => [Res.cells ch_0_0 73 [.q Y56 ch_0_1 ch_0_2 x1.1, .i t1.2]]) (fun _ => rfl) N46 rfl rfl (fun ok => ok) (.c0 .n) rfl (fe_.ok x1 2 ch_0_0 ch_0_1 ch_0_2 t1 et1 _ _) fun ch1 m le1 a w S => c_end (c_region (s_assign S rfl rfl fun a S => c_end (wp_ret (x_thenR ?_))))))
   replace S := S.slot (u := 4) (d' := (.q yb none 0 ([] : List Int))) rfl rfl ok_nil
   obtain rfl := Option.some.inj h2
   exact b_ret1 (d := (.q yb none 0 ([] : List Int))) S rfl rfl fun ok => S.retX (Hx := []) hb _ _ ((none, 0, ch_0_1, ch_0_2) : (Option Addr) × Nat × (Option Addr) × Nat) (.c0 .n) ok
  ·refine c_condF S rfl c1 (wp_skip (x_thenN (c_region (s_move S rfl rfl fun a S => s_nilchk S rfl rfl fun a S => s_fieldAddr S rfl I73_0 T38 (by decide) rfl rfl fun a S => s_loadSl S rfl .h T38 (A := ch_0_1) (len := (x1.1).length) (cap := ch_0_2) rfl rfl fun a S => ?_))))
   obtain ⟨c2, h2⟩ := chk_of h1; clear h1
   refine s_iaddrS S rfl rfl rfl underlying38 T56 c2.1 c2.2 rfl fun p1 a S => s_ldA S (fun (c : Unit × (Option Addr × Nat) × Unit) => (Y56.segs (gt x1.1 0) c)) rfl T56 (fun _ => rfl) rfl fun ch2 a S => ?_
   refine s_alloc S Z56 rfl ⟨rfl, rfl, rfl, trivial⟩ rfl fun g1 a w S => s_store S rfl rfl rfl (s' := [.w4 ((gt x1.1 0).1), .q yb ch2.2.1.1 ch2.2.1.2 ((gt x1.1 0).2.1), .i ((gt x1.1 0).2.2)]) .h T56 rfl rfl fun w S => c_end (c_region (s_move S rfl rfl fun a S => s_move S rfl rfl fun a S => s_nilchk S rfl rfl fun a S => s_fieldAddr S rfl I73_0 T38 (by decide) rfl rfl fun a S => s_loadSl S rfl .h1 T38 (A := ch_0_1) (len := (x1.1).length) (cap := ch_0_2) rfl rfl fun a S => ?_))
   obtain ⟨c3, h3⟩ := chk_of h2; clear h2
   refine s_cutS S (i := 1) (j := ((x1.1).length : Int)) (ys := x1.1.drop (Int.toNat 1)) rfl rfl underlying38 T56 (.inr ⟨_, _, rfl, rfl⟩) (.inl ⟨rfl, rfl⟩) c3 rfl (cut_end rfl) fun A1 cp1 a S => s_nilchk S rfl rfl fun a S => s_fieldAddr S rfl I73_0 T38 (by decide) rfl rfl fun a S => s_store S rfl rfl rfl (s' := [.q Y56 A1 cp1 (x1.1.drop (Int.toNat 1)), .i x1.2]) .h1 T38 rfl rfl fun w S => c_end (wp_seq (wp_block (c_region (s_move S rfl rfl fun a S => ?_))))
   obtain ⟨c4, h4⟩ := chk_of h3; clear h3
   refine s_nilQ S rfl PH61 c4 rfl fun a S => s_faddrP S (tF := yb) (y := (PT61.to x2).1) rfl I67_0 T64 (by decide) (fun m h => (at_fst (at_0 h))) rfl fun a S => s_ld1 S (v := (.int .u8 ((PT61.to x2).1))) rfl T64 (fun _ => rfl) rfl fun a S => s_bin S rfl rfl rfl rfl fun a S => s_assign S rfl rfl fun a S => c_end ?_
   rcases ite_of h4 with ⟨c5, h5⟩ | ⟨c5, h5⟩
   ·refine c_condT S rfl c5 (c_region (s_fieldAddr S rfl I56_0 T54 (by decide) rfl rfl fun a S => s_loada S rfl .h T54 (s' := [.w4 ((gt x1.1 0).1)]) rfl rfl fun a S => bindX h5 fun t2 et2 h6 => s_callP S _ N47 rfl rfl (ff4_.ok k ((gt x1.1 0).1) t2 et2 _ _) fun ch3 m le1 a w S => s_alloc S Z23 rfl ⟨rfl, trivial⟩ rfl fun g2 a w S => s_store S rfl rfl rfl (s' := [.b32 t2]) .h T23 rfl rfl fun w S => c_end (wp_seq_k fun K2 hK2 => ?_)))
    have j2 : ∀ m g3 A2 cp2 y2 a w, St 98 m b0 [(6, (.p g3))] [Res.cells ch_0_0 73 [.q Y56 A2 cp2 (x1.1.drop (Int.toNat 1)), .i y2], Res.cells g3 23 [.b32 t2]] a w → fd4_.j2 x1 t2 y2 = some r → K2 a w := by
     intro m g3 A2 cp2 y2 a w S h0
     delta fd4_.j2 at h0
     refine hK2 a w (c_region (s_sliceA S (i := 0) (j := 32) (o' := 0) (len := 32) (cap := 32) rfl underlying23 T5 (.inl ⟨rfl, rfl⟩) (.inl ⟨rfl, rfl⟩) (by decide) rfl rfl rfl rfl fun a S => s_assign S rfl rfl fun a S => c_end (wp_ret (x_blockR (x_thenR ?_)))))
     replace S := S.freeze .h1
     obtain ⟨m, le1, S⟩ := S
     replace S := (S.slup' (u := 4) (lo := 0) (c := 32) (ys := ((t2).drop 0).take 32) rfl (Pull.mem .h1).1 .h (.inl rfl) (by decide) (by decide) rfl).2
     obtain rfl := Option.some.inj h0
     exact b_ret1 (d := (.q yb (ad g3) 32 (((t2).drop 0).take 32))) S rfl rfl fun ok => S.retX (Hx := []) hb _ _ (((ad g3), 32, A2, cp2) : (Option Addr) × Nat × (Option Addr) × Nat) (.c0 .n) ok
    refine c_region (s_move S rfl rfl fun a S => s_fieldAddr S rfl I56_0 T54 (by decide) rfl rfl fun a S => s_loada S rfl .h1 T54 (s' := [.w4 ((gt x1.1 0).1)]) rfl rfl fun a S => bindX h6 fun t5 et5 h7 => s_callP S _ N48 rfl rfl (fe0_.ok k x2 ((gt x1.1 0).1) ch_1_0 t5 et5 _ _) fun ch4 m le1 a w S => s_not S rfl rfl fun a S => c_end ?_)
    rcases ite_of h7 with ⟨c6, h8⟩ | ⟨c6, h8⟩
    ·refine c_condT S rfl c6 (c_region' (s_move S rfl rfl fun a S => bindX h8 fun t6 et6 h9 => s_callX S (ds' := [(.p ch_0_0), (.i 5)]) (ds := [(.p ch_0_0), (.i 5)]) [Res.cells ch_0_0 73 [.q Y56 A1 cp1 (x1.1.drop (Int.toNat 1)), .i x1.2]] [Res.cells g2 23 [.b32 t2], Res.cells g1 56 (Y56.segs (gt x1.1 0) ch2)] (fun (ch : Unit) => ((.tup []) : D)) (fun (ch : Unit) => [Res.cells ch_0_0 73 [.q Y56 A1 cp1 (x1.1.drop (Int.toNat 1)), .i t6.2]]) (fun (ch : Unit) => [Res.cells ch_0_0 73 [.q Y56 A1 cp1 (x1.1.drop (Int.toNat 1)), .i t6.2], Res.cells g2 23 [.b32 t2], Res.cells g1 56 (Y56.segs (gt x1.1 0) ch2)]) (fun _ => rfl) N46 rfl rfl (fun ok => ok) (.c2 (.c0 (.c0 .n))) rfl (fe_.ok (x1.1.drop (Int.toNat 1), x1.2) 5 ch_0_0 A1 cp1 t6 et6 _ _) fun ch5 m le1 a w S => c_end' (x_thenN ?_)))
     exact j2 _ g2 A1 cp1 t6.2 a w (S.sub ⟨rfl, trivial⟩ (.c0 (.c0 .n))) h9
    ·refine c_condF S rfl c6 (wp_skip (x_thenN ?_))
     exact j2 _ g2 A1 cp1 x1.2 a w (S.sub ⟨rfl, trivial⟩ (.c2 (.c0 .n))) h8
   ·refine c_condF S rfl c5 (c_region (s_move S rfl rfl fun a S => s_nilQ S rfl PH61 c4 rfl fun a S => s_faddrP S (tF := yb) (y := (PT61.to x2).1) rfl I67_0 T64 (by decide) (fun m h => (at_fst (at_0 h))) rfl fun a S => s_ld1 S (v := (.int .u8 ((PT61.to x2).1))) rfl T64 (fun _ => rfl) rfl fun a S => s_bin S rfl rfl rfl rfl fun a S => s_assign S rfl rfl fun a S => c_end ?_))
    rcases ite_of h5 with ⟨c7, h6⟩ | ⟨c7, h6⟩
    ·refine c_condT S rfl c7 ?_
     refine wp_seq (c_heldS S (.take 0 (.take 1 (.take 2 (.take 4 (.take 5 (.alts (.run 3 true (.alts (.run 6 true (.alts (.run 7 true (.take 8 .done) .nil)) .nil)) .nil))))))) 9 [Res.cells g1 56 (Y56.segs (gt x1.1 0) ch2), Res.cells ch_0_0 73 [.q Y56 A1 cp1 (x1.1.drop (Int.toNat 1)), .i x1.2]] (.c0 (.c0 .n)) ⟨Res.stay_cells, Res.stay_cells, trivial⟩ [(5, (.p g1))] ⟨rfl, trivial⟩ (by kernel_rfl) (by kernel_rfl) ?_); clear S; intro w S CL hw le
     refine h_fieldAddr S CL hw le ⟨rfl, trivial⟩ rfl I56_1 T26 (by decide) rfl rfl rfl trivial fun a S CL => h_loadSl S CL hw le (subR rfl) rfl .h T26 (A := ch2.2.1.1) (len := ((gt x1.1 0).2.1).length) (cap := ch2.2.1.2) rfl rfl rfl trivial fun a S CL => h_lenS S CL hw le (subR rfl) rfl underlying26 rfl rfl trivial fun a S CL => h_fieldAddr S CL hw le (subR rfl) rfl I56_1 T26 (by decide) rfl rfl rfl trivial fun a S CL => h_loadSl S CL hw le (subR rfl) rfl .h T26 (A := ch2.2.1.1) (len := ((gt x1.1 0).2.1).length) (cap := ch2.2.1.2) rfl rfl rfl trivial fun a S CL => h_run' S rfl trivial (bindX h6 fun t7 et7 h7 => s_callP S _ N50 rfl rfl (fg_.ok k (((gt x1.1 0).2.1).length : Int) t7 et7 _ _) fun ch6 m le1 a w S => ?_)
     replace le := le.trans le1
     refine CL.bk hw S (.c0 (.c0 .n)) le fun hw => h_run' S rfl trivial (s_bldSl S (ty' := (Ty.slice yb)) (ds := [(0, (.q yb ch6.1 ch6.2 t7)), (1, (.q yb ch2.2.1.1 ch2.2.1.2 ((gt x1.1 0).2.1)))]) (z := ([] : List Int)) (c0 := (none, 0)) (ys := [t7, (gt x1.1 0).2.1]) (cs := [(ch6.1, ch6.2), (ch2.2.1.1, ch2.2.1.2)]) rfl underlying125 J26 Z26 rfl ⟨⟨Nat.le_refl _, Nat.zero_le _, RdS.nil _ _ _, RdS.mono _ _ _⟩, trivial⟩ rfl rfl rfl rfl rfl rfl fun g4 a w S => CL.bk hw S (.c1 (.c1 .n)) le fun hw => h_run' S rfl trivial ?_)
     replace S := S.rowfro .h
     obtain ⟨m, le1, S, hro⟩ := S
     replace le := le.trans le1
     replace S := S.slotro (u := 66) rfl hro
     refine bindX h7 fun t8 et8 h8 => s_callR S (fun (ch : (Option Addr) × Nat × Nat) => ((.s ch.1 ch.2.1 ch.2.2) : D)) (fun (ch : (Option Addr) × Nat × Nat) => Res.row yb 5 ch.1 ch.2.1 ch.2.2 t8) N49 rfl rfl (fa2_.ok k [t7, (gt x1.1 0).2.1] (ad g4) 2 t8 et8 _ _) fun ch7 m le1 a w S => ?_
     replace le := le.trans le1
     refine CL.bk hw S (.c1 (.c1 .n)) le fun hw => ?_
     replace CL := CL.add (t := 67) (d := (.s ch7.1 ch7.2.1 ch7.2.2)) S rfl rfl
     refine h_assign S CL hw le (subR rfl) rfl rfl rfl trivial fun a S CL => ?_
     refine h_done ?_; clear CL hw le
     refine x_thenN (c_region (s_move S rfl rfl fun a S => s_move S rfl rfl fun a S => s_lenO S rfl .h underlying26 rfl fun a S => s_rem S rfl rfl (by decide) rfl fun a S => s_bin S rfl rfl rfl rfl fun a S => s_rem S rfl rfl (by decide) rfl fun a S => ?_))
     obtain ⟨c8, h9⟩ := chk_of h8; clear h8
     refine s_appZ S (z := 0) (c0 := ()) rfl (fun _ _ => .h) rfl underlying26 underlying3 J5 Z5 rfl ⟨rfl, trivial⟩ c8.1 c8.2 rfl fun A3 cp3 a w S => s_assign S rfl rfl fun a S => c_end (wp_ret (x_blockR (x_thenR ?_)))
     replace S := S.rowfro .h
     obtain ⟨m, le1, S, hro⟩ := S
     replace S := S.slotro (u := 4) rfl hro
     replace S := S.slotro (u := 74) rfl hro
     obtain rfl := Option.some.inj h9
     exact b_ret1 (d := (.q yb A3 cp3 (t8 ++ List.replicate (Int.toNat (Int.tmod (wr .i64 (32 - (Int.tmod ((t8).length : Int) 32))) 32)) (0 : Int)))) S rfl rfl fun ok => S.retX (Hx := []) hb _ _ ((A3, cp3, A1, cp1) : (Option Addr) × Nat × (Option Addr) × Nat) (.c1 .n) ok
    ·refine c_condF S rfl c7 (c_region (s_move S rfl rfl fun a S => s_nilQ S rfl PH61 c4 rfl fun a S => s_faddrP S (tF := yb) (y := (PT61.to x2).1) rfl I67_0 T64 (by decide) (fun m h => (at_fst (at_0 h))) rfl fun a S => s_ld1 S (v := (.int .u8 ((PT61.to x2).1))) rfl T64 (fun _ => rfl) rfl fun a S => s_bin S rfl rfl rfl rfl fun a S => s_assign S rfl rfl fun a S => c_end ?_))
     rcases ite_of h6 with ⟨c9, h7⟩ | ⟨c9, h7⟩
     ·refine c_condT S rfl c9 ?_
      refine wp_seq (c_heldS S (.take 0 (.take 1 (.take 3 (.take 4 (.take 5 (.take 6 (.alts (.run 2 true (.alts (.run 7 true (.alts (.run 8 true (.alts (.run 9 true (.alts (.run 10 true (.take 11 .done) .nil)) .nil)) .nil)) .nil)) .nil)))))))) 12 [Res.cells g1 56 (Y56.segs (gt x1.1 0) ch2)] (.c0 .n) ⟨Res.stay_cells, trivial⟩ [(5, (.p g1)), (0, (.p ch_0_0)), (1, (.rf (.pointer ch_1_0) (PR61 ch_1_0 x2)))] (subR rfl) (by kernel_rfl) (by kernel_rfl) ?_); clear S; intro w S CL hw le
      refine h_fieldAddr S CL hw le (subR rfl) rfl I56_2 T3 (by decide) rfl rfl rfl trivial fun a S CL => h_load1 S CL hw le (subR rfl) rfl .h T3 (v := (.int .i64 ((gt x1.1 0).2.2))) rfl rfl rfl trivial fun a S CL => h_move S CL hw le (subR rfl) rfl rfl rfl trivial fun a S CL => h_move S CL hw le (subR rfl) rfl rfl rfl trivial fun a S CL => h_fieldAddr S CL hw le (subR rfl) rfl I56_2 T3 (by decide) rfl rfl rfl trivial fun a S CL => h_load1 S CL hw le (subR rfl) rfl .h T3 (v := (.int .i64 ((gt x1.1 0).2.2))) rfl rfl rfl trivial fun a S CL => h_run' S rfl trivial (bindX h7 fun t9 et9 h8 => s_callP S _ N50 rfl rfl (fg_.ok k ((gt x1.1 0).2.2) t9 et9 _ _) fun ch8 m le1 a w S => ?_)
      replace le := le.trans le1
      refine CL.bk hw S (.c0 .n) le fun hw => h_run' S rfl trivial (bindX h8 fun t10 et10 h9 => s_callP S _ N44 rfl rfl (fa8_.ok k x2 ((gt x1.1 0).2.2) ch_1_0 t10 et10 _ _) fun ch9 m le1 a w S => ?_)
      replace le := le.trans le1
      refine CL.bk hw S (.c0 .n) le fun hw => h_run' S rfl trivial (bindX h9 fun t11 et11 h10 => s_callX S (ds' := [(.p ch_0_0), (.q PY61 ch9.1 ch9.2 t10)]) (ds := [(.p ch_0_0), (.q PY61 ch9.1 ch9.2 t10)]) [Res.cells ch_0_0 73 [.q Y56 A1 cp1 (x1.1.drop (Int.toNat 1)), .i x1.2]] [Res.cells g1 56 (Y56.segs (gt x1.1 0) ch2)] (fun (ch : (Option Addr) × Nat × Nat × (Option Addr) × Nat) => ((.s ch.1 ch.2.1 ch.2.2.1) : D)) (fun (ch : (Option Addr) × Nat × Nat × (Option Addr) × Nat) => [Res.row yb 5 ch.1 ch.2.1 ch.2.2.1 t11.1, Res.cells ch_0_0 73 [.q Y56 ch.2.2.2.1 ch.2.2.2.2 t11.2.1, .i t11.2.2]]) (fun (ch : (Option Addr) × Nat × Nat × (Option Addr) × Nat) => [Res.row yb 5 ch.1 ch.2.1 ch.2.2.1 t11.1, Res.cells ch_0_0 73 [.q Y56 ch.2.2.2.1 ch.2.2.2.2 t11.2.1, .i t11.2.2], Res.cells g1 56 (Y56.segs (gt x1.1 0) ch2)]) (fun _ => rfl) N51 rfl rfl (fun ok => ok) (.c1 (.c0 .n)) rfl (c_1 (x1.1.drop (Int.toNat 1), x1.2) t10 ch_0_0 A1 cp1 ch9.1 ch9.2 t11 et11 _ _) fun ch10 m le1 a w S => ?_)
      replace le := le.trans le1
      refine CL.bk hw S (.c2 .n) le fun hw => h_run' S rfl trivial ?_
      replace S := S.rowfro .h
      obtain ⟨m, le1, S, hro⟩ := S
      replace le := le.trans le1
      replace S := S.slotro (u := 89) rfl hro
      refine s_bldSl S (ty' := (Ty.slice yb)) (ds := [(0, (.q yb ch8.1 ch8.2 t9)), (1, (.q yb ch10.1 ch10.2.2.1 t11.1))]) (z := ([] : List Int)) (c0 := (none, 0)) (ys := [t9, t11.1]) (cs := [(ch8.1, ch8.2), (ch10.1, ch10.2.2.1)]) rfl underlying125 J26 Z26 rfl ⟨⟨Nat.le_refl _, Nat.zero_le _, RdS.nil _ _ _, RdS.mono _ _ _⟩, trivial⟩ rfl rfl rfl rfl rfl rfl fun g5 a w S => CL.bk hw S (.c2 .n) le fun hw => h_run' S rfl trivial ?_
      replace S := S.rowfro .h
      obtain ⟨m, le1, S, hro⟩ := S
      replace le := le.trans le1
      replace S := S.slotro (u := 90) rfl hro
      refine bindX h10 fun t12 et12 h11 => s_callR S (fun (ch : (Option Addr) × Nat × Nat) => ((.s ch.1 ch.2.1 ch.2.2) : D)) (fun (ch : (Option Addr) × Nat × Nat) => Res.row yb 5 ch.1 ch.2.1 ch.2.2 t12) N49 rfl rfl (fa2_.ok k [t9, t11.1] (ad g5) 2 t12 et12 _ _) fun ch11 m le1 a w S => ?_
      replace le := le.trans le1
      refine CL.bk hw S (.c2 .n) le fun hw => ?_
      replace CL := CL.add (t := 91) (d := (.s ch11.1 ch11.2.1 ch11.2.2)) S rfl rfl
      refine h_assign S CL hw le (subR rfl) rfl rfl rfl trivial fun a S CL => ?_
      refine h_done ?_; clear CL hw le
      refine x_thenN (wp_ret (x_blockR (x_thenR ?_)))
      replace S := S.rowfro .h
      obtain ⟨m, le1, S, hro⟩ := S
      replace S := S.slotro (u := 4) rfl hro
      replace S := S.slotro (u := 91) rfl hro
      obtain rfl := Option.some.inj h11
      exact b_ret1 (d := (.q yb ch11.1 ch11.2.2 t12)) S rfl rfl fun ok => S.retX (Hx := []) hb _ _ ((ch11.1, ch11.2.2, ch10.2.2.2.1, ch10.2.2.2.2) : (Option Addr) × Nat × (Option Addr) × Nat) (.c0 .n) ok
     ·refine c_condF S rfl c9 (wp_skip (x_blockN (x_thenN (c_region (s_move S rfl rfl fun a S => s_move S rfl rfl fun a S => s_fieldAddr S rfl I56_2 T3 (by decide) rfl rfl fun a S => s_load1 S rfl .h T3 (v := (.int .i64 ((gt x1.1 0).2.2))) rfl rfl fun a S => bindX h7 fun t13 et13 h8 => s_callP S _ N44 rfl rfl (fa8_.ok k x2 ((gt x1.1 0).2.2) ch_1_0 t13 et13 _ _) fun ch12 m le1 a w S => bindX h8 fun t14 et14 h9 => s_callX S (ds' := [(.p ch_0_0), (.q PY61 ch12.1 ch12.2 t13)]) (ds := [(.p ch_0_0), (.q PY61 ch12.1 ch12.2 t13)]) [Res.cells ch_0_0 73 [.q Y56 A1 cp1 (x1.1.drop (Int.toNat 1)), .i x1.2]] [Res.cells g1 56 (Y56.segs (gt x1.1 0) ch2)] (fun (ch : (Option Addr) × Nat × Nat × (Option Addr) × Nat) => ((.s ch.1 ch.2.1 ch.2.2.1) : D)) (fun (ch : (Option Addr) × Nat × Nat × (Option Addr) × Nat) => [Res.row yb 5 ch.1 ch.2.1 ch.2.2.1 t14.1, Res.cells ch_0_0 73 [.q Y56 ch.2.2.2.1 ch.2.2.2.2 t14.2.1, .i t14.2.2]]) (fun (ch : (Option Addr) × Nat × Nat × (Option Addr) × Nat) => [Res.row yb 5 ch.1 ch.2.1 ch.2.2.1 t14.1, Res.cells ch_0_0 73 [.q Y56 ch.2.2.2.1 ch.2.2.2.2 t14.2.1, .i t14.2.2], Res.cells g1 56 (Y56.segs (gt x1.1 0) ch2)]) (fun _ => rfl) N51 rfl rfl (fun ok => ok) (.c1 (.c0 .n)) rfl (c_1 (x1.1.drop (Int.toNat 1), x1.2) t13 ch_0_0 A1 cp1 ch12.1 ch12.2 t14 et14 _ _) fun ch13 m le1 a w S => s_assign S rfl rfl fun a S => c_end (wp_ret ?_))))))
      replace S := S.rowfro .h
      obtain ⟨m, le1, S, hro⟩ := S
      replace S := S.slotro (u := 4) rfl hro
      replace S := S.slotro (u := 97) rfl hro
      obtain rfl := Option.some.inj h9
      exact b_ret1 (d := (.q yb ch13.1 ch13.2.2.1 t14.1)) S rfl rfl fun ok => S.retX (Hx := []) hb _ _ ((ch13.1, ch13.2.2.1, ch13.2.2.2.1, ch13.2.2.2.2) : (Option Addr) × Nat × (Option Addr) × Nat) (.c0 .n) ok
 refine c_region' (s_move S rfl rfl fun a S => s_nilchk S rfl rfl fun a S => s_fieldAddr S rfl I73_1 T40 (by decide) rfl rfl fun a S => s_load1 S rfl .h T40 (v := (.int .i64 x1.2)) rfl rfl fun a S => s_bin S rfl rfl rfl rfl fun a S => s_move S rfl rfl fun a S => ?_)
 rcases ite_of h0 with ⟨c10, h1⟩ | ⟨c10, h1⟩
 ·refine s_gF S (b := (x1.2 != 0)) rfl rfl c10 rfl fun a S => s_gF S (b := (x1.2 != 0)) rfl rfl c10 rfl fun a S => s_gF S (b := (x1.2 != 0)) rfl rfl c10 rfl fun a S => s_gF S (b := (x1.2 != 0)) rfl rfl c10 rfl fun a S => s_gF S (b := (x1.2 != 0)) rfl rfl c10 rfl fun a S => s_gF S (b := (x1.2 != 0)) rfl rfl c10 rfl fun a S => s_pick S (b := true) (hc_of rfl c10) rfl rfl fun a S => c_end' (x_thenN ?_)
  exact j1 _ true a w0 (S.sb rfl (.c0 .n)) h1
 ·refine s_gT S (b := (x1.2 != 0)) rfl rfl c10 (s_move S rfl rfl fun a S => s_gT S (b := (x1.2 != 0)) rfl rfl c10 (s_nilchk S rfl rfl fun a S => s_gT S (b := (x1.2 != 0)) rfl rfl c10 (s_fieldAddr S rfl I73_0 T38 (by decide) rfl rfl fun a S => s_gT S (b := (x1.2 != 0)) rfl rfl c10 (s_loadSl S rfl .h T38 (A := ch_0_1) (len := (x1.1).length) (cap := ch_0_2) rfl rfl fun a S => s_gT S (b := (x1.2 != 0)) rfl rfl c10 (s_lenS S rfl underlying38 rfl fun a S => s_gT S (b := (x1.2 != 0)) rfl rfl c10 (s_bin S rfl rfl rfl rfl fun a S => s_pick S (b := false) (hc_of rfl c10) rfl rfl fun a S => c_end' (x_thenN ?_)))))))
  exact j1 _ (((x1.1).length : Int) == 0) a w0 (S.sb rfl (.c0 .n)) h1
def fe3_.j2 (y18 : List Int) (y19 : List Int) (y20 : List ((List Int) × (List Int) × Int)) (y21 : Int) : Option ((List Int) × (L38 × Int)) := if ((y18).length + (y19).length) * 1 ≤ 140737488355328 then (some (y18 ++ y19, (y20, y21))) else none
def fe3_.j4 (y35 : Int) (rec1 : (List Int) → (List Int) → Int → (List ((List Int) × (List Int) × Int)) → Int → Option ((List Int) × (L38 × Int))) (t1 : (List Int) × (L38 × Int)) (y38 : List Int) (y39 : List Int) (y40 : Bool) : Option ((List Int) × (L38 × Int)) := if y40 = true then ((fe_.f t1.2 4).bind fun t4 => (some (([] : List Int), (t1.2.1, t4.2)))) else (rec1 y39 y38 (wr .i64 (y35 + 1)) t1.2.1 t1.2.2)
def fe3_.j3 (y1 : Int) (y35 : Int) (rec1 : (List Int) → (List Int) → Int → (List ((List Int) × (List Int) × Int)) → Int → Option ((List Int) × (L38 × Int))) (t1 : (List Int) × (L38 × Int)) (y38 : List Int) (y39 : List Int) : Option ((List Int) × (L38 × Int)) := if (t1.2.2 != 0) = true then (fe3_.j4 y35 rec1 t1 y38 y39 true) else (fe3_.j4 y35 rec1 t1 y38 y39 (decide (1048576 < (wr .i64 (y1 + ((y38).length : Int))))))
def fe3_.b1 (k : Nat) (self0 : fd4_.Ty) (x2 : List PT61) (y1 : Int) (rec1 : (List Int) → (List Int) → Int → (List ((List Int) × (List Int) × Int)) → Int → Option ((List Int) × (L38 × Int))) (y33 : List Int) (y34 : List Int) (y35 : Int) (y36 : List ((List Int) × (List Int) × Int)) (y37 : Int) : Option ((List Int) × (L38 × Int)) := if (decide (y35 < ((x2).length : Int))) = true then (if (0 : Int) ≤ y35 ∧ y35 < ((x2).length : Int) then ((self0 (y36, y37) (gt x2 y35)).bind fun t1 => ((fb5_.f k (gt x2 y35)).bind fun t5 => (if t5 = true then ((fg_.f k (wr .i64 (y1 + ((y34).length : Int)))).bind fun t6 => (if ((y33).length + (t6).length) * 1 ≤ 140737488355328 then (if ((y34).length + (t1.1).length) * 1 ≤ 140737488355328 then (fe3_.j3 y1 y35 rec1 t1 (y34 ++ t1.1) (y33 ++ t6)) else none) else none)) else (if ((y33).length + (t1.1).length) * 1 ≤ 140737488355328 then (fe3_.j3 y1 y35 rec1 t1 y34 (y33 ++ t1.1)) else none)))) else none) else (fe3_.j2 y33 y34 y36 y37)
def fe3_.l1 (k : Nat) (self0 : fd4_.Ty) (x2 : List PT61) (y1 : Int) : Nat → (List Int) → (List Int) → Int → (List ((List Int) × (List Int) × Int)) → Int → Option ((List Int) × (L38 × Int))
  | 0, _, _, _, _, _ => none
  | q + 1, y33, y34, y35, y36, y37 => fe3_.b1 k self0 x2 y1 (fe3_.l1 k self0 x2 y1 q) y33 y34 y35 y36 y37
def fe3_.j1 (k : Nat) (self0 : fd4_.Ty) (x1 : L38 × Int) (x2 : List PT61) (y1 : Int) : Option ((List Int) × (L38 × Int)) := fe3_.l1 k self0 x2 y1 k ([] : List Int) ([] : List Int) 0 x1.1 x1.2
def fe3_.b2 (k : Nat) (self0 : fd4_.Ty) (x1 : L38 × Int) (x2 : List PT61) (rec2 : Int → Int → Option ((List Int) × (L38 × Int))) (y43 : Int) (y44 : Int) : Option ((List Int) × (L38 × Int)) := if (decide (y43 < ((x2).length : Int))) = true then (if (0 : Int) ≤ y43 ∧ y43 < ((x2).length : Int) then ((fe4_.f k (gt x2 y43)).bind fun t9 => (rec2 (wr .i64 (y43 + 1)) (wr .i64 (y44 + t9)))) else none) else (fe3_.j1 k self0 x1 x2 y44)
def fe3_.l2 (k : Nat) (self0 : fd4_.Ty) (x1 : L38 × Int) (x2 : List PT61) : Nat → Int → Int → Option ((List Int) × (L38 × Int))
  | 0, _, _ => none
  | q + 1, y43, y44 => fe3_.b2 k self0 x1 x2 (fe3_.l2 k self0 x1 x2 q) y43 y44
def fe3_.body (self0 : fd4_.Ty) (self1 : fe3_.Ty) (k : Nat) (x1 : L38 × Int) (x2 : List PT61) : Option ((List Int) × (L38 × Int)) := fe3_.l2 k self0 x1 x2 k 0 0
theorem fe3_.okb (self0 : fd4_.Ty) (self1 : fe3_.Ty) (c_0 : fd4_.Ctr self0) (c_1 : fe3_.Ctr self1) (k : Nat) : fe3_.Ctr (fe3_.body self0 self1 k) := by
 intro x1 x2 ch_0_0 ch_0_1 ch_0_2 ch_1_0 ch_1_1 r h0 mi w0 ok hm
 delta fe3_.body at h0
 refine c_enterZ (n := 66) ok hm func51 rfl rfl rfl fun b0 hb a S => c_region (s_assign S rfl rfl fun a S => c_end (c_region (s_assign S rfl rfl fun a S => c_end (wp_seq_k fun K1 hK1 => ?_))))
 have j1 : ∀ m y1 a w, St 66 m b0 [(5, (.i y1)), (0, (.p ch_0_0)), (1, (.q PY61 ch_1_0 ch_1_1 x2))] [Res.cells ch_0_0 73 [.q Y56 ch_0_1 ch_0_2 x1.1, .i x1.2]] a w → fe3_.j1 k self0 x1 x2 y1 = some r → K1 a w := by
  intro m y1 a w S h0
  delta fe3_.j1 at h0
  refine hK1 a w (c_region (s_assign S rfl rfl fun a S => s_assign S rfl rfl fun a S => c_end (wp_seq_k fun K2 hK2 => ?_)))
  have j2 : ∀ m A1 nn1 cp1 y18 A2 nn2 cp2 y19 A3 cp3 y20 y21 a w, St 66 m b0 [(8, (.s A1 nn1 cp1)), (9, (.s A2 nn2 cp2))] [Res.row yb 5 A1 nn1 cp1 y18, Res.row yb 5 A2 nn2 cp2 y19, Res.cells ch_0_0 73 [.q Y56 A3 cp3 y20, .i y21]] a w → fe3_.j2 y18 y19 y20 y21 = some r → K2 a w := by
   intro m A1 nn1 cp1 y18 A2 nn2 cp2 y19 A3 cp3 y20 y21 a w S h0
   delta fe3_.j2 at h0
   refine hK2 a w (c_region (s_move S rfl rfl fun a S => s_move S rfl rfl fun a S => ?_))
   obtain ⟨c1, h1⟩ := chk_of h0; clear h0
   refine s_app S (k2 := nn2) (ys := y19) rfl (fun _ _ => .h) rfl rfl (S.holds _ (Pull.mem .h1).1).1 (Res.row.src (S.holds _ (Pull.mem .h1).1)) underlying26 J5 c1 rfl fun A4 cp4 a w S => s_assign S rfl rfl fun a S => c_end (wp_ret ?_)
   obtain rfl := Option.some.inj h1
   exact b_ret1 (d := (.s A4 (nn1 + nn2) cp4)) S rfl rfl fun ok => S.retX (Hx := []) hb _ _ ((A4, nn1 + nn2, cp4, A3, cp3) : (Option Addr) × Nat × Nat × (Option Addr) × Nat) (.c0 (.c1 .n)) ok
  refine c_region (s_move S rfl rfl fun a S => s_lenS S rfl underlying65 rfl fun a S => s_move S rfl rfl fun a S => c_end (wp_block ?_))
  replace S := S.nilrow yb 5
  replace S := S.nilrow yb 5
  refine c_loop (fun q1 a w => ∃ m A5 nn9 cp20 y33 A6 nn10 cp21 y34 y35 A7 cp22 y36 y37, St 66 m b0 [(8, (.s A5 nn9 cp20)), (9, (.s A6 nn10 cp21)), (26, (.i y35)), (25, (.i ((x2).length : Int))), (24, (.q PY61 ch_1_0 ch_1_1 x2)), (5, (.i y1)), (0, (.p ch_0_0))] [Res.row yb 5 A5 nn9 cp20 y33, Res.row yb 5 A6 nn10 cp21 y34, Res.cells ch_0_0 73 [.q Y56 A7 cp22 y36, .i y37]] a w ∧ fe3_.l1 k self0 x2 y1 q1 y33 y34 y35 y36 y37 = some r) ?_ ?_ (k := k) ⟨_, none, 0, 0, ([] : List Int), none, 0, 0, ([] : List Int), 0, ch_0_1, ch_0_2, x1.1, x1.2, (S.sb rfl (.c1 (.c0 (.c0 .n)))), h0⟩
  ·rintro a w ⟨m, A5, nn9, cp20, y33, A6, nn10, cp21, y34, y35, A7, cp22, y36, y37, S, h0⟩
   exact (nomatch (show (none : Option ((List Int) × (L38 × Int))) = some r from h0))
  ·clear S h0
   rintro q1 a w ⟨m, A5, nn9, cp20, y33, A6, nn10, cp21, y34, y35, A7, cp22, y36, y37, S, h0⟩
   replace h0 : fe3_.b1 k self0 x2 y1 (fe3_.l1 k self0 x2 y1 q1) y33 y34 y35 y36 y37 = some r := h0
   delta fe3_.b1 at h0
   refine c_region (s_bin S rfl rfl rfl rfl fun a S => c_end (wp_seq ?_))
   rcases ite_of h0 with ⟨c2, h1⟩ | ⟨c2, h1⟩
   ·refine c_condT S rfl c2 (wp_skip (x_thenN (wp_seq (wp_block (c_region ?_)))))
    obtain ⟨c3, h2⟩ := chk_of h1; clear h1
    refine s_iaddrS S rfl rfl rfl underlying65 T61 c3.1 c3.2 rfl fun p1 a S => s_ldF S (fun c => .pointer c) (fun c => PR61 c (gt x2 y35)) rfl T61 (fun _ => rfl) rfl fun ch1 a S => s_assign S rfl rfl fun a S => c_end (c_region (s_move S rfl rfl fun a S => s_move S rfl rfl fun a S => bindX h2 fun t1 et1 h3 => s_callX S (ds' := [(.p ch_0_0), (.rf (.pointer ch1) (PR61 ch1 (gt x2 y35)))]) (ds := [(.p ch_0_0), (.rf (.pointer ch1) (PR61 ch1 (gt x2 y35)))]) [Res.cells ch_0_0 73 [.q Y56 A7 cp22 y36, .i y37]] [Res.row yb 5 A5 nn9 cp20 y33, Res.row yb 5 A6 nn10 cp21 y34] (fun (ch : (Option Addr) × Nat × (Option Addr) × Nat) => ((.q yb ch.1 ch.2.1 t1.1) : D)) (fun (ch : (Option Addr) × Nat × (Option Addr) × Nat) => [Res.cells ch_0_0 73 [.q Y56 ch.2.2.1 ch.2.2.2 t1.2.1, .i t1.2.2]]) (fun (ch : (Option Addr) × Nat × (Option Addr) × Nat) => [Res.cells ch_0_0 73 [.q Y56 ch.2.2.1 ch.2.2.2 t1.2.1, .i t1.2.2], Res.row yb 5 A5 nn9 cp20 y33, Res.row yb 5 A6 nn10 cp21 y34]) (fun _ => rfl) N31 rfl rfl (fun ok => ok) (.c2 (.c0 (.c0 .n))) rfl (c_0 (y36, y37) (gt x2 y35) ch_0_0 A7 cp22 ch1 t1 et1 _ _) fun ch2 m le1 a w S => s_assign S rfl rfl fun a S => c_end (wp_seq_k fun K3 hK3 => ?_)))
    have j3 : ∀ m A8 nn11 cp26 y38 A9 nn12 cp27 y39 A10 cp28 a w, St 66 m b0 [(9, (.s A8 nn11 cp26)), (8, (.s A9 nn12 cp27)), (26, (.i y35)), (25, (.i ((x2).length : Int))), (24, (.q PY61 ch_1_0 ch_1_1 x2)), (5, (.i y1)), (0, (.p ch_0_0))] [Res.cells ch_0_0 73 [.q Y56 A10 cp28 t1.2.1, .i t1.2.2], Res.row yb 5 A9 nn12 cp27 y39, Res.row yb 5 A8 nn11 cp26 y38] a w → fe3_.j3 y1 y35 (fe3_.l1 k self0 x2 y1 q1) t1 y38 y39 = some r → K3 a w := by
     intro m A8 nn11 cp26 y38 A9 nn12 cp27 y39 A10 cp28 a w S h0
     delta fe3_.j3 at h0
     refine hK3 a w (wp_seq_k fun K4 hK4 => ?_)
     have j4 : ∀ m y40 a w, St 66 m b0 [(59, (.b y40)), (9, (.s A8 nn11 cp26)), (8, (.s A9 nn12 cp27)), (26, (.i y35)), (25, (.i ((x2).length : Int))), (24, (.q PY61 ch_1_0 ch_1_1 x2)), (5, (.i y1)), (0, (.p ch_0_0))] [Res.cells ch_0_0 73 [.q Y56 A10 cp28 t1.2.1, .i t1.2.2], Res.row yb 5 A9 nn12 cp27 y39, Res.row yb 5 A8 nn11 cp26 y38] a w → fe3_.j4 y35 (fe3_.l1 k self0 x2 y1 q1) t1 y38 y39 y40 = some r → K4 a w := by
      intro m y40 a w S h0
      delta fe3_.j4 at h0
      refine hK4 a w ?_
      rcases ite_of h0 with ⟨c4, h1⟩ | ⟨c4, h1⟩
      ·refine c_condT S rfl c4 (c_region (s_move S rfl rfl fun a S => bindX h1 fun t4 et4 h2 => s_callX S (ds' := [(.p ch_0_0), (.i 4)]) (ds := [(.p ch_0_0), (.i 4)]) [Res.cells ch_0_0 73 [.q Y56 A10 cp28 t1.2.1, .i t1.2.2]] [Res.row yb 5 A9 nn12 cp27 y39, Res.row yb 5 A8 nn11 cp26 y38] (fun (ch : Unit) => ((.tup []) : D)) (fun (ch : Unit) => [Res.cells ch_0_0 73 [.q Y56 A10 cp28 t1.2.1, .i t4.2]]) (fun (ch : Unit) => [Res.cells ch_0_0 73 [.q Y56 A10 cp28 t1.2.1, .i t4.2], Res.row yb 5 A9 nn12 cp27 y39, Res.row yb 5 A8 nn11 cp26 y38]) (fun _ => rfl) N46 rfl rfl (fun ok => ok) (.c0 (.c0 (.c0 .n))) rfl (fe_.ok t1.2 4 ch_0_0 A10 cp28 t4 et4 _ _) fun ch5 m le1 a w S => c_end (c_region (s_assign S rfl rfl fun a S => c_end (wp_ret (x_blockR (x_thenR (x_thenR (x_blockR (x_thenR ?_))))))))))
       replace S := S.nilrow yb 5
       replace S := S.slot (u := 4) (d' := (.s none 0 0)) rfl rfl (S.get 4 (.s none 0 0) rfl).2
       obtain rfl := Option.some.inj h2
       exact b_ret1 (d := (.s none 0 0)) S rfl rfl fun ok => S.retX (Hx := []) hb _ _ ((none, 0, 0, A10, cp28) : (Option Addr) × Nat × Nat × (Option Addr) × Nat) (.c0 (.c0 .n)) ok
      ·refine c_condF S rfl c4 (wp_skip (x_blockN (x_thenN (c_region' (s_bin S rfl rfl rfl rfl fun a S => s_move S rfl rfl fun a S => c_end' (x_thenN ?_))))))
       exact ⟨_, A9, nn12, cp27, y39, A8, nn11, cp26, y38, (wr .i64 (y35 + 1)), A10, cp28, t1.2.1, t1.2.2, (S.sb rfl (.c1 (.c1 (.c0 .n)))), h1⟩
     refine c_region' (s_move S rfl rfl fun a S => s_nilchk S rfl rfl fun a S => s_fieldAddr S rfl I73_1 T40 (by decide) rfl rfl fun a S => s_load1 S rfl .h T40 (v := (.int .i64 t1.2.2)) rfl rfl fun a S => s_bin S rfl rfl rfl rfl fun a S => s_move S rfl rfl fun a S => ?_)
     rcases ite_of h0 with ⟨c5, h1⟩ | ⟨c5, h1⟩
     ·refine s_gF S (b := (t1.2.2 != 0)) rfl rfl c5 rfl fun a S => s_gF S (b := (t1.2.2 != 0)) rfl rfl c5 rfl fun a S => s_gF S (b := (t1.2.2 != 0)) rfl rfl c5 rfl fun a S => s_gF S (b := (t1.2.2 != 0)) rfl rfl c5 rfl fun a S => s_gF S (b := (t1.2.2 != 0)) rfl rfl c5 rfl fun a S => s_pick S (b := true) (hc_of rfl c5) rfl rfl fun a S => c_end' (x_thenN ?_)
      exact j4 _ true a w (S.sb rfl (.c0 (.c0 (.c0 .n)))) h1
     ·refine s_gT S (b := (t1.2.2 != 0)) rfl rfl c5 (s_move S rfl rfl fun a S => s_gT S (b := (t1.2.2 != 0)) rfl rfl c5 (s_move S rfl rfl fun a S => s_gT S (b := (t1.2.2 != 0)) rfl rfl c5 (s_lenO S rfl .h2 underlying26 rfl fun a S => s_gT S (b := (t1.2.2 != 0)) rfl rfl c5 (s_bin S rfl rfl rfl rfl fun a S => s_gT S (b := (t1.2.2 != 0)) rfl rfl c5 (s_bin S rfl rfl rfl rfl fun a S => s_pick S (b := false) (hc_of rfl c5) rfl rfl fun a S => c_end' (x_thenN ?_))))))
      exact j4 _ (decide (1048576 < (wr .i64 (y1 + ((y38).length : Int))))) a w (S.sb rfl (.c0 (.c0 (.c0 .n)))) h1
    refine c_region (s_move S rfl rfl fun a S => bindX h3 fun t5 et5 h4 => s_callP S _ N27 rfl rfl (fb5_.ok k (gt x2 y35) ch1 t5 et5 _ _) fun ch6 m le1 a w S => c_end ?_)
    rcases ite_of h4 with ⟨c6, h5⟩ | ⟨c6, h5⟩
    ·refine c_condT S rfl c6 (c_region (s_move S rfl rfl fun a S => s_move S rfl rfl fun a S => s_move S rfl rfl fun a S => s_lenO S rfl .h2 underlying26 rfl fun a S => s_bin S rfl rfl rfl rfl fun a S => bindX h5 fun t6 et6 h6 => s_callP S _ N50 rfl rfl (fg_.ok k (wr .i64 (y1 + ((y34).length : Int))) t6 et6 _ _) fun ch7 m le1 a w S => ?_))
     obtain ⟨c7, h7⟩ := chk_of h6; clear h6
     refine s_app S (k2 := ((t6).length)) (ys := t6) rfl (fun _ _ => .h1) rfl rfl rfl (RdS.src (S.get 40 (.q yb ch7.1 ch7.2 t6) rfl).2.2.2.1 (by decide) S.frz) underlying26 J5 c7 rfl fun A11 cp29 a w S => s_assign S rfl rfl fun a S => c_end (c_region' (s_move S rfl rfl fun a S => s_move S rfl rfl fun a S => ?_))
     obtain ⟨c8, h8⟩ := chk_of h7; clear h7
     refine s_app S (k2 := ((t1.1).length)) (ys := t1.1) rfl (fun _ _ => .h2) rfl rfl rfl (RdS.src (S.get 43 (.q yb ch2.1 ch2.2.1 t1.1) rfl).2.2.2.1 (by decide) S.frz) underlying26 J5 c8 rfl fun A12 cp30 a w S => s_assign S rfl rfl fun a S => c_end' (x_thenN ?_)
     exact j3 _ A12 (nn10 + ((t1.1).length)) cp30 (y34 ++ t1.1) A11 (nn9 + ((t6).length)) cp29 (y33 ++ t6) ch2.2.2.1 ch2.2.2.2 a w (S.sb rfl (.c0 (.c0 (.c0 .n)))) h8
    ·refine c_condF S rfl c6 (c_region' (s_move S rfl rfl fun a S => s_move S rfl rfl fun a S => ?_))
     obtain ⟨c9, h6⟩ := chk_of h5; clear h5
     refine s_app S (k2 := ((t1.1).length)) (ys := t1.1) rfl (fun _ _ => .h1) rfl rfl rfl (RdS.src (S.get 46 (.q yb ch2.1 ch2.2.1 t1.1) rfl).2.2.2.1 (by decide) S.frz) underlying26 J5 c9 rfl fun A13 cp31 a w S => s_assign S rfl rfl fun a S => c_end' (x_thenN ?_)
     exact j3 _ A6 nn10 cp21 y34 A13 (nn9 + ((t1.1).length)) cp31 (y33 ++ t1.1) ch2.2.2.1 ch2.2.2.2 a w (S.sb rfl (.c0 (.c0 (.c0 .n)))) h6
   ·refine c_condF S rfl c2 (wp_exit (x_thenX (x_thenX (x_blockX (x_thenN ?_)))))
    exact j2 _ A5 nn9 cp20 y33 A6 nn10 cp21 y34 A7 cp22 y36 y37 a w (S.sb rfl (.c0 (.c0 (.c0 .n)))) h1
 refine c_region (s_move S rfl rfl fun a S => s_lenS S rfl underlying65 rfl fun a S => s_move S rfl rfl fun a S => c_end (wp_block ?_))
 refine c_loop (fun q2 a w => ∃ m y43 y44, St 66 m b0 [(15, (.i y43)), (14, (.i ((x2).length : Int))), (13, (.q PY61 ch_1_0 ch_1_1 x2)), (5, (.i y44)), (0, (.p ch_0_0)), (1, (.q PY61 ch_1_0 ch_1_1 x2))] [Res.cells ch_0_0 73 [.q Y56 ch_0_1 ch_0_2 x1.1, .i x1.2]] a w ∧ fe3_.l2 k self0 x1 x2 q2 y43 y44 = some r) ?_ ?_ (k := k) ⟨_, 0, 0, (S.sb rfl (.c0 .n)), h0⟩
 ·rintro a w ⟨m, y43, y44, S, h0⟩
  exact (nomatch (show (none : Option ((List Int) × (L38 × Int))) = some r from h0))
 ·clear S h0
  rintro q2 a w ⟨m, y43, y44, S, h0⟩
  replace h0 : fe3_.b2 k self0 x1 x2 (fe3_.l2 k self0 x1 x2 q2) y43 y44 = some r := h0
  delta fe3_.b2 at h0
  refine c_region (s_bin S rfl rfl rfl rfl fun a S => c_end (wp_seq ?_))
  rcases ite_of h0 with ⟨c10, h1⟩ | ⟨c10, h1⟩
  ·refine c_condT S rfl c10 (wp_skip (x_thenN (wp_seq (wp_block (c_region ?_)))))
   obtain ⟨c11, h2⟩ := chk_of h1; clear h1
   refine s_iaddrS S rfl rfl rfl underlying65 T61 c11.1 c11.2 rfl fun p4 a S => s_ldF S (fun c => .pointer c) (fun c => PR61 c (gt x2 y43)) rfl T61 (fun _ => rfl) rfl fun ch10 a S => s_assign S rfl rfl fun a S => c_end (c_region' (s_move S rfl rfl fun a S => s_move S rfl rfl fun a S => bindX h2 fun t9 et9 h3 => s_callP S _ N28 rfl rfl (fe4_.ok k (gt x2 y43) ch10 t9 et9 _ _) fun ch11 m le1 a w S => s_bin S rfl rfl rfl rfl fun a S => s_assign S rfl rfl fun a S => c_end' (x_blockN (x_thenN (c_region' (s_bin S rfl rfl rfl rfl fun a S => s_move S rfl rfl fun a S => c_end' (x_thenN ?_)))))))
   exact ⟨_, (wr .i64 (y43 + 1)), (wr .i64 (y44 + t9)), (S.sb rfl (.c0 .n)), h3⟩
  ·refine c_condF S rfl c10 (wp_exit (x_thenX (x_thenX (x_blockX (x_thenN ?_)))))
   exact j1 _ y44 a w (S.sb rfl (.c0 .n)) h1
mutual
def fd4_.f : Nat → fd4_.Ty
  | 0 => fun _ _ => none
  | k + 1 => fd4_.body (fd4_.f k) (fe3_.f k) k
def fe3_.f : Nat → fe3_.Ty
  | 0 => fun _ _ => none
  | k + 1 => fe3_.body (fd4_.f k) (fe3_.f k) k
end
theorem fd4_.oks : ∀ k : Nat, fd4_.Ctr (fd4_.f k) ∧ fe3_.Ctr (fe3_.f k)
  | 0 => ⟨fun _ _ _ _ _ _ r h0 => (nomatch (show (none : Option ((List Int) × (L38 × Int))) = some r from h0)), fun _ _ _ _ _ _ _ r h0 => (nomatch (show (none : Option ((List Int) × (L38 × Int))) = some r from h0))⟩
  | k + 1 => by
    have ih := fd4_.oks k
    exact ⟨fd4_.okb (fd4_.f k) (fe3_.f k) ih.1 ih.2 k, fe3_.okb (fd4_.f k) (fe3_.f k) ih.1 ih.2 k⟩
theorem fd4_.ok (k : Nat) : fd4_.Ctr (fd4_.f k) := (fd4_.oks k).1
theorem fe3_.ok (k : Nat) : fe3_.Ctr (fe3_.f k) := (fd4_.oks k).2
abbrev ff0_.Ty : Type := ByteArray → L38 → Option ((List Int) × Int)
def ff0_.Ctr (s : ff0_.Ty) : Prop := ∀ (x1 : ByteArray) (x2 : L38) (ch_1_0 : Option Addr) (ch_1_1 : Nat) (r : (List Int) × Int), Ct (C := ((Option Addr) × Nat)) Tryd.prog 17 (s x1 x2 = some r) [] [(.v (.string x1)), (.q Y56 ch_1_0 ch_1_1 x2)] (fun ch => (.tup [(false, [.q yb ch.1 ch.2 r.1]), (false, [.i r.2])])) fun _ => []
def ff0_.j2 (k : Nat) (x2 : L38) (t1 : PT61) (y2 : Bool) : Option ((List Int) × Int) := if y2 = true then (some (([] : List Int), 2)) else ((ff7_.f k t1 x2).bind fun t3 => (if t3 = true then (some (([] : List Int), 5)) else ((fd4_.f k (x2, 0) t1).bind fun t4 => (if (t4.2.2 != 0) = true then (some (([] : List Int), t4.2.2)) else (if (decide (1048576 < ((t4.1).length : Int))) = true then (some (([] : List Int), 4)) else (some (t4.1, 0)))))))
def ff0_.j1 (k : Nat) (x2 : L38) (t1 : PT61) (y1 : Bool) : Option ((List Int) × Int) := if y1 = true then (some (([] : List Int), 17)) else ((fg0_.f k t1 x2).bind fun t2 => (if (!t2.2) = true then (ff0_.j2 k x2 t1 true) else (ff0_.j2 k x2 t1 (decide (0 < ((t2.1).length : Int))))))
def ff0_.f (k : Nat) (x1 : ByteArray) (x2 : L38) : Option ((List Int) × Int) := (ff8_.f k x1).bind fun t1 => (if (!(PT61.nn t1)) = true then (ff0_.j1 k x2 t1 true) else (if PT61.nn t1 = true then (ff0_.j1 k x2 t1 (((PT61.to t1).1) != 6)) else none))
theorem ff0_.ok (k : Nat) : ff0_.Ctr (ff0_.f k) := by
 intro x1 x2 ch_1_0 ch_1_1 r h0 mi w0 ok hm
 delta ff0_.f at h0
 refine c_enterZ (n := 59) ok hm func17 rfl rfl rfl fun b0 hb a S => c_region (s_assign S rfl rfl fun a S => s_assign S rfl rfl fun a S => c_end (c_region (s_move S rfl rfl fun a S => bindX h0 fun t1 et1 h1 => s_callP S _ N26 rfl rfl (ff8_.ok k x1 t1 et1 _ _) fun ch1 m le1 a w S => s_assign S rfl rfl fun a S => c_end (wp_seq (wp_seq_k fun K1 hK1 => ?_)))))
 have j1 : ∀ m y1 cq1 a w, St 59 m b0 [(21, (.b y1)), (6, (.rf (.pointer cq1) (PR61 cq1 t1))), (1, (.q Y56 ch_1_0 ch_1_1 x2))] [] a w → ff0_.j1 k x2 t1 y1 = some r → K1 a w := by
  intro m y1 cq1 a w S h0
  delta ff0_.j1 at h0
  refine hK1 a w ?_
  rcases ite_of h0 with ⟨c1, h1⟩ | ⟨c1, h1⟩
  ·refine c_condT S rfl c1 (c_region (s_assign S rfl rfl fun a S => s_assign S rfl rfl fun a S => c_end (wp_ret (x_thenR ?_))))
   replace S := S.slot (u := 4) (d' := (.q yb none 0 ([] : List Int))) rfl rfl ok_nil
   obtain rfl := Option.some.inj h1
   exact b_ret2 (d1 := (.q yb none 0 ([] : List Int))) (d2 := (.i 17)) S rfl rfl rfl fun ok1 ok2 => S.retX (Hx := []) hb _ _ ((none, 0) : (Option Addr) × Nat) .nil ⟨⟨ok1, trivial⟩, ⟨ok2, trivial⟩, trivial⟩
  ·refine c_condF S rfl c1 (wp_skip (x_thenN (wp_seq (c_region (s_move S rfl rfl fun a S => s_move S rfl rfl fun a S => bindX h1 fun t2 et2 h2 => s_callP S _ N29 rfl rfl (fg0_.ok k t1 x2 cq1 ch_1_0 ch_1_1 t2 et2 _ _) fun ch2 m le1 a w S => s_move S rfl rfl fun a S => s_extract S rfl rfl rfl rfl fun a S => s_extract S rfl rfl rfl rfl fun a S => s_assign S rfl rfl fun a S => s_assign S rfl rfl fun a S => c_end (wp_seq_k fun K2 hK2 => ?_))))))
   have j2 : ∀ m y2 a w, St 59 m b0 [(34, (.b y2)), (6, (.rf (.pointer cq1) (PR61 cq1 t1))), (1, (.q Y56 ch_1_0 ch_1_1 x2))] [] a w → ff0_.j2 k x2 t1 y2 = some r → K2 a w := by
    intro m y2 a w S h0
    delta ff0_.j2 at h0
    refine hK2 a w ?_
    rcases ite_of h0 with ⟨c2, h1⟩ | ⟨c2, h1⟩
    ·refine c_condT S rfl c2 (c_region (s_assign S rfl rfl fun a S => s_assign S rfl rfl fun a S => c_end (wp_ret (x_thenR ?_))))
     replace S := S.slot (u := 4) (d' := (.q yb none 0 ([] : List Int))) rfl rfl ok_nil
     obtain rfl := Option.some.inj h1
     exact b_ret2 (d1 := (.q yb none 0 ([] : List Int))) (d2 := (.i 2)) S rfl rfl rfl fun ok1 ok2 => S.retX (Hx := []) hb _ _ ((none, 0) : (Option Addr) × Nat) .nil ⟨⟨ok1, trivial⟩, ⟨ok2, trivial⟩, trivial⟩
    ·refine c_condF S rfl c2 (wp_skip (x_thenN (wp_seq (c_region (s_move S rfl rfl fun a S => s_move S rfl rfl fun a S => bindX h1 fun t3 et3 h2 => s_callP S _ N30 rfl rfl (ff7_.ok k t1 x2 cq1 ch_1_0 ch_1_1 t3 et3 _ _) fun ch3 m le1 a w S => c_end ?_)))))
     rcases ite_of h2 with ⟨c3, h3⟩ | ⟨c3, h3⟩
     ·refine c_condT S rfl c3 (c_region (s_assign S rfl rfl fun a S => s_assign S rfl rfl fun a S => c_end (wp_ret (x_thenR ?_))))
      replace S := S.slot (u := 4) (d' := (.q yb none 0 ([] : List Int))) rfl rfl ok_nil
      obtain rfl := Option.some.inj h3
      exact b_ret2 (d1 := (.q yb none 0 ([] : List Int))) (d2 := (.i 5)) S rfl rfl rfl fun ok1 ok2 => S.retX (Hx := []) hb _ _ ((none, 0) : (Option Addr) × Nat) .nil ⟨⟨ok1, trivial⟩, ⟨ok2, trivial⟩, trivial⟩
     ·refine c_condF S rfl c3 (wp_skip (x_thenN (c_region (s_move S rfl rfl fun a S => s_bldS S (ds := [(0, (.q Y56 ch_1_0 ch_1_1 x2))]) (zs := [.s none 0 0, .i 0]) (s' := [.q Y56 ch_1_0 ch_1_1 x2, .i 0]) rfl underlying73 P73 Z73 ⟨rfl, rfl, trivial⟩ rfl rfl fun a S => s_box S rfl rfl rfl fun g1 a w S => s_assign S rfl rfl fun a S => c_end (c_region (s_move S rfl rfl fun a S => s_move S rfl rfl fun a S => bindX h3 fun t4 et4 h4 => s_callX S (ds' := [(.p g1), (.rf (.pointer cq1) (PR61 cq1 t1))]) (ds := [(.p g1), (.rf (.pointer cq1) (PR61 cq1 t1))]) [Res.cells g1 73 [.q Y56 ch_1_0 ch_1_1 x2, .i 0]] [] (fun (ch : (Option Addr) × Nat × (Option Addr) × Nat) => ((.q yb ch.1 ch.2.1 t4.1) : D)) (fun (ch : (Option Addr) × Nat × (Option Addr) × Nat) => [Res.cells g1 73 [.q Y56 ch.2.2.1 ch.2.2.2 t4.2.1, .i t4.2.2]]) (fun (ch : (Option Addr) × Nat × (Option Addr) × Nat) => [Res.cells g1 73 [.q Y56 ch.2.2.1 ch.2.2.2 t4.2.1, .i t4.2.2]]) (fun _ => rfl) N31 rfl rfl (fun ok => ok) (.c0 .n) rfl (fd4_.ok k (x2, 0) t1 g1 ch_1_0 ch_1_1 cq1 t4 et4 _ _) fun ch4 m le1 a w S => s_assign S rfl rfl fun a S => c_end (wp_seq (wp_block (c_region (s_move S rfl rfl fun a S => s_nilchk S rfl rfl fun a S => s_fieldAddr S rfl I73_1 T40 (by decide) rfl rfl fun a S => s_load1 S rfl .h T40 (v := (.int .i64 t4.2.2)) rfl rfl fun a S => s_bin S rfl rfl rfl rfl fun a S => s_assign S rfl rfl fun a S => c_end ?_))))))))))
      rcases ite_of h4 with ⟨c4, h5⟩ | ⟨c4, h5⟩
      ·refine c_condT S rfl c4 ?_
       refine wp_seq (c_heldS S (.take 0 (.take 1 (.take 2 (.take 3 (.take 4 (.take 5 .done)))))) 6 [Res.cells g1 73 [.q Y56 ch4.2.2.1 ch4.2.2.2 t4.2.1, .i t4.2.2]] (.c0 .n) ⟨Res.stay_cells, trivial⟩ [(9, (.p g1))] ⟨rfl, trivial⟩ (by kernel_rfl) (by kernel_rfl) ?_); clear S; intro w S CL hw le
       refine h_move S CL hw le ⟨rfl, trivial⟩ rfl rfl rfl trivial fun a S CL => h_nilchk S CL hw le (subR rfl) rfl rfl rfl rfl trivial fun a S CL => h_fieldAddr S CL hw le (subR rfl) rfl I73_1 T40 (by decide) rfl rfl rfl trivial fun a S CL => h_load1 S CL hw le (subR rfl) rfl .h T40 (v := (.int .i64 t4.2.2)) rfl rfl rfl trivial fun a S CL => h_assign S CL hw le (subR rfl) rfl rfl rfl trivial fun a S CL => h_assign S CL hw le (subR rfl) rfl rfl rfl trivial fun a S CL => ?_
       refine h_done ?_; clear CL hw le
       refine x_thenN (wp_ret (x_blockR (x_thenR ?_)))
       replace S := S.slot (u := 4) (d' := (.q yb none 0 ([] : List Int))) rfl rfl ok_nil
       obtain rfl := Option.some.inj h5
       exact b_ret2 (d1 := (.q yb none 0 ([] : List Int))) (d2 := (.i t4.2.2)) S rfl rfl rfl fun ok1 ok2 => S.retX (Hx := []) hb _ _ ((none, 0) : (Option Addr) × Nat) .nil ⟨⟨ok1, trivial⟩, ⟨ok2, trivial⟩, trivial⟩
      ·refine c_condF S rfl c4 (c_region (s_move S rfl rfl fun a S => s_lenS S rfl underlying26 rfl fun a S => s_bin S rfl rfl rfl rfl fun a S => s_assign S rfl rfl fun a S => c_end ?_))
       rcases ite_of h5 with ⟨c5, h6⟩ | ⟨c5, h6⟩
       ·refine c_condT S rfl c5 (c_region (s_assign S rfl rfl fun a S => s_assign S rfl rfl fun a S => c_end (wp_ret (x_blockR (x_thenR ?_)))))
        replace S := S.slot (u := 4) (d' := (.q yb none 0 ([] : List Int))) rfl rfl ok_nil
        obtain rfl := Option.some.inj h6
        exact b_ret2 (d1 := (.q yb none 0 ([] : List Int))) (d2 := (.i 4)) S rfl rfl rfl fun ok1 ok2 => S.retX (Hx := []) hb _ _ ((none, 0) : (Option Addr) × Nat) .nil ⟨⟨ok1, trivial⟩, ⟨ok2, trivial⟩, trivial⟩
       ·refine c_condF S rfl c5 (wp_skip (x_blockN (x_thenN (c_region (s_move S rfl rfl fun a S => s_assign S rfl rfl fun a S => s_assign S rfl rfl fun a S => c_end (wp_ret ?_))))))
        obtain rfl := Option.some.inj h6
        exact b_ret2 (d1 := (.q yb ch4.1 ch4.2.1 t4.1)) (d2 := (.i 0)) S rfl rfl rfl fun ok1 ok2 => S.retX (Hx := []) hb _ _ ((ch4.1, ch4.2.1) : (Option Addr) × Nat) .nil ⟨⟨ok1, trivial⟩, ⟨ok2, trivial⟩, trivial⟩
   refine c_region' (s_move S rfl rfl fun a S => s_not S rfl rfl fun a S => s_move S rfl rfl fun a S => ?_)
   rcases ite_of h2 with ⟨c6, h3⟩ | ⟨c6, h3⟩
   ·refine s_gF S (b := (!t2.2)) rfl rfl c6 rfl fun a S => s_gF S (b := (!t2.2)) rfl rfl c6 rfl fun a S => s_gF S (b := (!t2.2)) rfl rfl c6 rfl fun a S => s_pick S (b := true) (hc_of rfl c6) rfl rfl fun a S => c_end' (x_thenN ?_)
    exact j2 _ true a w (S.sb rfl .nil) h3
   ·refine s_gT S (b := (!t2.2)) rfl rfl c6 (s_move S rfl rfl fun a S => s_gT S (b := (!t2.2)) rfl rfl c6 (s_lenS S rfl underlying38 rfl fun a S => s_gT S (b := (!t2.2)) rfl rfl c6 (s_bin S rfl rfl rfl rfl fun a S => s_pick S (b := false) (hc_of rfl c6) rfl rfl fun a S => c_end' (x_thenN ?_))))
    exact j2 _ (decide (0 < ((t2.1).length : Int))) a w (S.sb rfl .nil) h3
 refine c_region' (s_move S rfl rfl fun a S => s_eqQ S rfl rfl underlying61 PH61 rfl fun a S => s_move S rfl rfl fun a S => ?_)
 rcases ite_of h1 with ⟨c7, h2⟩ | ⟨c7, h2⟩
 ·refine s_gF S (b := (!(PT61.nn t1))) rfl rfl c7 rfl fun a S => s_gF S (b := (!(PT61.nn t1))) rfl rfl c7 rfl fun a S => s_gF S (b := (!(PT61.nn t1))) rfl rfl c7 rfl fun a S => s_gF S (b := (!(PT61.nn t1))) rfl rfl c7 rfl fun a S => s_gF S (b := (!(PT61.nn t1))) rfl rfl c7 rfl fun a S => s_pick S (b := true) (hc_of rfl c7) rfl rfl fun a S => c_end' (x_thenN ?_)
  exact j1 _ true ch1 a w (S.sb rfl .nil) h2
 ·refine s_gT S (b := (!(PT61.nn t1))) rfl rfl c7 (s_move S rfl rfl fun a S => s_gT S (b := (!(PT61.nn t1))) rfl rfl c7 ?_)
  obtain ⟨c8, h3⟩ := chk_of h2; clear h2
  refine s_nilQ S rfl PH61 c8 rfl fun a S => s_gT S (b := (!(PT61.nn t1))) rfl rfl c7 (s_faddrP S (tF := yb) (y := (PT61.to t1).1) rfl I67_0 T64 (by decide) (fun m h => (at_fst (at_0 h))) rfl fun a S => s_gT S (b := (!(PT61.nn t1))) rfl rfl c7 (s_ld1 S (v := (.int .u8 ((PT61.to t1).1))) rfl T64 (fun _ => rfl) rfl fun a S => s_gT S (b := (!(PT61.nn t1))) rfl rfl c7 (s_bin S rfl rfl rfl rfl fun a S => s_pick S (b := false) (hc_of rfl c7) rfl rfl fun a S => c_end' (x_thenN ?_))))
  exact j1 _ (((PT61.to t1).1) != 6) ch1 a w (S.sb rfl .nil) h3
abbrev fb6_.Ty : Type := Int → Int → Option Int
def fb6_.Ctr (s : fb6_.Ty) : Prop := ∀ (x1 : Int) (x2 : Int) (r : Int), Ct (C := Unit) Tryd.prog 85 (s x1 x2 = some r) [] [(.w x1), (.i x2)] (fun _ => (.w r)) fun _ => []
def fb6_.f (x1 : Int) (x2 : Int) : Option Int := if (0 : Int) ≤ (bits .and .u64 (wr .u64 x2) 63) then (if (0 : Int) ≤ (wr .u64 (64 - (bits .and .u64 (wr .u64 x2) 63))) then (some (bits .or .u64 (shl .u64 x1 (min (Int.toNat (bits .and .u64 (wr .u64 x2) 63)) 64)) (shr x1 (min (Int.toNat (wr .u64 (64 - (bits .and .u64 (wr .u64 x2) 63)))) 64)))) else none) else none
theorem fb6_.ok : fb6_.Ctr (fb6_.f) := by
 intro x1 x2 r h0 mi w0 ok hm
 delta fb6_.f at h0
 refine c_enterZ (n := 17) ok hm func85 rfl rfl rfl fun b0 hb a S => c_region (s_assign S rfl rfl fun a S => c_end (c_region (s_move S rfl rfl fun a S => s_conv S rfl rfl underlying118 rfl fun a S => s_bin S rfl rfl rfl rfl fun a S => s_assign S rfl rfl fun a S => c_end (c_region (s_move S rfl rfl fun a S => s_move S rfl rfl fun a S => ?_)))))
 obtain ⟨c1, h1⟩ := chk_of h0; clear h0
 refine s_shl S (e := (min (Int.toNat (bits .and .u64 (wr .u64 x2) 63)) 64)) rfl rfl c1 rfl rfl fun a S => s_move S rfl rfl fun a S => s_move S rfl rfl fun a S => s_bin S rfl rfl rfl rfl fun a S => ?_
 obtain ⟨c2, h2⟩ := chk_of h1; clear h1
 refine s_shr S (e := (min (Int.toNat (wr .u64 (64 - (bits .and .u64 (wr .u64 x2) 63)))) 64)) rfl rfl c2 rfl rfl fun a S => s_bin S rfl rfl rfl rfl fun a S => s_assign S rfl rfl fun a S => c_end (wp_ret ?_)
 obtain rfl := Option.some.inj h2
 exact b_ret1 (d := (.w (bits .or .u64 (shl .u64 x1 (min (Int.toNat (bits .and .u64 (wr .u64 x2) 63)) 64)) (shr x1 (min (Int.toNat (wr .u64 (64 - (bits .and .u64 (wr .u64 x2) 63)))) 64))))) S rfl rfl (S.rt hb)
end
end GW
