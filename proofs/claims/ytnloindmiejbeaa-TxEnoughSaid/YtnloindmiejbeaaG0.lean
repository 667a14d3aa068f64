import Derived.Test.YtnloindmiejbeaaProg
import Derived.Test.YtnloindmiejbeaaGC
set_option linter.unusedVariables false
set_option linter.unusedSimpArgs false
set_option maxRecDepth 10000
set_option maxHeartbeats 4000000
namespace GW
open Go Go.RowKit Go.Proofs Go.Proofs.Try
noncomputable section
abbrev smithyref12_Intrinsic.Ty : Type := (List Int) → Bool → Int → Int → Option Int
def smithyref12_Intrinsic.Ctr (s : smithyref12_Intrinsic.Ty) : Prop := ∀ (x1 : List Int) (x2 : Bool) (x3 : Int) (x4 : Int) (ch_0_0 : Option Addr) (ch_0_1 : Nat) (r : Int), Ct (C := Unit) Try.prog 34 (s x1 x2 x3 x4 = some r) [] [(.q yb ch_0_0 ch_0_1 x1), (.b x2), (.w x3), (.w x4)] (fun _ => (.w r)) fun _ => []
def smithyref12_Intrinsic.j2 (x3 : Int) (x4 : Int) (y2 : Int) : Option Int := some (wr .u64 ((wr .u64 (y2 + (wr .u64 (x3 * 2400)))) + (wr .u64 (x4 * 1900))))
def smithyref12_Intrinsic.j1 (x1 : List Int) (x2 : Bool) (x3 : Int) (x4 : Int) (y1 : Int) : Option Int := if x2 = true then ((smithyref10_Words.f (wr .u64 ((x1).length : Int))).bind fun t1 => (smithyref12_Intrinsic.j2 x3 x4 (wr .u64 ((wr .u64 (y1 + 32000)) + (wr .u64 (2 * t1)))))) else (smithyref12_Intrinsic.j2 x3 x4 y1)
def smithyref12_Intrinsic.j3 (y7 : Int) (rec1 : Int → Int → Option Int) (y9 : Int) : Option Int := rec1 (wr .i64 (y7 + 1)) y9
def smithyref12_Intrinsic.b1 (x1 : List Int) (x2 : Bool) (x3 : Int) (x4 : Int) (rec1 : Int → Int → Option Int) (y7 : Int) (y8 : Int) : Option Int := if (decide (y7 < ((x1).length : Int))) = true then (if (0 : Int) ≤ y7 ∧ y7 < ((x1).length : Int) then (if ((rd x1 y7) != 0) = true then (smithyref12_Intrinsic.j3 y7 rec1 (wr .u64 ((wr .u64 (y8 + 4)) + 12))) else (smithyref12_Intrinsic.j3 y7 rec1 (wr .u64 (y8 + 4)))) else none) else (smithyref12_Intrinsic.j1 x1 x2 x3 x4 y8)
def smithyref12_Intrinsic.l1 (x1 : List Int) (x2 : Bool) (x3 : Int) (x4 : Int) : Nat → Int → Int → Option Int
  | 0, _, _ => none
  | q + 1, y7, y8 => smithyref12_Intrinsic.b1 x1 x2 x3 x4 (smithyref12_Intrinsic.l1 x1 x2 x3 x4 q) y7 y8
def smithyref12_Intrinsic.f (k : Nat) (x1 : List Int) (x2 : Bool) (x3 : Int) (x4 : Int) : Option Int := smithyref12_Intrinsic.l1 x1 x2 x3 x4 k 0 21000
theorem smithyref12_Intrinsic.ok (k : Nat) : smithyref12_Intrinsic.Ctr (smithyref12_Intrinsic.f k) := by
 intro x1 x2 x3 x4 ch_0_0 ch_0_1 r h0 mi w0 ok hm
 delta smithyref12_Intrinsic.f at h0
 refine c_enterZ (n := 43) ok hm func34 rfl rfl rfl fun b0 hb a S => c_region (s_assign S rfl rfl fun a S => c_end (c_region (s_assign S rfl rfl fun a S => c_end (wp_seq_k fun K1 hK1 => ?_))))
 have j1 : ∀ m y1 a w, St 43 m b0 [(9, (.w y1)), (0, (.q yb ch_0_0 ch_0_1 x1)), (1, (.b x2)), (2, (.w x3)), (3, (.w x4))] [] a w → smithyref12_Intrinsic.j1 x1 x2 x3 x4 y1 = some r → K1 a w := by
  intro m y1 a w S h0
  delta smithyref12_Intrinsic.j1 at h0
  refine hK1 a w (wp_seq_k fun K2 hK2 => ?_)
  have j2 : ∀ m y2 a w, St 43 m b0 [(9, (.w y2)), (2, (.w x3)), (3, (.w x4))] [] a w → smithyref12_Intrinsic.j2 x3 x4 y2 = some r → K2 a w := by
   intro m y2 a w S h0
   delta smithyref12_Intrinsic.j2 at h0
   refine hK2 a w (c_region (s_move S rfl rfl fun a S => s_move S rfl rfl fun a S => s_bin S rfl rfl rfl rfl fun a S => s_bin S rfl rfl rfl rfl fun a S => s_move S rfl rfl fun a S => s_bin S rfl rfl rfl rfl fun a S => s_bin S rfl rfl rfl rfl fun a S => s_assign S rfl rfl fun a S => c_end (wp_ret ?_)))
   obtain rfl := Option.some.inj h0
   exact b_ret1 (d := (.w (wr .u64 ((wr .u64 (y2 + (wr .u64 (x3 * 2400)))) + (wr .u64 (x4 * 1900)))))) S rfl rfl (S.rt hb)
  refine c_region (s_move S rfl rfl fun a S => c_end ?_)
  rcases ite_of h0 with ⟨c1, h1⟩ | ⟨c1, h1⟩
  ·refine c_condT S rfl c1 (c_region (s_move S rfl rfl fun a S => s_bin S rfl rfl rfl rfl fun a S => s_assign S rfl rfl fun a S => c_end (c_region' (s_move S rfl rfl fun a S => s_move S rfl rfl fun a S => s_lenS S rfl underlying27 rfl fun a S => s_conv S rfl rfl underlying24 rfl fun a S => bindX h1 fun t1 et1 h2 => s_callP S _ N50 rfl rfl (smithyref10_Words.ok (wr .u64 ((x1).length : Int)) t1 et1 _ _) fun ch1 m le1 a w S => s_bin S rfl rfl rfl rfl fun a S => s_bin S rfl rfl rfl rfl fun a S => s_assign S rfl rfl fun a S => c_end' (x_thenN ?_)))))
   exact j2 _ (wr .u64 ((wr .u64 (y1 + 32000)) + (wr .u64 (2 * t1)))) a w (S.sb rfl .nil) h2
  ·refine c_condF S rfl c1 (wp_skip (x_thenN ?_))
   exact j2 _ y1 a w (S.sb rfl .nil) h1
 refine c_region (s_move S rfl rfl fun a S => s_lenS S rfl underlying27 rfl fun a S => s_move S rfl rfl fun a S => c_end (wp_block ?_))
 refine c_loop (fun q1 a w => ∃ m y7 y8, St 43 m b0 [(13, (.i y7)), (12, (.i ((x1).length : Int))), (9, (.w y8)), (0, (.q yb ch_0_0 ch_0_1 x1)), (1, (.b x2)), (2, (.w x3)), (3, (.w x4))] [] a w ∧ smithyref12_Intrinsic.l1 x1 x2 x3 x4 q1 y7 y8 = some r) ?_ ?_ (k := k) ⟨_, 0, 21000, (S.sb rfl .nil), h0⟩
 ·rintro a w ⟨m, y7, y8, S, h0⟩
  exact (nomatch (show (none : Option Int) = some r from h0))
 ·clear S h0
  rintro q1 a w ⟨m, y7, y8, S, h0⟩
  replace h0 : smithyref12_Intrinsic.b1 x1 x2 x3 x4 (smithyref12_Intrinsic.l1 x1 x2 x3 x4 q1) y7 y8 = some r := h0
  delta smithyref12_Intrinsic.b1 at h0
  refine c_region (s_bin S rfl rfl rfl rfl fun a S => c_end (wp_seq ?_))
  rcases ite_of h0 with ⟨c2, h1⟩ | ⟨c2, h1⟩
  ·refine c_condT S rfl c2 (wp_skip (x_thenN (wp_seq_k fun K3 hK3 => ?_)))
   have j3 : ∀ m y9 a w, St 43 m b0 [(9, (.w y9)), (13, (.i y7)), (12, (.i ((x1).length : Int))), (0, (.q yb ch_0_0 ch_0_1 x1)), (1, (.b x2)), (2, (.w x3)), (3, (.w x4))] [] a w → smithyref12_Intrinsic.j3 y7 (smithyref12_Intrinsic.l1 x1 x2 x3 x4 q1) y9 = some r → K3 a w := by
    intro m y9 a w S h0
    delta smithyref12_Intrinsic.j3 at h0
    refine hK3 a w (c_region' (s_bin S rfl rfl rfl rfl fun a S => s_move S rfl rfl fun a S => c_end' (x_thenN ?_)))
    exact ⟨_, (wr .i64 (y7 + 1)), y9, (S.sb rfl .nil), h0⟩
   refine wp_block (c_region (s_move S rfl rfl fun a S => s_assign S rfl rfl fun a S => c_end (c_region (s_move S rfl rfl fun a S => s_bin S rfl rfl rfl rfl fun a S => s_assign S rfl rfl fun a S => c_end (c_region (s_move S rfl rfl fun a S => s_move S rfl rfl fun a S => ?_))))))
   obtain ⟨c3, h2⟩ := chk_of h1; clear h1
   refine s_iaddrS S rfl rfl rfl underlying27 T5 c3.1 c3.2 rfl fun p1 a S => s_ld1 S (v := (.int .u8 (rd x1 y7))) rfl T5 (fun _ => rfl) rfl fun a S => s_bin S rfl rfl rfl rfl fun a S => c_end ?_
   rcases ite_of h2 with ⟨c4, h3⟩ | ⟨c4, h3⟩
   ·refine c_condT S rfl c4 (c_region' (s_move S rfl rfl fun a S => s_bin S rfl rfl rfl rfl fun a S => s_assign S rfl rfl fun a S => c_end' (x_blockN (x_thenN ?_))))
    exact j3 _ (wr .u64 ((wr .u64 (y8 + 4)) + 12)) a w (S.sb rfl .nil) h3
   ·refine c_condF S rfl c4 (wp_skip (x_blockN (x_thenN ?_)))
    exact j3 _ (wr .u64 (y8 + 4)) a w (S.sb rfl .nil) h3
  ·refine c_condF S rfl c2 (wp_exit (x_thenX (x_thenX (x_blockX (x_thenN ?_)))))
   exact j1 _ y8 a w (S.sb rfl .nil) h1
abbrev smithyref19_Intrinsic.Ty : Type := (L30) → Option Int
def smithyref19_Intrinsic.Ctr (s : smithyref19_Intrinsic.Ty) : Prop := ∀ (x1 : L30) (ch_0_0 : Option Addr) (ch_0_1 : Nat) (ch_0_2 : Option Addr) (ch_0_3 : Nat) (r : Int), Ct (C := Unit) Try.prog 15 (s x1 = some r) [] [(.agg (Y30.segs x1 ((), (), (), (), (), (ch_0_0, ch_0_1), (), (), (), (ch_0_2, ch_0_3))))] (fun _ => (.w r)) fun _ => []
def smithyref19_Intrinsic.j1 (k : Nat) (x1 : L30) (y1 : Int) : Option Int := (smithyref12_Intrinsic.f k x1.2.2.2.2.2.1 x1.2.2.1 (wr .u64 ((x1.2.2.2.2.2.2.2.2.2).length : Int)) (wr .u64 y1)).bind fun t1 => (some t1)
def smithyref19_Intrinsic.b1 (k : Nat) (x1 : L30) (rec1 : Int → Int → Option Int) (y4 : Int) (y5 : Int) : Option Int := if (decide (y4 < ((x1.2.2.2.2.2.2.2.2.2).length : Int))) = true then (if (0 : Int) ≤ y4 ∧ y4 < ((x1.2.2.2.2.2.2.2.2.2).length : Int) then (rec1 (wr .i64 (y4 + 1)) (wr .i64 (y5 + (((gt x1.2.2.2.2.2.2.2.2.2 y4).2).length : Int)))) else none) else (smithyref19_Intrinsic.j1 k x1 y5)
def smithyref19_Intrinsic.l1 (k : Nat) (x1 : L30) : Nat → Int → Int → Option Int
  | 0, _, _ => none
  | q + 1, y4, y5 => smithyref19_Intrinsic.b1 k x1 (smithyref19_Intrinsic.l1 k x1 q) y4 y5
def smithyref19_Intrinsic.f (k : Nat) (x1 : L30) : Option Int := smithyref19_Intrinsic.l1 k x1 k 0 0
theorem smithyref19_Intrinsic.ok (k : Nat) : smithyref19_Intrinsic.Ctr (smithyref19_Intrinsic.f k) := by
 intro x1 ch_0_0 ch_0_1 ch_0_2 ch_0_3 r h0 mi w0 ok hm
 delta smithyref19_Intrinsic.f at h0
 refine c_enterZ (n := 32) ok hm func15 rfl rfl rfl fun b0 hb a S => c_region (s_box S rfl rfl rfl fun g1 a w S => s_assign S rfl rfl fun a S => c_end (c_region (s_assign S rfl rfl fun a S => c_end (wp_seq_k fun K1 hK1 => ?_))))
 have j1 : ∀ m y1 g5 a w, St 32 m b0 [(3, (.i y1)), (1, (.p g5))] [Res.cells g5 30 (Y30.segs x1 ((), (), (), (), (), (ch_0_0, ch_0_1), (), (), (), (ch_0_2, ch_0_3)))] a w → smithyref19_Intrinsic.j1 k x1 y1 = some r → K1 a w := by
  intro m y1 g5 a w S h0
  delta smithyref19_Intrinsic.j1 at h0
  refine hK1 a w (c_region (s_fieldAddr S rfl I30_5 T27 (by decide) rfl rfl fun a S => s_loadSl S rfl .h T27 (A := ch_0_0) (len := (x1.2.2.2.2.2.1).length) (cap := ch_0_1) rfl rfl fun a S => s_fieldAddr S rfl I30_2 T4 (by decide) rfl rfl fun a S => s_load1 S rfl .h T4 (v := (.bool x1.2.2.1)) rfl rfl fun a S => s_fieldAddr S rfl I30_9 T28 (by decide) rfl rfl fun a S => s_loadSl S rfl .h T28 (A := ch_0_2) (len := (x1.2.2.2.2.2.2.2.2.2).length) (cap := ch_0_3) rfl rfl fun a S => s_lenS S rfl underlying28 rfl fun a S => s_conv S rfl rfl underlying24 rfl fun a S => s_move S rfl rfl fun a S => s_conv S rfl rfl underlying24 rfl fun a S => bindX h0 fun t1 et1 h1 => s_callP S _ N34 rfl rfl (smithyref12_Intrinsic.ok k x1.2.2.2.2.2.1 x1.2.2.1 (wr .u64 ((x1.2.2.2.2.2.2.2.2.2).length : Int)) (wr .u64 y1) ch_0_0 ch_0_1 t1 et1 _ _) fun ch1 m le1 a w S => s_assign S rfl rfl fun a S => c_end (wp_ret ?_)))
  obtain rfl := Option.some.inj h1
  exact b_ret1 (d := (.w t1)) S rfl rfl (S.rt hb)
 refine c_region (s_fieldAddr S rfl I30_9 T28 (by decide) rfl rfl fun a S => s_loadSl S rfl .h T28 (A := ch_0_2) (len := (x1.2.2.2.2.2.2.2.2.2).length) (cap := ch_0_3) rfl rfl fun a S => s_lenS S rfl underlying28 rfl fun a S => s_move S rfl rfl fun a S => c_end (wp_block ?_))
 refine c_loop (fun q1 a w => ∃ m y4 y5 g8, St 32 m b0 [(8, (.i y4)), (7, (.i ((x1.2.2.2.2.2.2.2.2.2).length : Int))), (3, (.i y5)), (1, (.p g8))] [Res.cells g8 30 (Y30.segs x1 ((), (), (), (), (), (ch_0_0, ch_0_1), (), (), (), (ch_0_2, ch_0_3)))] a w ∧ smithyref19_Intrinsic.l1 k x1 q1 y4 y5 = some r) ?_ ?_ (k := k) ⟨_, 0, 0, g1, (S.sb rfl (.c0 .n)), h0⟩
 ·rintro a w ⟨m, y4, y5, g8, S, h0⟩
  exact (nomatch (show (none : Option Int) = some r from h0))
 ·clear S h0
  rintro q1 a w ⟨m, y4, y5, g8, S, h0⟩
  replace h0 : smithyref19_Intrinsic.b1 k x1 (smithyref19_Intrinsic.l1 k x1 q1) y4 y5 = some r := h0
  delta smithyref19_Intrinsic.b1 at h0
  refine c_region (s_bin S rfl rfl rfl rfl fun a S => c_end (wp_seq ?_))
  rcases ite_of h0 with ⟨c1, h1⟩ | ⟨c1, h1⟩
  ·refine c_condT S rfl c1 (wp_skip (x_thenN (wp_seq (wp_block (c_region (s_move S rfl rfl fun a S => s_assign S rfl rfl fun a S => c_end (c_region' (s_move S rfl rfl fun a S => s_fieldAddr S rfl I30_9 T28 (by decide) rfl rfl fun a S => s_loadSl S rfl .h T28 (A := ch_0_2) (len := (x1.2.2.2.2.2.2.2.2.2).length) (cap := ch_0_3) rfl rfl fun a S => s_move S rfl rfl fun a S => ?_))))))))
   obtain ⟨c2, h2⟩ := chk_of h1; clear h1
   refine s_iaddrS S rfl rfl rfl underlying28 T63 c2.1 c2.2 rfl fun p1 a S => s_faddrP S (tF := (Ty.slice (Ty.arr .u64 4))) (y := (gt x1.2.2.2.2.2.2.2.2.2 y4).2) rfl I63_1 T61 (by decide) (fun m h => (at_snd (at_0 h))) rfl fun a S => s_ldS S (fun c => c) rfl T61 (fun _ => rfl) rfl fun A1 cp1 a S => s_lenS S rfl underlying61 rfl fun a S => s_bin S rfl rfl rfl rfl fun a S => s_assign S rfl rfl fun a S => c_end' (x_blockN (x_thenN (c_region' (s_bin S rfl rfl rfl rfl fun a S => s_move S rfl rfl fun a S => c_end' (x_thenN ?_)))))
   exact ⟨_, (wr .i64 (y4 + 1)), (wr .i64 (y5 + (((gt x1.2.2.2.2.2.2.2.2.2 y4).2).length : Int))), g8, (S.sb rfl (.c0 .n)), h2⟩
  ·refine c_condF S rfl c1 (wp_exit (x_thenX (x_thenX (x_blockX (x_thenN ?_)))))
   exact j1 _ y5 g8 a w (S.sb rfl (.c0 .n)) h1
end
end GW
