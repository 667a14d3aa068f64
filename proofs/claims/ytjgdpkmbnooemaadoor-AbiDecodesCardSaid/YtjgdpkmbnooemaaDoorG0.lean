import Derived.Test.YtjgdpkmbnooemaaDoorProg
import Derived.Test.YtjgdpkmbnooemaaDoorGF
set_option linter.unusedVariables false
set_option linter.unusedSimpArgs false
set_option maxRecDepth 10000
set_option maxHeartbeats 4000000
namespace GW
open Go Go.RowKit Go.Proofs Go.Proofs.Tryd
noncomputable section
abbrev fc2_.Ty : Type := ST32 → (List Int) → Int → Option (L38 × Bool)
def fc2_.Ctr (s : fc2_.Ty) : Prop := ∀ (x1 : ST32) (x2 : List Int) (x3 : Int) (ch_0_0 : Unit × Unit × (Option Addr × Nat)) (ch_1_0 : Option Addr) (ch_1_1 : Nat) (r : L38 × Bool), Ct (C := ((Option Addr) × Nat × Nat)) Tryd.prog 36 (s x1 x2 x3 = some r) [] [(.agg [.i ((ST32.un x1).1), .i ((ST32.un x1).2.1), .sl ch_0_0.2.2.1 ((ST32.un x1).2.2).length ch_0_0.2.2.2 (SR32 ch_0_0.2.2.1 ((ST32.un x1).2.2))]), (.q yb ch_1_0 ch_1_1 x2), (.i x3)] (fun ch => (.tup [(false, [.s ch.1 ch.2.1 ch.2.2]), (false, [.b r.2])])) fun ch => [Res.row Y56 56 ch.1 ch.2.1 ch.2.2 r.1]
def fc2_.j4 (y16 : List ((List Int) × (List Int) × Int)) : Option (L38 × Bool) := some (y16, true)
def fc2_.j6 (k : Nat) (y24 : Int) (y25 : Int) (y26 : List ((List Int) × (List Int) × Int)) (rec1 : Int → Int → (List ((List Int) × (List Int) × Int)) → Option (L38 × Bool)) (t14 : ST32) (t17 : L38 × Bool) (y28 : Bool) : Option (L38 × Bool) := if y28 = true then (some (([] : List ((List Int) × (List Int) × Int)), false)) else (if ((y26).length + (t17.1).length) * 64 ≤ 140737488355328 then ((fc5_.f k t14).bind fun t18 => (rec1 (wr .i64 (y24 + 1)) (wr .i64 (y25 + t18)) (y26 ++ t17.1))) else none)
def fc2_.j5 (k : Nat) (self0 : fc2_.Ty) (x2 : List Int) (y24 : Int) (y25 : Int) (y26 : List ((List Int) × (List Int) × Int)) (rec1 : Int → Int → (List ((List Int) × (List Int) × Int)) → Option (L38 × Bool)) (t14 : ST32) (y27 : Int) : Option (L38 × Bool) := (self0 t14 x2 y27).bind fun t17 => (if (!t17.2) = true then (fc2_.j6 k y24 y25 y26 rec1 t14 t17 true) else (fc2_.j6 k y24 y25 y26 rec1 t14 t17 (decide (((x2).length : Int) < ((y26).length : Int)))))
def fc2_.b1 (k : Nat) (self0 : fc2_.Ty) (x1 : ST32) (x2 : List Int) (y3 : Int) (y5 : Int) (rec1 : Int → Int → (List ((List Int) × (List Int) × Int)) → Option (L38 × Bool)) (y24 : Int) (y25 : Int) (y26 : List ((List Int) × (List Int) × Int)) : Option (L38 × Bool) := if (decide (y24 < y5)) = true then ((fd5_.f x1 y24).bind fun t14 => ((fa5_.f k t14).bind fun t19 => (if t19 = true then ((fc_.f k x2 y25).bind fun t20 => (if (decide (t20 < 0)) = true then (some (([] : List ((List Int) × (List Int) × Int)), false)) else (fc2_.j5 k self0 x2 y24 y25 y26 rec1 t14 (wr .i64 (y3 + t20))))) else (fc2_.j5 k self0 x2 y24 y25 y26 rec1 t14 y25)))) else (fc2_.j4 y26)
def fc2_.l1 (k : Nat) (self0 : fc2_.Ty) (x1 : ST32) (x2 : List Int) (y3 : Int) (y5 : Int) : Nat → Int → Int → (List ((List Int) × (List Int) × Int)) → Option (L38 × Bool)
  | 0, _, _, _ => none
  | q + 1, y24, y25, y26 => fc2_.b1 k self0 x1 x2 y3 y5 (fc2_.l1 k self0 x1 x2 y3 y5 q) y24 y25 y26
def fc2_.j3 (k : Nat) (self0 : fc2_.Ty) (x1 : ST32) (x2 : List Int) (y3 : Int) (y5 : Int) : Option (L38 × Bool) := if (decide ((wr .i64 (Int.tdiv ((x2).length : Int) 32)) < y5)) = true then (some (([] : List ((List Int) × (List Int) × Int)), false)) else (fc2_.l1 k self0 x1 x2 y3 y5 k 0 y3 [([0, 0, 0, 0], ([] : List Int), y5)])
def fc2_.j2 (k : Nat) (self0 : fc2_.Ty) (x1 : ST32) (x2 : List Int) (y3 : Int) (y4 : Int) : Option (L38 × Bool) := if (((ST32.un x1).1) == 3) = true then (if (decide (((x2).length : Int) < (wr .i64 (y3 + y4)))) = true then (some (([] : List ((List Int) × (List Int) × Int)), false)) else (if (0 : Int) ≤ y3 ∧ (y3 : Int) ≤ (wr .i64 (y3 + y4)) ∧ (wr .i64 (y3 + y4)) ≤ ((x2).length : Int) then (if ((([] : List Int)).length + ((x2.take (Int.toNat (wr .i64 (y3 + y4)))).drop (Int.toNat y3)).length) * 1 ≤ 140737488355328 then (some ([([0, 0, 0, 0], ([] : List Int) ++ ((x2.take (Int.toNat (wr .i64 (y3 + y4)))).drop (Int.toNat y3)), 0)], true)) else none) else none)) else (if (((ST32.un x1).1) == 6) = true then (fc2_.j3 k self0 x1 x2 y3 (((ST32.un x1).2.2).length : Int)) else (fc2_.j3 k self0 x1 x2 y3 y4))
def fc2_.j7 (k : Nat) (self0 : fc2_.Ty) (x1 : ST32) (x2 : List Int) (x3 : Int) (y29 : Bool) : Option (L38 × Bool) := if y29 = true then ((fc_.f k x2 x3).bind fun t21 => (if (decide (t21 < 0)) = true then (some (([] : List ((List Int) × (List Int) × Int)), false)) else (fc2_.j2 k self0 x1 x2 (wr .i64 (x3 + 32)) t21))) else (fc2_.j2 k self0 x1 x2 x3 ((ST32.un x1).2.1))
def fc2_.j1 (k : Nat) (self0 : fc2_.Ty) (x1 : ST32) (x2 : List Int) (x3 : Int) (y1 : Bool) : Option (L38 × Bool) := if y1 = true then (some (([] : List ((List Int) × (List Int) × Int)), false)) else (if (decide (((ST32.un x1).1) < 3)) = true then (if (decide (((x2).length : Int) < (wr .i64 (x3 + 32)))) = true then (some (([] : List ((List Int) × (List Int) × Int)), false)) else (if (0 : Int) ≤ x3 ∧ (x3 : Int) ≤ (wr .i64 (x3 + 32)) ∧ (wr .i64 (x3 + 32)) ≤ ((x2).length : Int) then ((fd1_.f k ((x2.take (Int.toNat (wr .i64 (x3 + 32)))).drop (Int.toNat x3))).bind fun t1 => ((fb_.f k t1).bind fun t2 => (some ([(t2, ([] : List Int), 0)], true)))) else none)) else (if (((ST32.un x1).1) == 3) = true then (fc2_.j7 k self0 x1 x2 x3 true) else (fc2_.j7 k self0 x1 x2 x3 (((ST32.un x1).1) == 4))))
def fc2_.body (self0 : fc2_.Ty) (k : Nat) (x1 : ST32) (x2 : List Int) (x3 : Int) : Option (L38 × Bool) := if (decide (x3 < 0)) = true then (fc2_.j1 k self0 x1 x2 x3 true) else (fc2_.j1 k self0 x1 x2 x3 (decide (((x2).length : Int) < x3)))
theorem fc2_.okb (self0 : fc2_.Ty) (c_0 : fc2_.Ctr self0) (k : Nat) : fc2_.Ctr (fc2_.body self0 k) := by
 intro x1 x2 x3 ch_0_0 ch_1_0 ch_1_1 r h0 mi w0 ok hm
 delta fc2_.body at h0
 refine c_enterZ (n := 150) ok hm func36 rfl rfl rfl fun b0 hb a S => c_region (s_box S rfl rfl rfl fun g1 a w S => s_assign S rfl rfl fun a S => s_assign S rfl rfl fun a S => c_end (c_region (s_bldSl S (ty' := Y56) (ds := []) (z := ([0, 0, 0, 0], ([] : List Int), 0)) (c0 := ((), (none, 0), ())) (ys := ([] : List ((List Int) × (List Int) × Int))) (cs := []) rfl underlying38 J56 Z56 rfl ⟨rfl, ⟨Nat.le_refl _, Nat.zero_le _, RdS.nil _ _ _, RdS.mono _ _ _⟩, rfl, trivial⟩ rfl rfl rfl rfl rfl rfl fun g2 a w S => s_assign S rfl rfl fun a S => c_end (wp_seq (wp_seq_k fun K1 hK1 => ?_)))))
 have j1 : ∀ m y1 g3 a w, St 150 m b0 [(28, (.b y1)), (8, (.s (ad g2) 0 0)), (3, (.p g3)), (1, (.q yb ch_1_0 ch_1_1 x2)), (2, (.i x3))] [Res.row Y56 56 (ad g2) 0 0 ([] : List ((List Int) × (List Int) × Int)), Res.cells g3 32 [.i ((ST32.un x1).1), .i ((ST32.un x1).2.1), .sl ch_0_0.2.2.1 ((ST32.un x1).2.2).length ch_0_0.2.2.2 (SR32 ch_0_0.2.2.1 ((ST32.un x1).2.2))]] a w → fc2_.j1 k self0 x1 x2 x3 y1 = some r → K1 a w := by
  intro m y1 g3 a w S h0
  delta fc2_.j1 at h0
  refine hK1 a w ?_
  rcases ite_of h0 with ⟨c1, h1⟩ | ⟨c1, h1⟩
  ·refine c_condT S rfl c1 (c_region (s_move S rfl rfl fun a S => s_assign S rfl rfl fun a S => s_assign S rfl rfl fun a S => c_end (wp_ret (x_thenR ?_))))
   obtain rfl := Option.some.inj h1
   exact b_ret2 (d1 := (.s (ad g2) 0 0)) (d2 := (.b false)) S rfl rfl rfl fun ok1 ok2 => S.retX (Hx := []) hb _ _ (((ad g2), 0, 0) : (Option Addr) × Nat × Nat) (.c0 .n) ⟨⟨ok1, trivial⟩, ⟨ok2, trivial⟩, trivial⟩
  ·refine c_condF S rfl c1 (wp_skip (x_thenN (wp_seq (c_region (s_fieldAddr S rfl I32_0 T3 (by decide) rfl rfl fun a S => s_load1 S rfl .h1 T3 (v := (.int .i64 ((ST32.un x1).1))) rfl rfl fun a S => s_bin S rfl rfl rfl rfl fun a S => c_end ?_)))))
   rcases ite_of h1 with ⟨c2, h2⟩ | ⟨c2, h2⟩
   ·refine c_condT S rfl c2 (wp_seq (c_region (s_move S rfl rfl fun a S => s_bin S rfl rfl rfl rfl fun a S => s_move S rfl rfl fun a S => s_lenS S rfl underlying26 rfl fun a S => s_bin S rfl rfl rfl rfl fun a S => c_end ?_)))
    rcases ite_of h2 with ⟨c3, h3⟩ | ⟨c3, h3⟩
    ·refine c_condT S rfl c3 (c_region (s_move S rfl rfl fun a S => s_assign S rfl rfl fun a S => s_assign S rfl rfl fun a S => c_end (wp_ret (x_thenR (x_thenR ?_)))))
     obtain rfl := Option.some.inj h3
     exact b_ret2 (d1 := (.s (ad g2) 0 0)) (d2 := (.b false)) S rfl rfl rfl fun ok1 ok2 => S.retX (Hx := []) hb _ _ (((ad g2), 0, 0) : (Option Addr) × Nat × Nat) (.c0 .n) ⟨⟨ok1, trivial⟩, ⟨ok2, trivial⟩, trivial⟩
    ·refine c_condF S rfl c3 (wp_skip (x_thenN (c_region (s_move S rfl rfl fun a S => s_move S rfl rfl fun a S => s_move S rfl rfl fun a S => s_bin S rfl rfl rfl rfl fun a S => ?_))))
     obtain ⟨c4, h4⟩ := chk_of h3; clear h3
     refine s_cutS S (i := x3) (j := (wr .i64 (x3 + 32))) (ys := (x2.take (Int.toNat (wr .i64 (x3 + 32)))).drop (Int.toNat x3)) rfl rfl underlying26 T5 (.inr ⟨_, _, rfl, rfl⟩) (.inr ⟨_, _, rfl, rfl⟩) c4 rfl rfl fun A1 cp1 a S => bindX h4 fun t1 et1 h5 => s_callP S _ N61 rfl rfl (fd1_.ok k ((x2.take (Int.toNat (wr .i64 (x3 + 32)))).drop (Int.toNat x3)) A1 cp1 t1 et1 _ _) fun ch1 m le1 a w S => bindX h5 fun t2 et2 h6 => s_callP S _ N62 rfl rfl (fb_.ok k t1 t2 et2 _ _) fun ch2 m le1 a w S => s_bldS S (ds := [(0, (.a4 t2))]) (zs := [.w4 [0, 0, 0, 0], .s none 0 0, .i 0]) (s' := [.w4 t2, .s none 0 0, .i 0]) rfl underlying56 P56 Z56 ⟨rfl, rfl, rfl, trivial⟩ rfl rfl fun a S => ?_
     replace S := S.slot (u := 46) (d' := (.agg [.w4 t2, .q yb none 0 ([] : List Int), .i 0])) rfl rfl (by have h := (S.get 46 (.agg [.w4 t2, .s none 0 0, .i 0]) rfl).2; exact ⟨h.1, ok_nil, h.2.2.1, trivial⟩)
     refine s_bldSl S (ty' := Y56) (ds := [(0, (.agg [.w4 t2, .q yb none 0 ([] : List Int), .i 0]))]) (z := ([0, 0, 0, 0], ([] : List Int), 0)) (c0 := ((), (none, 0), ())) (ys := [(t2, ([] : List Int), 0)]) (cs := [((), (none, 0), ())]) rfl underlying38 J56 Z56 rfl ⟨rfl, ⟨Nat.le_refl _, Nat.zero_le _, RdS.nil _ _ _, RdS.mono _ _ _⟩, rfl, trivial⟩ rfl rfl rfl rfl rfl rfl fun g4 a w S => s_assign S rfl rfl fun a S => s_assign S rfl rfl fun a S => c_end (wp_ret (x_thenR ?_))
     obtain rfl := Option.some.inj h6
     exact b_ret2 (d1 := (.s (ad g4) 1 1)) (d2 := (.b true)) S rfl rfl rfl fun ok1 ok2 => S.retX (Hx := []) hb _ _ (((ad g4), 1, 1) : (Option Addr) × Nat × Nat) (.c0 .n) ⟨⟨ok1, trivial⟩, ⟨ok2, trivial⟩, trivial⟩
   ·refine c_condF S rfl c2 (wp_skip (x_thenN (c_region (s_fieldAddr S rfl I32_1 T3 (by decide) rfl rfl fun a S => s_load1 S rfl .h1 T3 (v := (.int .i64 ((ST32.un x1).2.1))) rfl rfl fun a S => s_assign S rfl rfl fun a S => c_end (c_region (s_move S rfl rfl fun a S => s_assign S rfl rfl fun a S => c_end (wp_seq_k fun K2 hK2 => ?_)))))))
    have j2 : ∀ m y3 y4 g6 a w, St 150 m b0 [(10, (.i y3)), (9, (.i y4)), (8, (.s (ad g2) 0 0)), (3, (.p g6)), (1, (.q yb ch_1_0 ch_1_1 x2))] [Res.row Y56 56 (ad g2) 0 0 ([] : List ((List Int) × (List Int) × Int)), Res.cells g6 32 [.i ((ST32.un x1).1), .i ((ST32.un x1).2.1), .sl ch_0_0.2.2.1 ((ST32.un x1).2.2).length ch_0_0.2.2.2 (SR32 ch_0_0.2.2.1 ((ST32.un x1).2.2))]] a w → fc2_.j2 k self0 x1 x2 y3 y4 = some r → K2 a w := by
     intro m y3 y4 g6 a w S h0
     delta fc2_.j2 at h0
     refine hK2 a w (wp_seq (c_region (s_fieldAddr S rfl I32_0 T3 (by decide) rfl rfl fun a S => s_load1 S rfl .h1 T3 (v := (.int .i64 ((ST32.un x1).1))) rfl rfl fun a S => s_bin S rfl rfl rfl rfl fun a S => c_end ?_)))
     rcases ite_of h0 with ⟨c5, h1⟩ | ⟨c5, h1⟩
     ·refine c_condT S rfl c5 (wp_seq (c_region (s_move S rfl rfl fun a S => s_move S rfl rfl fun a S => s_bin S rfl rfl rfl rfl fun a S => s_move S rfl rfl fun a S => s_lenS S rfl underlying26 rfl fun a S => s_bin S rfl rfl rfl rfl fun a S => c_end ?_)))
      rcases ite_of h1 with ⟨c6, h2⟩ | ⟨c6, h2⟩
      ·refine c_condT S rfl c6 (c_region (s_move S rfl rfl fun a S => s_assign S rfl rfl fun a S => s_assign S rfl rfl fun a S => c_end (wp_ret (x_thenR (x_thenR ?_)))))
       obtain rfl := Option.some.inj h2
       exact b_ret2 (d1 := (.s (ad g2) 0 0)) (d2 := (.b false)) S rfl rfl rfl fun ok1 ok2 => S.retX (Hx := []) hb _ _ (((ad g2), 0, 0) : (Option Addr) × Nat × Nat) (.c0 .n) ⟨⟨ok1, trivial⟩, ⟨ok2, trivial⟩, trivial⟩
      ·refine c_condF S rfl c6 (wp_skip (x_thenN (c_region (s_bldSl S (ty' := yb) (ds := []) (z := 0) (c0 := ()) (ys := ([] : List Int)) (cs := []) rfl underlying26 J5 Z5 rfl ⟨rfl, trivial⟩ rfl rfl rfl rfl rfl rfl fun g7 a w S => s_assign S rfl rfl fun a S => c_end (c_region (s_move S rfl rfl fun a S => s_move S rfl rfl fun a S => s_move S rfl rfl fun a S => s_move S rfl rfl fun a S => s_move S rfl rfl fun a S => s_bin S rfl rfl rfl rfl fun a S => ?_))))))
       obtain ⟨c7, h3⟩ := chk_of h2; clear h2
       refine s_cutS S (i := y3) (j := (wr .i64 (y3 + y4))) (ys := (x2.take (Int.toNat (wr .i64 (y3 + y4)))).drop (Int.toNat y3)) rfl rfl underlying26 T5 (.inr ⟨_, _, rfl, rfl⟩) (.inr ⟨_, _, rfl, rfl⟩) c7 rfl rfl fun A2 cp2 a S => ?_
       obtain ⟨c8, h4⟩ := chk_of h3; clear h3
       refine s_app S (k2 := (((x2.take (Int.toNat (wr .i64 (y3 + y4)))).drop (Int.toNat y3)).length)) (ys := ((x2.take (Int.toNat (wr .i64 (y3 + y4)))).drop (Int.toNat y3))) rfl (fun _ _ => .h) rfl rfl rfl (RdS.src (S.get 84 (.q yb A2 cp2 ((x2.take (Int.toNat (wr .i64 (y3 + y4)))).drop (Int.toNat y3))) rfl).2.2.2.1 (by decide) S.frz) underlying26 J5 c8 rfl fun A3 cp3 a w S => s_assign S rfl rfl fun a S => c_end (c_region (s_move S rfl rfl fun a S => s_bldS S (ds := [(1, (.s A3 (0 + (((x2.take (Int.toNat (wr .i64 (y3 + y4)))).drop (Int.toNat y3)).length)) cp3))]) (zs := [.w4 [0, 0, 0, 0], .s none 0 0, .i 0]) (s' := [.w4 [0, 0, 0, 0], .s A3 (0 + (((x2.take (Int.toNat (wr .i64 (y3 + y4)))).drop (Int.toNat y3)).length)) cp3, .i 0]) rfl underlying56 P56 Z56 ⟨rfl, rfl, rfl, trivial⟩ rfl rfl fun a S => ?_))
       replace S := S.rowfro .h
       obtain ⟨m, le1, S, hro⟩ := S
       replace S := S.slot (u := 87) (d' := (.agg [.w4 [0, 0, 0, 0], .q yb A3 cp3 (([] : List Int) ++ ((x2.take (Int.toNat (wr .i64 (y3 + y4)))).drop (Int.toNat y3))), .i 0])) rfl (by simp [D.val, pd, cellsOf, Seg.cells, hro.2.1]) (by have h := (S.get 87 (.agg [.w4 [0, 0, 0, 0], .s A3 (0 + (((x2.take (Int.toNat (wr .i64 (y3 + y4)))).drop (Int.toNat y3)).length)) cp3, .i 0]) rfl).2; exact ⟨h.1, ⟨by have := hro.2.2.1; omega, hro.2.2.2, hro.1, RdS.mono _ _ _⟩, h.2.2.1, trivial⟩)
       replace S := S.slotro (u := 86) rfl hro
       replace S := S.slotro (u := 11) rfl hro
       replace S := S.slotro (u := 85) rfl hro
       refine s_bldSl S (ty' := Y56) (ds := [(0, (.agg [.w4 [0, 0, 0, 0], .q yb A3 cp3 (([] : List Int) ++ ((x2.take (Int.toNat (wr .i64 (y3 + y4)))).drop (Int.toNat y3))), .i 0]))]) (z := ([0, 0, 0, 0], ([] : List Int), 0)) (c0 := ((), (none, 0), ())) (ys := [([0, 0, 0, 0], ([] : List Int) ++ ((x2.take (Int.toNat (wr .i64 (y3 + y4)))).drop (Int.toNat y3)), 0)]) (cs := [((), (A3, cp3), ())]) rfl underlying38 J56 Z56 rfl ⟨rfl, ⟨Nat.le_refl _, Nat.zero_le _, RdS.nil _ _ _, RdS.mono _ _ _⟩, rfl, trivial⟩ rfl rfl rfl rfl rfl rfl fun g8 a w S => s_assign S rfl rfl fun a S => s_assign S rfl rfl fun a S => c_end (wp_ret (x_thenR ?_))
       obtain rfl := Option.some.inj h4
       exact b_ret2 (d1 := (.s (ad g8) 1 1)) (d2 := (.b true)) S rfl rfl rfl fun ok1 ok2 => S.retX (Hx := []) hb _ _ (((ad g8), 1, 1) : (Option Addr) × Nat × Nat) (.c0 .n) ⟨⟨ok1, trivial⟩, ⟨ok2, trivial⟩, trivial⟩
     ·refine c_condF S rfl c5 (wp_skip (x_thenN (wp_seq_k fun K3 hK3 => ?_)))
      have j3 : ∀ m y5 g9 a w, St 150 m b0 [(9, (.i y5)), (10, (.i y3)), (8, (.s (ad g2) 0 0)), (3, (.p g9)), (1, (.q yb ch_1_0 ch_1_1 x2))] [Res.row Y56 56 (ad g2) 0 0 ([] : List ((List Int) × (List Int) × Int)), Res.cells g9 32 [.i ((ST32.un x1).1), .i ((ST32.un x1).2.1), .sl ch_0_0.2.2.1 ((ST32.un x1).2.2).length ch_0_0.2.2.2 (SR32 ch_0_0.2.2.1 ((ST32.un x1).2.2))]] a w → fc2_.j3 k self0 x1 x2 y3 y5 = some r → K3 a w := by
       intro m y5 g9 a w S h0
       delta fc2_.j3 at h0
       refine hK3 a w (wp_seq (c_region (s_move S rfl rfl fun a S => s_move S rfl rfl fun a S => s_lenS S rfl underlying26 rfl fun a S => s_quo S rfl rfl (by decide) rfl fun a S => s_bin S rfl rfl rfl rfl fun a S => c_end ?_)))
       rcases ite_of h0 with ⟨c9, h1⟩ | ⟨c9, h1⟩
       ·refine c_condT S rfl c9 (c_region (s_move S rfl rfl fun a S => s_assign S rfl rfl fun a S => s_assign S rfl rfl fun a S => c_end (wp_ret (x_thenR ?_))))
        obtain rfl := Option.some.inj h1
        exact b_ret2 (d1 := (.s (ad g2) 0 0)) (d2 := (.b false)) S rfl rfl rfl fun ok1 ok2 => S.retX (Hx := []) hb _ _ (((ad g2), 0, 0) : (Option Addr) × Nat × Nat) (.c0 .n) ⟨⟨ok1, trivial⟩, ⟨ok2, trivial⟩, trivial⟩
       ·refine c_condF S rfl c9 (wp_skip (x_thenN (c_region (s_move S rfl rfl fun a S => s_bldS S (ds := [(2, (.i y5))]) (zs := [.w4 [0, 0, 0, 0], .s none 0 0, .i 0]) (s' := [.w4 [0, 0, 0, 0], .s none 0 0, .i y5]) rfl underlying56 P56 Z56 ⟨rfl, rfl, rfl, trivial⟩ rfl rfl fun a S => ?_))))
        replace S := S.slot (u := 102) (d' := (.agg [.w4 [0, 0, 0, 0], .q yb none 0 ([] : List Int), .i y5])) rfl rfl (by have h := (S.get 102 (.agg [.w4 [0, 0, 0, 0], .s none 0 0, .i y5]) rfl).2; exact ⟨h.1, ok_nil, h.2.2.1, trivial⟩)
        refine s_bldSl S (ty' := Y56) (ds := [(0, (.agg [.w4 [0, 0, 0, 0], .q yb none 0 ([] : List Int), .i y5]))]) (z := ([0, 0, 0, 0], ([] : List Int), 0)) (c0 := ((), (none, 0), ())) (ys := [([0, 0, 0, 0], ([] : List Int), y5)]) (cs := [((), (none, 0), ())]) rfl underlying38 J56 Z56 rfl ⟨rfl, ⟨Nat.le_refl _, Nat.zero_le _, RdS.nil _ _ _, RdS.mono _ _ _⟩, rfl, trivial⟩ rfl rfl rfl rfl rfl rfl fun g10 a w S => s_assign S rfl rfl fun a S => c_end (c_region (s_move S rfl rfl fun a S => s_assign S rfl rfl fun a S => c_end (wp_seq_k fun K4 hK4 => ?_)))
        have j4 : ∀ m A4 nn1 cp12 y16 a w, St 150 m b0 [(12, (.s A4 nn1 cp12))] [Res.row Y56 56 A4 nn1 cp12 y16] a w → fc2_.j4 y16 = some r → K4 a w := by
         intro m A4 nn1 cp12 y16 a w S h0
         delta fc2_.j4 at h0
         refine hK4 a w (c_region (s_move S rfl rfl fun a S => s_assign S rfl rfl fun a S => s_assign S rfl rfl fun a S => c_end (wp_ret ?_)))
         obtain rfl := Option.some.inj h0
         exact b_ret2 (d1 := (.s A4 nn1 cp12)) (d2 := (.b true)) S rfl rfl rfl fun ok1 ok2 => S.retX (Hx := []) hb _ _ ((A4, nn1, cp12) : (Option Addr) × Nat × Nat) (.c0 .n) ⟨⟨ok1, trivial⟩, ⟨ok2, trivial⟩, trivial⟩
        refine c_region (s_assign S rfl rfl fun a S => c_end (wp_block ?_))
        refine c_loop (fun q1 a w => ∃ m y24 y25 A5 nn5 cp20 y26 g36, St 150 m b0 [(14, (.i y24)), (13, (.i y25)), (12, (.s A5 nn5 cp20)), (9, (.i y5)), (10, (.i y3)), (8, (.s (ad g2) 0 0)), (3, (.p g36)), (1, (.q yb ch_1_0 ch_1_1 x2))] [Res.row Y56 56 A5 nn5 cp20 y26, Res.row Y56 56 (ad g2) 0 0 ([] : List ((List Int) × (List Int) × Int)), Res.cells g36 32 [.i ((ST32.un x1).1), .i ((ST32.un x1).2.1), .sl ch_0_0.2.2.1 ((ST32.un x1).2.2).length ch_0_0.2.2.2 (SR32 ch_0_0.2.2.1 ((ST32.un x1).2.2))]] a w ∧ fc2_.l1 k self0 x1 x2 y3 y5 q1 y24 y25 y26 = some r) ?_ ?_ (k := k) ⟨_, 0, y3, (ad g10), 1, 1, [([0, 0, 0, 0], ([] : List Int), y5)], g9, (S.sb rfl (.c0 (.c0 (.c0 .n)))), h1⟩
        ·rintro a w ⟨m, y24, y25, A5, nn5, cp20, y26, g36, S, h0⟩
         exact (nomatch (show (none : Option (L38 × Bool)) = some r from h0))
        ·clear S h1
         rintro q1 a w ⟨m, y24, y25, A5, nn5, cp20, y26, g36, S, h0⟩
         replace h0 : fc2_.b1 k self0 x1 x2 y3 y5 (fc2_.l1 k self0 x1 x2 y3 y5 q1) y24 y25 y26 = some r := h0
         delta fc2_.b1 at h0
         refine wp_seq (c_region (s_move S rfl rfl fun a S => s_move S rfl rfl fun a S => s_bin S rfl rfl rfl rfl fun a S => c_end ?_))
         rcases ite_of h0 with ⟨c10, h1⟩ | ⟨c10, h1⟩
         ·refine c_condT S rfl c10 (wp_skip (x_thenN (wp_seq (wp_block (c_region (s_loada S rfl .h2 T32 (s' := [.i ((ST32.un x1).1), .i ((ST32.un x1).2.1), .sl ch_0_0.2.2.1 ((ST32.un x1).2.2).length ch_0_0.2.2.2 (SR32 ch_0_0.2.2.1 ((ST32.un x1).2.2))]) rfl rfl fun a S => s_move S rfl rfl fun a S => bindX h1 fun t14 et14 h2 => s_callP S _ N52 rfl rfl (fd5_.ok x1 y24 ((), (), (ch_0_0.2.2.1, ch_0_0.2.2.2)) t14 et14 _ _) fun ch3 m le1 a w S => s_alloc S Z32 rfl ⟨rfl, rfl, rfl, trivial⟩ rfl fun g37 a w S => s_store S rfl rfl rfl (s' := [.i ((ST32.un t14).1), .i ((ST32.un t14).2.1), .sl ch3.2.2.1 ((ST32.un t14).2.2).length ch3.2.2.2 (SR32 ch3.2.2.1 ((ST32.un t14).2.2))]) .h T32 rfl rfl fun w S => c_end (c_region (s_move S rfl rfl fun a S => s_assign S rfl rfl fun a S => c_end (wp_seq_k fun K5 hK5 => ?_)))))))))
          have j5 : ∀ m y27 g38 g39 A6 cp21 a w, St 150 m b0 [(16, (.i y27)), (15, (.p g38)), (14, (.i y24)), (13, (.i y25)), (12, (.s A5 nn5 cp20)), (9, (.i y5)), (10, (.i y3)), (8, (.s (ad g2) 0 0)), (3, (.p g39)), (1, (.q yb ch_1_0 ch_1_1 x2))] [Res.cells g38 32 [.i ((ST32.un t14).1), .i ((ST32.un t14).2.1), .sl A6 ((ST32.un t14).2.2).length cp21 (SR32 A6 ((ST32.un t14).2.2))], Res.row Y56 56 A5 nn5 cp20 y26, Res.row Y56 56 (ad g2) 0 0 ([] : List ((List Int) × (List Int) × Int)), Res.cells g39 32 [.i ((ST32.un x1).1), .i ((ST32.un x1).2.1), .sl ch_0_0.2.2.1 ((ST32.un x1).2.2).length ch_0_0.2.2.2 (SR32 ch_0_0.2.2.1 ((ST32.un x1).2.2))]] a w → fc2_.j5 k self0 x2 y24 y25 y26 (fc2_.l1 k self0 x1 x2 y3 y5 q1) t14 y27 = some r → K5 a w := by
           intro m y27 g38 g39 A6 cp21 a w S h0
           delta fc2_.j5 at h0
           refine hK5 a w (c_region (s_loada S rfl .h T32 (s' := [.i ((ST32.un t14).1), .i ((ST32.un t14).2.1), .sl A6 ((ST32.un t14).2.2).length cp21 (SR32 A6 ((ST32.un t14).2.2))]) rfl rfl fun a S => s_move S rfl rfl fun a S => s_move S rfl rfl fun a S => bindX h0 fun t17 et17 h1 => s_callR S (fun (ch : (Option Addr) × Nat × Nat) => ((.tup [(false, [.s ch.1 ch.2.1 ch.2.2]), (false, [.b t17.2])]) : D)) (fun (ch : (Option Addr) × Nat × Nat) => Res.row Y56 56 ch.1 ch.2.1 ch.2.2 t17.1) N36 rfl rfl (c_0 t14 x2 y27 ((), (), (A6, cp21)) ch_1_0 ch_1_1 t17 et17 _ _) fun ch4 m le1 a w S => s_move S rfl rfl fun a S => s_extract S rfl rfl rfl rfl fun a S => s_extract S rfl rfl rfl rfl fun a S => s_assign S rfl rfl fun a S => s_assign S rfl rfl fun a S => c_end (wp_seq (wp_seq_k fun K6 hK6 => ?_))))
           have j6 : ∀ m y28 A7 nn6 cp22 g40 g41 a w, St 150 m b0 [(140, (.b y28)), (18, (.s A7 nn6 cp22)), (15, (.p g40)), (14, (.i y24)), (13, (.i y25)), (12, (.s A5 nn5 cp20)), (9, (.i y5)), (10, (.i y3)), (8, (.s (ad g2) 0 0)), (3, (.p g41)), (1, (.q yb ch_1_0 ch_1_1 x2))] [Res.row Y56 56 A7 nn6 cp22 t17.1, Res.cells g40 32 [.i ((ST32.un t14).1), .i ((ST32.un t14).2.1), .sl A6 ((ST32.un t14).2.2).length cp21 (SR32 A6 ((ST32.un t14).2.2))], Res.row Y56 56 A5 nn5 cp20 y26, Res.row Y56 56 (ad g2) 0 0 ([] : List ((List Int) × (List Int) × Int)), Res.cells g41 32 [.i ((ST32.un x1).1), .i ((ST32.un x1).2.1), .sl ch_0_0.2.2.1 ((ST32.un x1).2.2).length ch_0_0.2.2.2 (SR32 ch_0_0.2.2.1 ((ST32.un x1).2.2))]] a w → fc2_.j6 k y24 y25 y26 (fc2_.l1 k self0 x1 x2 y3 y5 q1) t14 t17 y28 = some r → K6 a w := by
            intro m y28 A7 nn6 cp22 g40 g41 a w S h0
            delta fc2_.j6 at h0
            refine hK6 a w ?_
            rcases ite_of h0 with ⟨c11, h1⟩ | ⟨c11, h1⟩
            ·refine c_condT S rfl c11 (c_region (s_move S rfl rfl fun a S => s_assign S rfl rfl fun a S => s_assign S rfl rfl fun a S => c_end (wp_ret (x_thenR (x_blockR (x_thenR (x_thenR (x_blockR (x_thenR ?_)))))))))
             obtain rfl := Option.some.inj h1
             exact b_ret2 (d1 := (.s (ad g2) 0 0)) (d2 := (.b false)) S rfl rfl rfl fun ok1 ok2 => S.retX (Hx := []) hb _ _ (((ad g2), 0, 0) : (Option Addr) × Nat × Nat) (.c3 .n) ⟨⟨ok1, trivial⟩, ⟨ok2, trivial⟩, trivial⟩
            ·refine c_condF S rfl c11 (wp_skip (x_thenN (c_region (s_move S rfl rfl fun a S => s_move S rfl rfl fun a S => ?_))))
             obtain ⟨c12, h2⟩ := chk_of h1; clear h1
             refine s_app S (k2 := nn6) (ys := t17.1) rfl (fun _ _ => .h2) rfl rfl (S.holds _ (Pull.mem .h).1).1 (Res.row.src (S.holds _ (Pull.mem .h).1)) underlying38 J56 c12 rfl fun A8 cp23 a w S => s_assign S rfl rfl fun a S => c_end (c_region' (s_move S rfl rfl fun a S => s_loada S rfl .h1 T32 (s' := [.i ((ST32.un t14).1), .i ((ST32.un t14).2.1), .sl A6 ((ST32.un t14).2.2).length cp21 (SR32 A6 ((ST32.un t14).2.2))]) rfl rfl fun a S => bindX h2 fun t18 et18 h3 => s_callP S _ N14 rfl rfl (fc5_.ok k t14 ((), (), (A6, cp21)) t18 et18 _ _) fun ch5 m le1 a w S => s_bin S rfl rfl rfl rfl fun a S => s_assign S rfl rfl fun a S => c_end' (x_blockN (x_thenN (c_region' (s_move S rfl rfl fun a S => s_bin S rfl rfl rfl rfl fun a S => s_assign S rfl rfl fun a S => c_end' (x_thenN ?_)))))))
             exact ⟨_, (wr .i64 (y24 + 1)), (wr .i64 (y25 + t18)), A8, (nn5 + nn6), cp23, (y26 ++ t17.1), g41, (S.sb rfl (.c2 (.c2 (.c2 .n)))), h3⟩
           refine c_region' (s_move S rfl rfl fun a S => s_not S rfl rfl fun a S => s_move S rfl rfl fun a S => ?_)
           rcases ite_of h1 with ⟨c13, h2⟩ | ⟨c13, h2⟩
           ·refine s_gF S (b := (!t17.2)) rfl rfl c13 rfl fun a S => s_gF S (b := (!t17.2)) rfl rfl c13 rfl fun a S => s_gF S (b := (!t17.2)) rfl rfl c13 rfl fun a S => s_gF S (b := (!t17.2)) rfl rfl c13 rfl fun a S => s_gF S (b := (!t17.2)) rfl rfl c13 rfl fun a S => s_pick S (b := true) (hc_of rfl c13) rfl rfl fun a S => c_end' (x_thenN ?_)
            exact j6 _ true ch4.1 ch4.2.1 ch4.2.2 g38 g39 a w (S.sb rfl (.c0 (.c0 (.c0 (.c0 (.c0 .n)))))) h2
           ·refine s_gT S (b := (!t17.2)) rfl rfl c13 (s_move S rfl rfl fun a S => s_gT S (b := (!t17.2)) rfl rfl c13 (s_lenO S rfl .h2 underlying38 rfl fun a S => s_gT S (b := (!t17.2)) rfl rfl c13 (s_move S rfl rfl fun a S => s_gT S (b := (!t17.2)) rfl rfl c13 (s_lenS S rfl underlying26 rfl fun a S => s_gT S (b := (!t17.2)) rfl rfl c13 (s_bin S rfl rfl rfl rfl fun a S => s_pick S (b := false) (hc_of rfl c13) rfl rfl fun a S => c_end' (x_thenN ?_))))))
            exact j6 _ (decide (((x2).length : Int) < ((y26).length : Int))) ch4.1 ch4.2.1 ch4.2.2 g38 g39 a w (S.sb rfl (.c0 (.c0 (.c0 (.c0 (.c0 .n)))))) h2
          refine c_region (s_loada S rfl .h T32 (s' := [.i ((ST32.un t14).1), .i ((ST32.un t14).2.1), .sl ch3.2.2.1 ((ST32.un t14).2.2).length ch3.2.2.2 (SR32 ch3.2.2.1 ((ST32.un t14).2.2))]) rfl rfl fun a S => bindX h2 fun t19 et19 h3 => s_callP S _ N15 rfl rfl (fa5_.ok k t14 ((), (), (ch3.2.2.1, ch3.2.2.2)) t19 et19 _ _) fun ch6 m le1 a w S => c_end ?_)
          rcases ite_of h3 with ⟨c14, h4⟩ | ⟨c14, h4⟩
          ·refine c_condT S rfl c14 (c_region (s_move S rfl rfl fun a S => s_move S rfl rfl fun a S => bindX h4 fun t20 et20 h5 => s_callP S _ N63 rfl rfl (fc_.ok k x2 y25 ch_1_0 ch_1_1 t20 et20 _ _) fun ch7 m le1 a w S => s_assign S rfl rfl fun a S => c_end (wp_seq (c_region (s_move S rfl rfl fun a S => s_bin S rfl rfl rfl rfl fun a S => c_end ?_)))))
           rcases ite_of h5 with ⟨c15, h6⟩ | ⟨c15, h6⟩
           ·refine c_condT S rfl c15 (c_region (s_move S rfl rfl fun a S => s_assign S rfl rfl fun a S => s_assign S rfl rfl fun a S => c_end (wp_ret (x_thenR (x_thenR (x_blockR (x_thenR (x_thenR (x_blockR (x_thenR ?_))))))))))
            obtain rfl := Option.some.inj h6
            exact b_ret2 (d1 := (.s (ad g2) 0 0)) (d2 := (.b false)) S rfl rfl rfl fun ok1 ok2 => S.retX (Hx := []) hb _ _ (((ad g2), 0, 0) : (Option Addr) × Nat × Nat) (.c2 .n) ⟨⟨ok1, trivial⟩, ⟨ok2, trivial⟩, trivial⟩
           ·refine c_condF S rfl c15 (wp_skip (x_thenN (c_region' (s_move S rfl rfl fun a S => s_move S rfl rfl fun a S => s_bin S rfl rfl rfl rfl fun a S => s_assign S rfl rfl fun a S => c_end' (x_thenN ?_)))))
            exact j5 _ (wr .i64 (y3 + t20)) g37 g36 ch3.2.2.1 ch3.2.2.2 a w (S.sb rfl (.c0 (.c0 (.c0 (.c0 .n))))) h6
          ·refine c_condF S rfl c14 (wp_skip (x_thenN ?_))
           exact j5 _ y25 g37 g36 ch3.2.2.1 ch3.2.2.2 a w (S.sb rfl (.c0 (.c0 (.c0 (.c0 .n))))) h4
         ·refine c_condF S rfl c10 (wp_exit (x_thenX (x_thenX (x_blockX (x_thenN ?_)))))
          exact j4 _ A5 nn5 cp20 y26 a w (S.sub ⟨rfl, trivial⟩ (.c0 .n)) h1
      refine c_region (s_fieldAddr S rfl I32_0 T3 (by decide) rfl rfl fun a S => s_load1 S rfl .h1 T3 (v := (.int .i64 ((ST32.un x1).1))) rfl rfl fun a S => s_bin S rfl rfl rfl rfl fun a S => c_end ?_)
      rcases ite_of h1 with ⟨c16, h2⟩ | ⟨c16, h2⟩
      ·refine c_condT S rfl c16 (c_region' (s_fieldAddr S rfl I32_2 T30 (by decide) rfl rfl fun a S => s_loadSl S rfl .h1 T30 (A := ch_0_0.2.2.1) (len := ((ST32.un x1).2.2).length) (cap := ch_0_0.2.2.2) rfl rfl fun a S => s_lenS S rfl underlying30 rfl fun a S => s_assign S rfl rfl fun a S => c_end' (x_thenN ?_)))
       exact j3 _ (((ST32.un x1).2.2).length : Int) g6 a w (S.sb rfl (.c0 (.c0 .n))) h2
      ·refine c_condF S rfl c16 (wp_skip (x_thenN ?_))
       exact j3 _ y4 g6 a w (S.sb rfl (.c0 (.c0 .n))) h2
    refine wp_seq_k fun K7 hK7 => ?_
    have j7 : ∀ m y29 g42 a w, St 150 m b0 [(58, (.b y29)), (10, (.i x3)), (9, (.i ((ST32.un x1).2.1))), (8, (.s (ad g2) 0 0)), (3, (.p g42)), (1, (.q yb ch_1_0 ch_1_1 x2)), (2, (.i x3))] [Res.row Y56 56 (ad g2) 0 0 ([] : List ((List Int) × (List Int) × Int)), Res.cells g42 32 [.i ((ST32.un x1).1), .i ((ST32.un x1).2.1), .sl ch_0_0.2.2.1 ((ST32.un x1).2.2).length ch_0_0.2.2.2 (SR32 ch_0_0.2.2.1 ((ST32.un x1).2.2))]] a w → fc2_.j7 k self0 x1 x2 x3 y29 = some r → K7 a w := by
     intro m y29 g42 a w S h0
     delta fc2_.j7 at h0
     refine hK7 a w ?_
     rcases ite_of h0 with ⟨c17, h1⟩ | ⟨c17, h1⟩
     ·refine c_condT S rfl c17 (c_region (s_move S rfl rfl fun a S => s_move S rfl rfl fun a S => bindX h1 fun t21 et21 h2 => s_callP S _ N63 rfl rfl (fc_.ok k x2 x3 ch_1_0 ch_1_1 t21 et21 _ _) fun ch8 m le1 a w S => s_assign S rfl rfl fun a S => c_end (c_region (s_move S rfl rfl fun a S => s_bin S rfl rfl rfl rfl fun a S => s_assign S rfl rfl fun a S => c_end (c_region (s_move S rfl rfl fun a S => s_bin S rfl rfl rfl rfl fun a S => c_end ?_))))))
      rcases ite_of h2 with ⟨c18, h3⟩ | ⟨c18, h3⟩
      ·refine c_condT S rfl c18 (c_region (s_move S rfl rfl fun a S => s_assign S rfl rfl fun a S => s_assign S rfl rfl fun a S => c_end (wp_ret (x_thenR ?_))))
       obtain rfl := Option.some.inj h3
       exact b_ret2 (d1 := (.s (ad g2) 0 0)) (d2 := (.b false)) S rfl rfl rfl fun ok1 ok2 => S.retX (Hx := []) hb _ _ (((ad g2), 0, 0) : (Option Addr) × Nat × Nat) (.c0 .n) ⟨⟨ok1, trivial⟩, ⟨ok2, trivial⟩, trivial⟩
      ·refine c_condF S rfl c18 (wp_skip (x_thenN ?_))
       exact j2 _ (wr .i64 (x3 + 32)) t21 g42 a w (S.sb rfl (.c0 (.c0 .n))) h3
     ·refine c_condF S rfl c17 (wp_skip (x_thenN ?_))
      exact j2 _ x3 ((ST32.un x1).2.1) g42 a w (S.sb rfl (.c0 (.c0 .n))) h1
    refine c_region' (s_fieldAddr S rfl I32_0 T3 (by decide) rfl rfl fun a S => s_load1 S rfl .h1 T3 (v := (.int .i64 ((ST32.un x1).1))) rfl rfl fun a S => s_bin S rfl rfl rfl rfl fun a S => s_move S rfl rfl fun a S => ?_)
    rcases ite_of h2 with ⟨c19, h3⟩ | ⟨c19, h3⟩
    ·refine s_gF S (b := (((ST32.un x1).1) == 3)) rfl rfl c19 rfl fun a S => s_gF S (b := (((ST32.un x1).1) == 3)) rfl rfl c19 rfl fun a S => s_gF S (b := (((ST32.un x1).1) == 3)) rfl rfl c19 rfl fun a S => s_pick S (b := true) (hc_of rfl c19) rfl rfl fun a S => c_end' (x_thenN ?_)
     exact j7 _ true g3 a w (S.sb rfl (.c0 (.c0 .n))) h3
    ·refine s_gT S (b := (((ST32.un x1).1) == 3)) rfl rfl c19 (s_fieldAddr S rfl I32_0 T3 (by decide) rfl rfl fun a S => s_gT S (b := (((ST32.un x1).1) == 3)) rfl rfl c19 (s_load1 S rfl .h1 T3 (v := (.int .i64 ((ST32.un x1).1))) rfl rfl fun a S => s_gT S (b := (((ST32.un x1).1) == 3)) rfl rfl c19 (s_bin S rfl rfl rfl rfl fun a S => s_pick S (b := false) (hc_of rfl c19) rfl rfl fun a S => c_end' (x_thenN ?_))))
     exact j7 _ (((ST32.un x1).1) == 4) g3 a w (S.sb rfl (.c0 (.c0 .n))) h3
 refine c_region' (s_move S rfl rfl fun a S => s_bin S rfl rfl rfl rfl fun a S => s_move S rfl rfl fun a S => ?_)
 rcases ite_of h0 with ⟨c20, h1⟩ | ⟨c20, h1⟩
 ·refine s_gF S (b := (decide (x3 < 0))) rfl rfl c20 rfl fun a S => s_gF S (b := (decide (x3 < 0))) rfl rfl c20 rfl fun a S => s_gF S (b := (decide (x3 < 0))) rfl rfl c20 rfl fun a S => s_gF S (b := (decide (x3 < 0))) rfl rfl c20 rfl fun a S => s_pick S (b := true) (hc_of rfl c20) rfl rfl fun a S => c_end' (x_thenN ?_)
  exact j1 _ true g1 a w (S.sb rfl (.c0 (.c0 .n))) h1
 ·refine s_gT S (b := (decide (x3 < 0))) rfl rfl c20 (s_move S rfl rfl fun a S => s_gT S (b := (decide (x3 < 0))) rfl rfl c20 (s_move S rfl rfl fun a S => s_gT S (b := (decide (x3 < 0))) rfl rfl c20 (s_lenS S rfl underlying26 rfl fun a S => s_gT S (b := (decide (x3 < 0))) rfl rfl c20 (s_bin S rfl rfl rfl rfl fun a S => s_pick S (b := false) (hc_of rfl c20) rfl rfl fun a S => c_end' (x_thenN ?_)))))
  exact j1 _ (decide (((x2).length : Int) < x3)) g1 a w (S.sb rfl (.c0 (.c0 .n))) h1
def fc2_.f : Nat → fc2_.Ty
  | 0 => fun _ _ _ => none
  | k + 1 => fc2_.body (fc2_.f k) k
theorem fc2_.oks : ∀ k : Nat, fc2_.Ctr (fc2_.f k)
  | 0 => fun _ _ _ _ _ _ r h0 => (nomatch (show (none : Option (L38 × Bool)) = some r from h0))
  | k + 1 => by
    have ih := fc2_.oks k
    exact fc2_.okb (fc2_.f k) ih k
theorem fc2_.ok (k : Nat) : fc2_.Ctr (fc2_.f k) := (fc2_.oks k)
abbrev fb0_.Ty : Type := ByteArray → (List Int) → Option (L38 × Int)
def fb0_.Ctr (s : fb0_.Ty) : Prop := ∀ (x1 : ByteArray) (x2 : List Int) (ch_1_0 : Option Addr) (ch_1_1 : Nat) (r : L38 × Int), Ct (C := ((Option Addr) × Nat)) Tryd.prog 21 (s x1 x2 = some r) [] [(.v (.string x1)), (.q yb ch_1_0 ch_1_1 x2)] (fun ch => (.tup [(false, [.q Y56 ch.1 ch.2 r.1]), (false, [.i r.2])])) fun _ => []
def fb0_.j2 (t2 : L38 × Bool) (y2 : Bool) : Option (L38 × Int) := if y2 = true then (some (([] : List ((List Int) × (List Int) × Int)), 2)) else (some (t2.1, 0))
def fb0_.j1 (k : Nat) (x1 : ByteArray) (x2 : List Int) (t1 : ST32 × Bool) (y1 : Bool) : Option (L38 × Int) := if y1 = true then (some (([] : List ((List Int) × (List Int) × Int)), 17)) else (if (decide (1048576 < ((x2).length : Int))) = true then (some (([] : List ((List Int) × (List Int) × Int)), 4)) else ((fc2_.f k t1.1 x2 0).bind fun t2 => (if (!t2.2) = true then (some (([] : List ((List Int) × (List Int) × Int)), 2)) else ((fa9_.f k x1 t2.1).bind fun t3 => (if (t3.2 != 0) = true then (fb0_.j2 t2 true) else (fb0_.j2 t2 (!((bstr t3.1).toList == (bstr x2).toList))))))))
def fb0_.f (k : Nat) (x1 : ByteArray) (x2 : List Int) : Option (L38 × Int) := (fc0_.f k x1).bind fun t1 => (if (!t1.2) = true then (fb0_.j1 k x1 x2 t1 true) else (fb0_.j1 k x1 x2 t1 (((ST32.un t1.1).1) != 6)))
theorem fb0_.ok (k : Nat) : fb0_.Ctr (fb0_.f k) := by
 intro x1 x2 ch_1_0 ch_1_1 r h0 mi w0 ok hm
 delta fb0_.f at h0
 refine c_enterZ (n := 56) ok hm func21 rfl rfl rfl fun b0 hb a S => c_region (s_assign S rfl rfl fun a S => s_assign S rfl rfl fun a S => c_end (c_region (s_bldSl S (ty' := Y56) (ds := []) (z := ([0, 0, 0, 0], ([] : List Int), 0)) (c0 := ((), (none, 0), ())) (ys := ([] : List ((List Int) × (List Int) × Int))) (cs := []) rfl underlying38 J56 Z56 rfl ⟨rfl, ⟨Nat.le_refl _, Nat.zero_le _, RdS.nil _ _ _, RdS.mono _ _ _⟩, rfl, trivial⟩ rfl rfl rfl rfl rfl rfl fun g1 a w S => s_assign S rfl rfl fun a S => c_end (c_region (s_move S rfl rfl fun a S => bindX h0 fun t1 et1 h1 => s_callP S _ N10 rfl rfl (fc0_.ok k x1 t1 et1 _ _) fun ch1 m le1 a w S => s_move S rfl rfl fun a S => s_extract S rfl rfl rfl rfl fun a S => s_extract S rfl rfl rfl rfl fun a S => s_alloc S Z32 rfl ⟨rfl, rfl, rfl, trivial⟩ rfl fun g2 a w S => s_store S rfl rfl rfl (s' := [.i ((ST32.un t1.1).1), .i ((ST32.un t1.1).2.1), .sl ch1.2.2.1 ((ST32.un t1.1).2.2).length ch1.2.2.2 (SR32 ch1.2.2.1 ((ST32.un t1.1).2.2))]) .h T32 rfl rfl fun w S => s_assign S rfl rfl fun a S => c_end (wp_seq (wp_seq_k fun K1 hK1 => ?_)))))))
 have j1 : ∀ m y1 g3 A1 cp1 a w, St 56 m b0 [(24, (.b y1)), (7, (.p g3)), (6, (.s (ad g1) 0 0)), (0, (.v (.string x1))), (1, (.q yb ch_1_0 ch_1_1 x2))] [Res.cells g3 32 [.i ((ST32.un t1.1).1), .i ((ST32.un t1.1).2.1), .sl A1 ((ST32.un t1.1).2.2).length cp1 (SR32 A1 ((ST32.un t1.1).2.2))], Res.row Y56 56 (ad g1) 0 0 ([] : List ((List Int) × (List Int) × Int))] a w → fb0_.j1 k x1 x2 t1 y1 = some r → K1 a w := by
  intro m y1 g3 A1 cp1 a w S h0
  delta fb0_.j1 at h0
  refine hK1 a w ?_
  rcases ite_of h0 with ⟨c1, h1⟩ | ⟨c1, h1⟩
  ·refine c_condT S rfl c1 (c_region (s_move S rfl rfl fun a S => s_assign S rfl rfl fun a S => s_assign S rfl rfl fun a S => c_end (wp_ret (x_thenR ?_))))
   replace S := S.rowfro .h1
   obtain ⟨m, le1, S, hro⟩ := S
   replace S := S.slotro (u := 4) rfl hro
   replace S := S.slotro (u := 25) rfl hro
   replace S := S.slotro (u := 6) rfl hro
   obtain rfl := Option.some.inj h1
   exact b_ret2 (d1 := (.q Y56 (ad g1) 0 ([] : List ((List Int) × (List Int) × Int)))) (d2 := (.i 17)) S rfl rfl rfl fun ok1 ok2 => S.retX (Hx := []) hb _ _ (((ad g1), 0) : (Option Addr) × Nat) .nil ⟨⟨ok1, trivial⟩, ⟨ok2, trivial⟩, trivial⟩
  ·refine c_condF S rfl c1 (wp_skip (x_thenN (wp_seq (c_region (s_move S rfl rfl fun a S => s_lenS S rfl underlying26 rfl fun a S => s_bin S rfl rfl rfl rfl fun a S => c_end ?_)))))
   rcases ite_of h1 with ⟨c2, h2⟩ | ⟨c2, h2⟩
   ·refine c_condT S rfl c2 (c_region (s_move S rfl rfl fun a S => s_assign S rfl rfl fun a S => s_assign S rfl rfl fun a S => c_end (wp_ret (x_thenR ?_))))
    replace S := S.rowfro .h1
    obtain ⟨m, le1, S, hro⟩ := S
    replace S := S.slotro (u := 4) rfl hro
    replace S := S.slotro (u := 29) rfl hro
    replace S := S.slotro (u := 6) rfl hro
    obtain rfl := Option.some.inj h2
    exact b_ret2 (d1 := (.q Y56 (ad g1) 0 ([] : List ((List Int) × (List Int) × Int)))) (d2 := (.i 4)) S rfl rfl rfl fun ok1 ok2 => S.retX (Hx := []) hb _ _ (((ad g1), 0) : (Option Addr) × Nat) .nil ⟨⟨ok1, trivial⟩, ⟨ok2, trivial⟩, trivial⟩
   ·refine c_condF S rfl c2 (wp_skip (x_thenN (c_region (s_loada S rfl .h T32 (s' := [.i ((ST32.un t1.1).1), .i ((ST32.un t1.1).2.1), .sl A1 ((ST32.un t1.1).2.2).length cp1 (SR32 A1 ((ST32.un t1.1).2.2))]) rfl rfl fun a S => s_move S rfl rfl fun a S => bindX h2 fun t2 et2 h3 => s_callR S (fun (ch : (Option Addr) × Nat × Nat) => ((.tup [(false, [.s ch.1 ch.2.1 ch.2.2]), (false, [.b t2.2])]) : D)) (fun (ch : (Option Addr) × Nat × Nat) => Res.row Y56 56 ch.1 ch.2.1 ch.2.2 t2.1) N36 rfl rfl (fc2_.ok k t1.1 x2 0 ((), (), (A1, cp1)) ch_1_0 ch_1_1 t2 et2 _ _) fun ch2 m le1 a w S => s_move S rfl rfl fun a S => s_extract S rfl rfl rfl rfl fun a S => s_extract S rfl rfl rfl rfl fun a S => s_assign S rfl rfl fun a S => s_assign S rfl rfl fun a S => c_end (wp_seq (c_region (s_move S rfl rfl fun a S => s_not S rfl rfl fun a S => c_end ?_)))))))
    rcases ite_of h3 with ⟨c3, h4⟩ | ⟨c3, h4⟩
    ·refine c_condT S rfl c3 (c_region (s_move S rfl rfl fun a S => s_assign S rfl rfl fun a S => s_assign S rfl rfl fun a S => c_end (wp_ret (x_thenR ?_))))
     replace S := S.rowfro .h2
     obtain ⟨m, le1, S, hro⟩ := S
     replace S := S.slotro (u := 4) rfl hro
     replace S := S.slotro (u := 38) rfl hro
     replace S := S.slotro (u := 6) rfl hro
     obtain rfl := Option.some.inj h4
     exact b_ret2 (d1 := (.q Y56 (ad g1) 0 ([] : List ((List Int) × (List Int) × Int)))) (d2 := (.i 2)) S rfl rfl rfl fun ok1 ok2 => S.retX (Hx := []) hb _ _ (((ad g1), 0) : (Option Addr) × Nat) .nil ⟨⟨ok1, trivial⟩, ⟨ok2, trivial⟩, trivial⟩
    ·refine c_condF S rfl c3 (wp_skip (x_thenN (c_region (s_move S rfl rfl fun a S => s_move S rfl rfl fun a S => ?_))))
     replace S := S.rowfro .h
     obtain ⟨m, le1, S, hro⟩ := S
     replace S := S.slotro (u := 41) rfl hro
     replace S := S.slotro (u := 9) rfl hro
     replace S := S.slotro (u := 34) rfl hro
     refine bindX h4 fun t3 et3 h5 => s_callR S (fun (ch : (Option Addr) × Nat × Nat) => ((.tup [(false, [.s ch.1 ch.2.1 ch.2.2]), (false, [.i t3.2])]) : D)) (fun (ch : (Option Addr) × Nat × Nat) => Res.row yb 5 ch.1 ch.2.1 ch.2.2 t3.1) N18 rfl rfl (fa9_.ok k x1 t2.1 ch2.1 ch2.2.2 t3 et3 _ _) fun ch3 m le1 a w S => s_move S rfl rfl fun a S => s_extract S rfl rfl rfl rfl fun a S => s_extract S rfl rfl rfl rfl fun a S => s_assign S rfl rfl fun a S => s_assign S rfl rfl fun a S => c_end (wp_seq (wp_seq_k fun K2 hK2 => ?_))
     have j2 : ∀ m y2 A2 cp2 a w, St 56 m b0 [(53, (.b y2)), (9, (.q Y56 A2 cp2 t2.1)), (6, (.s (ad g1) 0 0))] [Res.row Y56 56 (ad g1) 0 0 ([] : List ((List Int) × (List Int) × Int))] a w → fb0_.j2 t2 y2 = some r → K2 a w := by
      intro m y2 A2 cp2 a w S h0
      delta fb0_.j2 at h0
      refine hK2 a w ?_
      rcases ite_of h0 with ⟨c4, h1⟩ | ⟨c4, h1⟩
      ·refine c_condT S rfl c4 (c_region (s_move S rfl rfl fun a S => s_assign S rfl rfl fun a S => s_assign S rfl rfl fun a S => c_end (wp_ret (x_thenR ?_))))
       replace S := S.rowfro .h
       obtain ⟨m, le1, S, hro⟩ := S
       replace S := S.slotro (u := 4) rfl hro
       replace S := S.slotro (u := 54) rfl hro
       replace S := S.slotro (u := 6) rfl hro
       obtain rfl := Option.some.inj h1
       exact b_ret2 (d1 := (.q Y56 (ad g1) 0 ([] : List ((List Int) × (List Int) × Int)))) (d2 := (.i 2)) S rfl rfl rfl fun ok1 ok2 => S.retX (Hx := []) hb _ _ (((ad g1), 0) : (Option Addr) × Nat) .nil ⟨⟨ok1, trivial⟩, ⟨ok2, trivial⟩, trivial⟩
      ·refine c_condF S rfl c4 (wp_skip (x_thenN (c_region (s_move S rfl rfl fun a S => s_assign S rfl rfl fun a S => s_assign S rfl rfl fun a S => c_end (wp_ret ?_)))))
       obtain rfl := Option.some.inj h1
       exact b_ret2 (d1 := (.q Y56 A2 cp2 t2.1)) (d2 := (.i 0)) S rfl rfl rfl fun ok1 ok2 => S.retX (Hx := []) hb _ _ ((A2, cp2) : (Option Addr) × Nat) .nil ⟨⟨ok1, trivial⟩, ⟨ok2, trivial⟩, trivial⟩
     refine c_region' (s_move S rfl rfl fun a S => s_bin S rfl rfl rfl rfl fun a S => s_move S rfl rfl fun a S => ?_)
     rcases ite_of h5 with ⟨c5, h6⟩ | ⟨c5, h6⟩
     ·refine s_gF S (b := (t3.2 != 0)) rfl rfl c5 rfl fun a S => s_gF S (b := (t3.2 != 0)) rfl rfl c5 rfl fun a S => s_gF S (b := (t3.2 != 0)) rfl rfl c5 rfl fun a S => s_gF S (b := (t3.2 != 0)) rfl rfl c5 rfl fun a S => s_gF S (b := (t3.2 != 0)) rfl rfl c5 rfl fun a S => s_pick S (b := true) (hc_of rfl c5) rfl rfl fun a S => c_end' (x_thenN ?_)
      exact j2 _ true ch2.1 ch2.2.2 a w (S.sb rfl (.c2 .n)) h6
     ·refine s_gT S (b := (t3.2 != 0)) rfl rfl c5 (s_move S rfl rfl fun a S => s_gT S (b := (t3.2 != 0)) rfl rfl c5 ?_)
      replace S := S.rowfro .h
      obtain ⟨m, le1, S, hro⟩ := S
      replace S := S.slotro (u := 48) rfl hro
      replace S := S.slotro (u := 10) rfl hro
      replace S := S.slotro (u := 43) rfl hro
      refine s_strS S rfl rfl underlying26 underlying5 underlying9 rfl fun a S => s_gT S (b := (t3.2 != 0)) rfl rfl c5 (s_move S rfl rfl fun a S => s_gT S (b := (t3.2 != 0)) rfl rfl c5 (s_strS S rfl rfl underlying26 underlying5 underlying9 rfl fun a S => s_gT S (b := (t3.2 != 0)) rfl rfl c5 (s_neT S rfl rfl rfl fun a S => s_pick S (b := false) (hc_of rfl c5) rfl rfl fun a S => c_end' (x_thenN ?_))))
      exact j2 _ (!((bstr t3.1).toList == (bstr x2).toList)) ch2.1 ch2.2.2 a w (S.sb rfl (.c1 .n)) h6
 refine c_region' (s_move S rfl rfl fun a S => s_not S rfl rfl fun a S => s_move S rfl rfl fun a S => ?_)
 rcases ite_of h1 with ⟨c6, h2⟩ | ⟨c6, h2⟩
 ·refine s_gF S (b := (!t1.2)) rfl rfl c6 rfl fun a S => s_gF S (b := (!t1.2)) rfl rfl c6 rfl fun a S => s_gF S (b := (!t1.2)) rfl rfl c6 rfl fun a S => s_pick S (b := true) (hc_of rfl c6) rfl rfl fun a S => c_end' (x_thenN ?_)
  exact j1 _ true g2 ch1.2.2.1 ch1.2.2.2 a w (S.sb rfl (.c0 (.c0 .n))) h2
 ·refine s_gT S (b := (!t1.2)) rfl rfl c6 (s_fieldAddr S rfl I32_0 T3 (by decide) rfl rfl fun a S => s_gT S (b := (!t1.2)) rfl rfl c6 (s_load1 S rfl .h T3 (v := (.int .i64 ((ST32.un t1.1).1))) rfl rfl fun a S => s_gT S (b := (!t1.2)) rfl rfl c6 (s_bin S rfl rfl rfl rfl fun a S => s_pick S (b := false) (hc_of rfl c6) rfl rfl fun a S => c_end' (x_thenN ?_))))
  exact j1 _ (((ST32.un t1.1).1) != 6) g2 ch1.2.2.1 ch1.2.2.2 a w (S.sb rfl (.c0 (.c0 .n))) h2
abbrev fa3_.Ty : Type := ByteArray → (List Int) → Option Bool
def fa3_.Ctr (s : fa3_.Ty) : Prop := ∀ (x1 : ByteArray) (x2 : List Int) (ch_1_0 : Option Addr) (ch_1_1 : Nat) (r : Bool), CtG (C := Unit) Tryd.prog Glob 6 (s x1 x2 = some r) [] [(.v (.string x1)), (.q yb ch_1_0 ch_1_1 x2)] (fun _ => (.b r)) fun _ => []
def fa3_.j2 (k : Nat) (x1 : ByteArray) (x2 : List Int) (t2 : L38 × Int) (y2 : Bool) : Option Bool := if y2 = true then (some false) else (if (t2.2 != 0) = true then (some true) else ((ff0_.f k x1 t2.1).bind fun t6 => (if (t6.2 == 0) = true then (some ((bstr t6.1).toList == (bstr x2).toList)) else (some false))))
def fa3_.j1 (k : Nat) (x1 : ByteArray) (x2 : List Int) (y1 : Bool) : Option Bool := if y1 = true then ((fc4_.f k).bind fun t1 => (some t1)) else (if ((([] : List Int)).length + (x2).length) * 1 ≤ 140737488355328 then ((ff1_.f k x1 (([] : List Int) ++ x2)).bind fun t2 => ((fb0_.f k x1 x2).bind fun t3 => ((fc4_.f k).bind fun t7 => (if (!t7) = true then (fa3_.j2 k x1 x2 t2 true) else ((fc6_.f k t2.1 t3.1).bind fun t8 => (if (!t8) = true then (fa3_.j2 k x1 x2 t2 true) else (if (t2.2 != t3.2) = true then (fa3_.j2 k x1 x2 t2 true) else (fa3_.j2 k x1 x2 t2 (!((bstr (([] : List Int) ++ x2)).toList == (bstr x2).toList)))))))))) else none)
def fa3_.f (k : Nat) (x1 : ByteArray) (x2 : List Int) : Option Bool := if (decide (600 < (x1.size : Int))) = true then (fa3_.j1 k x1 x2 true) else (fa3_.j1 k x1 x2 (decide (1500 < ((x2).length : Int))))
theorem fa3_.ok (k : Nat) : fa3_.Ctr (fa3_.f k) := by
 intro x1 x2 ch_1_0 ch_1_1 r h0 mi w0 G ok hm
 delta fa3_.f at h0
 refine c_enterZ (n := 73) ok hm func6 rfl rfl rfl fun b0 hb a S => c_region (s_assign S rfl rfl fun a S => c_end (wp_seq (wp_seq_k fun K1 hK1 => ?_)))
 have j1 : ∀ m y1 a w, St 73 m b0 [(19, (.b y1)), (0, (.v (.string x1))), (1, (.q yb ch_1_0 ch_1_1 x2))] [] a w → fa3_.j1 k x1 x2 y1 = some r → K1 a w := by
  intro m y1 a w S h0
  delta fa3_.j1 at h0
  refine hK1 a w ?_
  rcases ite_of h0 with ⟨c1, h1⟩ | ⟨c1, h1⟩
  ·refine c_condT S rfl c1 (c_region (bindX h1 fun t1 et1 h2 => s_callP S _ N7 rfl rfl (fc4_.ok k t1 et1 _ _ (G.mono (S.leB hb))) fun ch1 m le1 a w S => s_assign S rfl rfl fun a S => c_end (wp_ret (x_thenR ?_))))
   obtain rfl := Option.some.inj h2
   exact b_ret1 (d := (.b t1)) S rfl rfl (S.rt hb)
  ·refine c_condF S rfl c1 (wp_skip (x_thenN (c_region (s_bldSl S (ty' := yb) (ds := []) (z := 0) (c0 := ()) (ys := ([] : List Int)) (cs := []) rfl underlying26 J5 Z5 rfl ⟨rfl, trivial⟩ rfl rfl rfl rfl rfl rfl fun g1 a w S => s_move S rfl rfl fun a S => ?_))))
   obtain ⟨c2, h2⟩ := chk_of h1; clear h1
   refine s_app S (k2 := ((x2).length)) (ys := x2) rfl (fun _ _ => .h) rfl rfl rfl (RdS.src (S.get 22 (.q yb ch_1_0 ch_1_1 x2) rfl).2.2.2.1 (by decide) S.frz) underlying26 J5 c2 rfl fun A1 cp1 a w S => s_assign S rfl rfl fun a S => c_end (c_region (s_move S rfl rfl fun a S => s_move S rfl rfl fun a S => ?_))
   replace S := S.rowfro .h
   obtain ⟨m, le1, S, hro⟩ := S
   replace S := S.slotro (u := 26) rfl hro
   replace S := S.slotro (u := 5) rfl hro
   replace S := S.slotro (u := 23) rfl hro
   refine bindX h2 fun t2 et2 h3 => s_callR S (fun (ch : (Option Addr) × Nat × Nat) => ((.tup [(false, [.s ch.1 ch.2.1 ch.2.2]), (false, [.i t2.2])]) : D)) (fun (ch : (Option Addr) × Nat × Nat) => Res.row Y56 56 ch.1 ch.2.1 ch.2.2 t2.1) N19 rfl rfl (ff1_.ok k x1 (([] : List Int) ++ x2) A1 cp1 t2 et2 _ _) fun ch2 m le1 a w S => s_move S rfl rfl fun a S => s_extract S rfl rfl rfl rfl fun a S => s_extract S rfl rfl rfl rfl fun a S => s_assign S rfl rfl fun a S => s_assign S rfl rfl fun a S => c_end (c_region (s_move S rfl rfl fun a S => s_move S rfl rfl fun a S => bindX h3 fun t3 et3 h4 => s_callP S _ N21 rfl rfl (fb0_.ok k x1 x2 ch_1_0 ch_1_1 t3 et3 _ _) fun ch3 m le1 a w S => s_move S rfl rfl fun a S => s_extract S rfl rfl rfl rfl fun a S => s_extract S rfl rfl rfl rfl fun a S => s_assign S rfl rfl fun a S => s_assign S rfl rfl fun a S => c_end (wp_seq (wp_seq_k fun K2 hK2 => ?_))))
   have j2 : ∀ m A2 cp2 y2 a w, St 73 m b0 [(6, (.q Y56 A2 cp2 t2.1)), (55, (.b y2)), (7, (.i t2.2)), (0, (.v (.string x1))), (1, (.q yb ch_1_0 ch_1_1 x2))] [] a w → fa3_.j2 k x1 x2 t2 y2 = some r → K2 a w := by
    intro m A2 cp2 y2 a w S h0
    delta fa3_.j2 at h0
    refine hK2 a w ?_
    rcases ite_of h0 with ⟨c3, h1⟩ | ⟨c3, h1⟩
    ·refine c_condT S rfl c3 (c_region (s_assign S rfl rfl fun a S => c_end (wp_ret (x_thenR ?_))))
     obtain rfl := Option.some.inj h1
     exact b_ret1 (d := (.b false)) S rfl rfl (S.rt hb)
    ·refine c_condF S rfl c3 (wp_skip (x_thenN (wp_seq (c_region (s_move S rfl rfl fun a S => s_bin S rfl rfl rfl rfl fun a S => c_end ?_)))))
     rcases ite_of h1 with ⟨c4, h2⟩ | ⟨c4, h2⟩
     ·refine c_condT S rfl c4 (c_region (s_assign S rfl rfl fun a S => c_end (wp_ret (x_thenR ?_))))
      obtain rfl := Option.some.inj h2
      exact b_ret1 (d := (.b true)) S rfl rfl (S.rt hb)
     ·refine c_condF S rfl c4 (wp_skip (x_thenN (c_region (s_move S rfl rfl fun a S => s_move S rfl rfl fun a S => bindX h2 fun t6 et6 h3 => s_callP S _ N17 rfl rfl (ff0_.ok k x1 t2.1 A2 cp2 t6 et6 _ _) fun ch4 m le1 a w S => s_move S rfl rfl fun a S => s_extract S rfl rfl rfl rfl fun a S => s_extract S rfl rfl rfl rfl fun a S => s_assign S rfl rfl fun a S => s_assign S rfl rfl fun a S => c_end (c_region (s_move S rfl rfl fun a S => s_bin S rfl rfl rfl rfl fun a S => s_move S rfl rfl fun a S => ?_))))))
      rcases ite_of h3 with ⟨c5, h4⟩ | ⟨c5, h4⟩
      ·refine s_gT S (b := (t6.2 == 0)) rfl rfl c5 (s_move S rfl rfl fun a S => s_gT S (b := (t6.2 == 0)) rfl rfl c5 (s_strS S rfl rfl underlying26 underlying5 underlying9 rfl fun a S => s_gT S (b := (t6.2 == 0)) rfl rfl c5 (s_move S rfl rfl fun a S => s_gT S (b := (t6.2 == 0)) rfl rfl c5 (s_strS S rfl rfl underlying26 underlying5 underlying9 rfl fun a S => s_gT S (b := (t6.2 == 0)) rfl rfl c5 (s_eqT S rfl rfl rfl fun a S => s_pick S (b := true) (hc_of rfl c5) rfl rfl fun a S => s_assign S rfl rfl fun a S => c_end (wp_ret ?_))))))
       obtain rfl := Option.some.inj h4
       exact b_ret1 (d := (.b ((bstr t6.1).toList == (bstr x2).toList))) S rfl rfl (S.rt hb)
      ·refine s_gF S (b := (t6.2 == 0)) rfl rfl c5 rfl fun a S => s_gF S (b := (t6.2 == 0)) rfl rfl c5 rfl fun a S => s_gF S (b := (t6.2 == 0)) rfl rfl c5 rfl fun a S => s_gF S (b := (t6.2 == 0)) rfl rfl c5 rfl fun a S => s_gF S (b := (t6.2 == 0)) rfl rfl c5 rfl fun a S => s_pick S (b := false) (hc_of rfl c5) rfl rfl fun a S => s_assign S rfl rfl fun a S => c_end (wp_ret ?_)
       obtain rfl := Option.some.inj h4
       exact b_ret1 (d := (.b false)) S rfl rfl (S.rt hb)
   refine c_region' (bindX h4 fun t7 et7 h5 => s_callP S _ N7 rfl rfl (fc4_.ok k t7 et7 _ _ (G.mono (S.leB hb))) fun ch5 m le1 a w S => s_not S rfl rfl fun a S => s_move S rfl rfl fun a S => ?_)
   rcases ite_of h5 with ⟨c6, h6⟩ | ⟨c6, h6⟩
   ·refine s_gF S (b := (!t7)) rfl rfl c6 rfl fun a S => s_gF S (b := (!t7)) rfl rfl c6 rfl fun a S => s_gF S (b := (!t7)) rfl rfl c6 rfl fun a S => s_gF S (b := (!t7)) rfl rfl c6 rfl fun a S => s_pick S (b := true) (hc_of rfl c6) rfl rfl fun a S => s_move S rfl rfl fun a S => s_gF S (b := true) rfl rfl rfl rfl fun a S => s_gF S (b := true) rfl rfl rfl rfl fun a S => s_gF S (b := true) rfl rfl rfl rfl fun a S => s_pick S (b := true) (hc_of rfl rfl) rfl rfl fun a S => s_move S rfl rfl fun a S => s_gF S (b := true) rfl rfl rfl rfl fun a S => s_gF S (b := true) rfl rfl rfl rfl fun a S => s_gF S (b := true) rfl rfl rfl rfl fun a S => s_gF S (b := true) rfl rfl rfl rfl fun a S => s_gF S (b := true) rfl rfl rfl rfl fun a S => s_pick S (b := true) (hc_of rfl rfl) rfl rfl fun a S => c_end' (x_thenN ?_)
    replace S := S.rowfro .h
    obtain ⟨m, le1, S, hro⟩ := S
    replace S := S.slotro (u := 6) rfl hro
    replace S := S.slotro (u := 28) rfl hro
    exact j2 _ ch2.1 ch2.2.2 true a w (S.sb rfl .nil) h6
   ·refine s_gT S (b := (!t7)) rfl rfl c6 (s_move S rfl rfl fun a S => s_gT S (b := (!t7)) rfl rfl c6 (s_move S rfl rfl fun a S => s_gT S (b := (!t7)) rfl rfl c6 ?_))
    replace S := S.rowfro .h
    obtain ⟨m, le1, S, hro⟩ := S
    replace S := S.slotro (u := 39) rfl hro
    replace S := S.slotro (u := 6) rfl hro
    replace S := S.slotro (u := 28) rfl hro
    refine bindX h6 fun t8 et8 h7 => s_callP S _ N20 rfl rfl (fc6_.ok k t2.1 t3.1 ch2.1 ch2.2.2 ch3.1 ch3.2 t8 et8 _ _) fun ch6 m le1 a w S => s_gT S (b := (!t7)) rfl rfl c6 (s_not S rfl rfl fun a S => s_pick S (b := false) (hc_of rfl c6) rfl rfl fun a S => s_move S rfl rfl fun a S => ?_)
    rcases ite_of h7 with ⟨c7, h8⟩ | ⟨c7, h8⟩
    ·refine s_gF S (b := (!t8)) rfl rfl c7 rfl fun a S => s_gF S (b := (!t8)) rfl rfl c7 rfl fun a S => s_gF S (b := (!t8)) rfl rfl c7 rfl fun a S => s_pick S (b := true) (hc_of rfl c7) rfl rfl fun a S => s_move S rfl rfl fun a S => s_gF S (b := true) rfl rfl rfl rfl fun a S => s_gF S (b := true) rfl rfl rfl rfl fun a S => s_gF S (b := true) rfl rfl rfl rfl fun a S => s_gF S (b := true) rfl rfl rfl rfl fun a S => s_gF S (b := true) rfl rfl rfl rfl fun a S => s_pick S (b := true) (hc_of rfl rfl) rfl rfl fun a S => c_end' (x_thenN ?_)
     exact j2 _ ch2.1 ch2.2.2 true a w (S.sb rfl .nil) h8
    ·refine s_gT S (b := (!t8)) rfl rfl c7 (s_move S rfl rfl fun a S => s_gT S (b := (!t8)) rfl rfl c7 (s_move S rfl rfl fun a S => s_gT S (b := (!t8)) rfl rfl c7 (s_bin S rfl rfl rfl rfl fun a S => s_pick S (b := false) (hc_of rfl c7) rfl rfl fun a S => s_move S rfl rfl fun a S => ?_)))
     rcases ite_of h8 with ⟨c8, h9⟩ | ⟨c8, h9⟩
     ·refine s_gF S (b := (t2.2 != t3.2)) rfl rfl c8 rfl fun a S => s_gF S (b := (t2.2 != t3.2)) rfl rfl c8 rfl fun a S => s_gF S (b := (t2.2 != t3.2)) rfl rfl c8 rfl fun a S => s_gF S (b := (t2.2 != t3.2)) rfl rfl c8 rfl fun a S => s_gF S (b := (t2.2 != t3.2)) rfl rfl c8 rfl fun a S => s_pick S (b := true) (hc_of rfl c8) rfl rfl fun a S => c_end' (x_thenN ?_)
      exact j2 _ ch2.1 ch2.2.2 true a w (S.sb rfl .nil) h9
     ·refine s_gT S (b := (t2.2 != t3.2)) rfl rfl c8 (s_move S rfl rfl fun a S => s_gT S (b := (t2.2 != t3.2)) rfl rfl c8 (s_strS S rfl rfl underlying26 underlying5 underlying9 rfl fun a S => s_gT S (b := (t2.2 != t3.2)) rfl rfl c8 (s_move S rfl rfl fun a S => s_gT S (b := (t2.2 != t3.2)) rfl rfl c8 (s_strS S rfl rfl underlying26 underlying5 underlying9 rfl fun a S => s_gT S (b := (t2.2 != t3.2)) rfl rfl c8 (s_neT S rfl rfl rfl fun a S => s_pick S (b := false) (hc_of rfl c8) rfl rfl fun a S => c_end' (x_thenN ?_))))))
      exact j2 _ ch2.1 ch2.2.2 (!((bstr (([] : List Int) ++ x2)).toList == (bstr x2).toList)) a w (S.sb rfl .nil) h9
 refine c_region' (s_move S rfl rfl fun a S => s_lenT S rfl underlying9 rfl fun a S => s_bin S rfl rfl rfl rfl fun a S => s_move S rfl rfl fun a S => ?_)
 rcases ite_of h0 with ⟨c9, h1⟩ | ⟨c9, h1⟩
 ·refine s_gF S (b := (decide (600 < (x1.size : Int)))) rfl rfl c9 rfl fun a S => s_gF S (b := (decide (600 < (x1.size : Int)))) rfl rfl c9 rfl fun a S => s_gF S (b := (decide (600 < (x1.size : Int)))) rfl rfl c9 rfl fun a S => s_pick S (b := true) (hc_of rfl c9) rfl rfl fun a S => c_end' (x_thenN ?_)
  exact j1 _ true a w0 (S.sb rfl .nil) h1
 ·refine s_gT S (b := (decide (600 < (x1.size : Int)))) rfl rfl c9 (s_move S rfl rfl fun a S => s_gT S (b := (decide (600 < (x1.size : Int)))) rfl rfl c9 (s_lenS S rfl underlying26 rfl fun a S => s_gT S (b := (decide (600 < (x1.size : Int)))) rfl rfl c9 (s_bin S rfl rfl rfl rfl fun a S => s_pick S (b := false) (hc_of rfl c9) rfl rfl fun a S => c_end' (x_thenN ?_))))
  exact j1 _ (decide (1500 < ((x2).length : Int))) a w0 (S.sb rfl .nil) h1
end
end GW
