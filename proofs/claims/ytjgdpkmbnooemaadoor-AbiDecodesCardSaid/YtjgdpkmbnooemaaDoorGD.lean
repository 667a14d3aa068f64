import Derived.Test.YtjgdpkmbnooemaaDoorProg
import Derived.Test.YtjgdpkmbnooemaaDoorGC
set_option linter.unusedVariables false
set_option linter.unusedSimpArgs false
set_option maxRecDepth 10000
set_option maxHeartbeats 4000000
namespace GW
open Go Go.RowKit Go.Proofs Go.Proofs.Tryd
noncomputable section
abbrev fd3_.Ty : Type := ByteArray → Int → Option (ST32 × Int × Bool)
def fd3_.Ctr (s : fd3_.Ty) : Prop := ∀ (x1 : ByteArray) (x2 : Int) (r : ST32 × Int × Bool), Ct (C := ((Unit × Unit × (Option Addr × Nat)))) Tryd.prog 24 (s x1 x2 = some r) [] [(.v (.string x1)), (.i x2)] (fun ch => (.tup [(true, [.i ((ST32.un r.1).1), .i ((ST32.un r.1).2.1), .sl ch.2.2.1 ((ST32.un r.1).2.2).length ch.2.2.2 (SR32 ch.2.2.1 ((ST32.un r.1).2.2))]), (false, [.i r.2.1]), (false, [.b r.2.2])])) fun _ => []
abbrev fb3_.Ty : Type := ByteArray → Int → Option (ST32 × Int × Bool)
def fb3_.Ctr (s : fb3_.Ty) : Prop := ∀ (x1 : ByteArray) (x2 : Int) (r : ST32 × Int × Bool), Ct (C := ((Unit × Unit × (Option Addr × Nat)))) Tryd.prog 40 (s x1 x2 = some r) [] [(.v (.string x1)), (.i x2)] (fun ch => (.tup [(true, [.i ((ST32.un r.1).1), .i ((ST32.un r.1).2.1), .sl ch.2.2.1 ((ST32.un r.1).2.2).length ch.2.2.2 (SR32 ch.2.2.1 ((ST32.un r.1).2.2))]), (false, [.i r.2.1]), (false, [.b r.2.2])])) fun _ => []
def fd3_.j1 (t1 : ST32 × Int × Bool) (y1 : Int) (y2 : Int) (y3 : Int) (y4 : List ST32) : Option (ST32 × Int × Bool) := some ((ST32.mk (y2, y3, y4)), y1, t1.2.2)
def fd3_.j5 (rec1 : Int → Int → Int → (List ST32) → Option (ST32 × Int × Bool)) (y51 : Int) (y54 : Int) (y55 : Int) (y56 : List ST32) : Option (ST32 × Int × Bool) := rec1 (wr .i64 (y51 + 1)) y54 y55 y56
def fd3_.j6 (y39 : Int) (y40 : Int) (y41 : List ST32) (rec1 : Int → Int → Int → (List ST32) → Option (ST32 × Int × Bool)) (y50 : Int) (y51 : Int) (y57 : Bool) : Option (ST32 × Int × Bool) := if y57 = true then (fd3_.j5 rec1 y51 5 y50 [(ST32.mk (y39, y40, y41))]) else (some ((ST32.mk (0, 0, ([] : List ST32))), 0, false))
def fd3_.j4 (x1 : ByteArray) (y38 : Int) (y39 : Int) (y40 : Int) (y41 : List ST32) (rec1 : Int → Int → Int → (List ST32) → Option (ST32 × Int × Bool)) (y50 : Int) (y51 : Int) (y52 : Bool) : Option (ST32 × Int × Bool) := if y52 = true then (some ((ST32.mk (0, 0, ([] : List ST32))), 0, false)) else (if (y51 == (wr .i64 (y38 + 1))) = true then (fd3_.j5 rec1 y51 4 0 [(ST32.mk (y39, y40, y41))]) else (if (decide (1 ≤ y50)) = true then (if (decide (y50 ≤ 64)) = true then (if (0 : Int) ≤ (wr .i64 (y38 + 1)) ∧ (wr .i64 (y38 + 1)) < (x1.size : Int) then (fd3_.j6 y39 y40 y41 rec1 y50 y51 ((bt x1 (wr .i64 (y38 + 1))) != 48)) else none) else (fd3_.j6 y39 y40 y41 rec1 y50 y51 false)) else (fd3_.j6 y39 y40 y41 rec1 y50 y51 false)))
def fd3_.j3 (x1 : ByteArray) (y38 : Int) (y39 : Int) (y40 : Int) (y41 : List ST32) (rec1 : Int → Int → Int → (List ST32) → Option (ST32 × Int × Bool)) (y50 : Int) (y51 : Int) : Option (ST32 × Int × Bool) := if (decide ((x1.size : Int) ≤ y51)) = true then (fd3_.j4 x1 y38 y39 y40 y41 rec1 y50 y51 true) else (if (0 : Int) ≤ y51 ∧ y51 < (x1.size : Int) then (fd3_.j4 x1 y38 y39 y40 y41 rec1 y50 y51 ((bt x1 y51) != 93)) else none)
def fd3_.j7 (x1 : ByteArray) (y38 : Int) (y39 : Int) (y40 : Int) (y41 : List ST32) (rec1 : Int → Int → Int → (List ST32) → Option (ST32 × Int × Bool)) (y62 : Int) (y63 : Int) (rec2 : Int → Int → Option (ST32 × Int × Bool)) (y64 : Bool) : Option (ST32 × Int × Bool) := if y64 = true then (if (0 : Int) ≤ y63 ∧ y63 < (x1.size : Int) then (rec2 (wr .i64 ((wr .i64 ((wr .i64 (10 * y62)) + (wr .i64 (bt x1 y63)))) - 48)) (wr .i64 (y63 + 1))) else none) else (fd3_.j3 x1 y38 y39 y40 y41 rec1 y62 y63)
def fd3_.b2 (x1 : ByteArray) (y38 : Int) (y39 : Int) (y40 : Int) (y41 : List ST32) (rec1 : Int → Int → Int → (List ST32) → Option (ST32 × Int × Bool)) (rec2 : Int → Int → Option (ST32 × Int × Bool)) (y62 : Int) (y63 : Int) : Option (ST32 × Int × Bool) := if (decide (y63 < (x1.size : Int))) = true then (if (0 : Int) ≤ y63 ∧ y63 < (x1.size : Int) then (if (decide (48 ≤ (bt x1 y63))) = true then (if (decide ((bt x1 y63) ≤ 57)) = true then (fd3_.j7 x1 y38 y39 y40 y41 rec1 y62 y63 rec2 (decide ((wr .i64 (y63 - y38)) < 4))) else (fd3_.j7 x1 y38 y39 y40 y41 rec1 y62 y63 rec2 false)) else (fd3_.j7 x1 y38 y39 y40 y41 rec1 y62 y63 rec2 false)) else none) else (fd3_.j7 x1 y38 y39 y40 y41 rec1 y62 y63 rec2 false)
def fd3_.l2 (x1 : ByteArray) (y38 : Int) (y39 : Int) (y40 : Int) (y41 : List ST32) (rec1 : Int → Int → Int → (List ST32) → Option (ST32 × Int × Bool)) : Nat → Int → Int → Option (ST32 × Int × Bool)
  | 0, _, _ => none
  | q + 1, y62, y63 => fd3_.b2 x1 y38 y39 y40 y41 rec1 (fd3_.l2 x1 y38 y39 y40 y41 rec1 q) y62 y63
def fd3_.j2 (k : Nat) (x1 : ByteArray) (t1 : ST32 × Int × Bool) (y38 : Int) (y39 : Int) (y40 : Int) (y41 : List ST32) (rec1 : Int → Int → Int → (List ST32) → Option (ST32 × Int × Bool)) (y42 : Bool) : Option (ST32 × Int × Bool) := if y42 = true then (fd3_.l2 x1 y38 y39 y40 y41 rec1 k 0 (wr .i64 (y38 + 1))) else (fd3_.j1 t1 y38 y39 y40 y41)
def fd3_.b1 (k : Nat) (x1 : ByteArray) (t1 : ST32 × Int × Bool) (rec1 : Int → Int → Int → (List ST32) → Option (ST32 × Int × Bool)) (y38 : Int) (y39 : Int) (y40 : Int) (y41 : List ST32) : Option (ST32 × Int × Bool) := if t1.2.2 = true then (if (decide (y38 < (x1.size : Int))) = true then (if (0 : Int) ≤ y38 ∧ y38 < (x1.size : Int) then (fd3_.j2 k x1 t1 y38 y39 y40 y41 rec1 ((bt x1 y38) == 91)) else none) else (fd3_.j2 k x1 t1 y38 y39 y40 y41 rec1 false)) else (fd3_.j2 k x1 t1 y38 y39 y40 y41 rec1 false)
def fd3_.l1 (k : Nat) (x1 : ByteArray) (t1 : ST32 × Int × Bool) : Nat → Int → Int → Int → (List ST32) → Option (ST32 × Int × Bool)
  | 0, _, _, _, _ => none
  | q + 1, y38, y39, y40, y41 => fd3_.b1 k x1 t1 (fd3_.l1 k x1 t1 q) y38 y39 y40 y41
def fd3_.body (self0 : fd3_.Ty) (self1 : fb3_.Ty) (k : Nat) (x1 : ByteArray) (x2 : Int) : Option (ST32 × Int × Bool) := (self1 x1 x2).bind fun t1 => (fd3_.l1 k x1 t1 k t1.2.1 ((ST32.un t1.1).1) ((ST32.un t1.1).2.1) ((ST32.un t1.1).2.2))
theorem fd3_.okb (self0 : fd3_.Ty) (self1 : fb3_.Ty) (c_0 : fd3_.Ctr self0) (c_1 : fb3_.Ctr self1) (k : Nat) : fd3_.Ctr (fd3_.body self0 self1 k) := by
 intro x1 x2 r h0 mi w0 ok hm
 delta fd3_.body at h0
 refine c_enterZ (n := 107) ok hm func24 rfl rfl rfl fun b0 hb a S => c_region (s_alloc S Z32 rfl ⟨rfl, rfl, rfl, trivial⟩ rfl fun g1 a w S => s_assign S rfl rfl fun a S => s_assign S rfl rfl fun a S => c_end (c_region (s_move S rfl rfl fun a S => s_move S rfl rfl fun a S => bindX h0 fun t1 et1 h1 => s_callP S _ N40 rfl rfl (c_1 x1 x2 t1 et1 _ _) fun ch1 m le1 a w S => s_move S rfl rfl fun a S => s_extract S rfl rfl rfl rfl fun a S => s_extract S rfl rfl rfl rfl fun a S => s_extract S rfl rfl rfl rfl fun a S => s_alloc S Z32 rfl ⟨rfl, rfl, rfl, trivial⟩ rfl fun g2 a w S => s_store S rfl rfl rfl (s' := [.i ((ST32.un t1.1).1), .i ((ST32.un t1.1).2.1), .sl ch1.2.2.1 ((ST32.un t1.1).2.2).length ch1.2.2.2 (SR32 ch1.2.2.1 ((ST32.un t1.1).2.2))]) .h T32 rfl rfl fun w S => s_assign S rfl rfl fun a S => s_assign S rfl rfl fun a S => c_end (wp_seq_k fun K1 hK1 => ?_))))
 have j1 : ∀ m y1 g59 g60 y2 y3 A1 cp1 y4 a w, St 107 m b0 [(9, (.b t1.2.2)), (8, (.i y1)), (7, (.p g59)), (4, (.p g60))] [Res.cells g59 32 [.i y2, .i y3, .sl A1 (y4).length cp1 (SR32 A1 y4)], Res.cells g60 32 [.i 0, .i 0, .s none 0 0]] a w → fd3_.j1 t1 y1 y2 y3 y4 = some r → K1 a w := by
  intro m y1 g59 g60 y2 y3 A1 cp1 y4 a w S h0
  delta fd3_.j1 at h0
  refine hK1 a w (c_region (s_loada S rfl .h T32 (s' := [.i y2, .i y3, .sl A1 (y4).length cp1 (SR32 A1 y4)]) rfl rfl fun a S => s_move S rfl rfl fun a S => s_move S rfl rfl fun a S => s_store S rfl rfl rfl (s' := [.i y2, .i y3, .sl A1 (y4).length cp1 (SR32 A1 y4)]) .h1 T32 rfl rfl fun w S => s_assign S rfl rfl fun a S => s_assign S rfl rfl fun a S => c_end (wp_ret ?_)))
  obtain rfl := Option.some.inj h0
  exact b_retN S [(.agg [.i y2, .i y3, .sl A1 (y4).length cp1 (SR32 A1 y4)]), (.i y1), (.b t1.2.2)] rfl rfl ⟨(resD_cell rfl .h1 T32 rfl rfl), rfl, rfl, trivial⟩ fun ⟨ok1, ok2, ok3, _⟩ => S.retX (Hx := []) hb _ _ (((), (), (A1, cp1)) : (Unit × Unit × (Option Addr × Nat))) .nil ⟨ok1, ⟨ok2, trivial⟩, ⟨ok3, trivial⟩, trivial⟩
 refine wp_block ?_
 refine c_loop (fun q1 a w => ∃ m y38 g113 g114 y39 y40 A2 cp2 y41, St 107 m b0 [(9, (.b t1.2.2)), (8, (.i y38)), (7, (.p g113)), (4, (.p g114)), (0, (.v (.string x1)))] [Res.cells g113 32 [.i y39, .i y40, .sl A2 (y41).length cp2 (SR32 A2 y41)], Res.cells g114 32 [.i 0, .i 0, .s none 0 0]] a w ∧ fd3_.l1 k x1 t1 q1 y38 y39 y40 y41 = some r) ?_ ?_ (k := k) ⟨_, t1.2.1, g2, g1, ((ST32.un t1.1).1), ((ST32.un t1.1).2.1), ch1.2.2.1, ch1.2.2.2, ((ST32.un t1.1).2.2), (S.sb rfl (.c0 (.c0 .n))), h1⟩
 ·rintro a w ⟨m, y38, g113, g114, y39, y40, A2, cp2, y41, S, h0⟩
  exact (nomatch (show (none : Option (ST32 × Int × Bool)) = some r from h0))
 ·clear S h1
  rintro q1 a w ⟨m, y38, g113, g114, y39, y40, A2, cp2, y41, S, h0⟩
  replace h0 : fd3_.b1 k x1 t1 (fd3_.l1 k x1 t1 q1) y38 y39 y40 y41 = some r := h0
  delta fd3_.b1 at h0
  refine wp_seq (wp_seq_k fun K2 hK2 => ?_)
  have j2 : ∀ m y42 g115 g116 a w, St 107 m b0 [(31, (.b y42)), (9, (.b t1.2.2)), (8, (.i y38)), (7, (.p g115)), (4, (.p g116)), (0, (.v (.string x1)))] [Res.cells g115 32 [.i y39, .i y40, .sl A2 (y41).length cp2 (SR32 A2 y41)], Res.cells g116 32 [.i 0, .i 0, .s none 0 0]] a w → fd3_.j2 k x1 t1 y38 y39 y40 y41 (fd3_.l1 k x1 t1 q1) y42 = some r → K2 a w := by
   intro m y42 g115 g116 a w S h0
   delta fd3_.j2 at h0
   refine hK2 a w ?_
   rcases ite_of h0 with ⟨c1, h1⟩ | ⟨c1, h1⟩
   ·refine c_condT S rfl c1 (wp_skip (x_thenN (wp_block (c_region (s_move S rfl rfl fun a S => s_bin S rfl rfl rfl rfl fun a S => s_assign S rfl rfl fun a S => c_end (c_region (s_assign S rfl rfl fun a S => c_end (wp_seq_k fun K3 hK3 => ?_))))))))
    have j3 : ∀ m y50 y51 g129 g130 a w, St 107 m b0 [(11, (.i y50)), (10, (.i y51)), (9, (.b t1.2.2)), (8, (.i y38)), (7, (.p g129)), (4, (.p g130)), (0, (.v (.string x1)))] [Res.cells g129 32 [.i y39, .i y40, .sl A2 (y41).length cp2 (SR32 A2 y41)], Res.cells g130 32 [.i 0, .i 0, .s none 0 0]] a w → fd3_.j3 x1 y38 y39 y40 y41 (fd3_.l1 k x1 t1 q1) y50 y51 = some r → K3 a w := by
     intro m y50 y51 g129 g130 a w S h0
     delta fd3_.j3 at h0
     refine hK3 a w (wp_seq (wp_seq_k fun K4 hK4 => ?_))
     have j4 : ∀ m y52 g131 g132 a w, St 107 m b0 [(75, (.b y52)), (11, (.i y50)), (10, (.i y51)), (9, (.b t1.2.2)), (8, (.i y38)), (7, (.p g131)), (4, (.p g132)), (0, (.v (.string x1)))] [Res.cells g131 32 [.i y39, .i y40, .sl A2 (y41).length cp2 (SR32 A2 y41)], Res.cells g132 32 [.i 0, .i 0, .s none 0 0]] a w → fd3_.j4 x1 y38 y39 y40 y41 (fd3_.l1 k x1 t1 q1) y50 y51 y52 = some r → K4 a w := by
      intro m y52 g131 g132 a w S h0
      delta fd3_.j4 at h0
      refine hK4 a w ?_
      rcases ite_of h0 with ⟨c2, h1⟩ | ⟨c2, h1⟩
      ·refine c_condT S rfl c2 (c_region (s_bldS S (ds := []) (zs := [.i 0, .i 0, .s none 0 0]) (s' := [.i 0, .i 0, .s none 0 0]) rfl underlying32 P32 Z32 ⟨rfl, rfl, rfl, trivial⟩ rfl rfl fun a S => s_store S rfl rfl rfl (s' := [.i 0, .i 0, .s none 0 0]) .h1 T32 rfl rfl fun w S => s_assign S rfl rfl fun a S => s_assign S rfl rfl fun a S => c_end (wp_ret (x_thenR (x_blockR (x_thenR (x_blockR (x_thenR ?_))))))))
       replace S := S.cellro (s' := [.i 0, .i 0, .sl none (([] : List ST32)).length 0 (SR32 none ([] : List ST32))]) .h1 rfl (fun h => ⟨h.1, h.2.1, SN32, trivial⟩)
       obtain rfl := Option.some.inj h1
       exact b_retN S [(.agg [.i 0, .i 0, .sl none (([] : List ST32)).length 0 (SR32 none ([] : List ST32))]), (.i 0), (.b false)] rfl rfl ⟨(resD_cell rfl .h1 T32 rfl rfl), rfl, rfl, trivial⟩ fun ⟨ok1, ok2, ok3, _⟩ => S.retX (Hx := []) hb _ _ (((), (), (none, 0)) : (Unit × Unit × (Option Addr × Nat))) .nil ⟨ok1, ⟨ok2, trivial⟩, ⟨ok3, trivial⟩, trivial⟩
      ·refine c_condF S rfl c2 (wp_skip (x_thenN (wp_seq_k fun K5 hK5 => ?_)))
       have j5 : ∀ m g137 g138 y54 y55 A3 y56 a w, St 107 m b0 [(10, (.i y51)), (9, (.b t1.2.2)), (7, (.p g137)), (4, (.p g138)), (0, (.v (.string x1)))] [Res.row SY32 32 A3 1 1 y56, Res.cells g137 32 [.i y54, .i y55, .s A3 1 1], Res.cells g138 32 [.i 0, .i 0, .s none 0 0]] a w → fd3_.j5 (fd3_.l1 k x1 t1 q1) y51 y54 y55 y56 = some r → K5 a w := by
        intro m g137 g138 y54 y55 A3 y56 a w S h0
        delta fd3_.j5 at h0
        refine hK5 a w (c_region' (s_move S rfl rfl fun a S => s_bin S rfl rfl rfl rfl fun a S => s_assign S rfl rfl fun a S => c_end' (x_blockN (x_thenN ?_))))
        replace S := S.rowfro .h
        obtain ⟨m, le1, S, hro⟩ := S
        rw [← SE32] at hro
        replace S := S.cellro (s' := [.i y54, .i y55, .sl A3 (y56).length 1 (SR32 A3 y56)]) .h (by simp [cellsOf, Seg.cells, hro.2.1]) (fun h => ⟨h.1, h.2.1, ⟨by have := hro.2.2.1; omega, hro.2.2.2, hro.1, SM32 _ _⟩, trivial⟩)
        exact ⟨_, (wr .i64 (y51 + 1)), g137, g138, y54, y55, A3, 1, y56, (S.sb rfl (.c0 (.c0 .n))), h0⟩
       refine c_region (s_move S rfl rfl fun a S => s_move S rfl rfl fun a S => s_bin S rfl rfl rfl rfl fun a S => s_bin S rfl rfl rfl rfl fun a S => c_end ?_)
       rcases ite_of h1 with ⟨c3, h2⟩ | ⟨c3, h2⟩
       ·refine c_condT S rfl c3 (c_region' (s_loada S rfl .h T32 (s' := [.i y39, .i y40, .sl A2 (y41).length cp2 (SR32 A2 y41)]) rfl rfl fun a S => s_bldSl S (ty' := SY32) (ds := [(0, (.agg [.i y39, .i y40, .sl A2 (y41).length cp2 (SR32 A2 y41)]))]) (z := (ST32.mk (0, 0, ([] : List ST32)))) (c0 := ((), (), (none, 0))) (ys := [(ST32.mk (y39, y40, y41))]) (cs := [((), (), (A2, cp2))]) rfl underlying30 J32 Z32 rfl ⟨rfl, rfl, ⟨Nat.le_refl _, Nat.zero_le _, (SE32 _ _ ▸ RdS.nil _ _ _), SM32 _ _⟩, trivial⟩ rfl rfl rfl rfl rfl rfl fun g139 a w S => s_bldS S (ds := [(0, (.i 4)), (2, (.s (ad g139) 1 1))]) (zs := [.i 0, .i 0, .s none 0 0]) (s' := [.i 4, .i 0, .s (ad g139) 1 1]) rfl underlying32 P32 Z32 ⟨rfl, rfl, rfl, trivial⟩ rfl rfl fun a S => s_store S rfl rfl rfl (s' := [.i 4, .i 0, .s (ad g139) 1 1]) .h1 T32 rfl rfl fun w S => c_end' (x_thenN ?_)))
        exact j5 _ g131 g132 4 0 (ad g139) [(ST32.mk (y39, y40, y41))] a w (S.sb rfl (.c0 (.c0 (.c0 .n)))) h2
       ·refine c_condF S rfl c3 (wp_seq_k fun K6 hK6 => ?_)
        have j6 : ∀ m y57 g140 g141 a w, St 107 m b0 [(96, (.b y57)), (11, (.i y50)), (10, (.i y51)), (9, (.b t1.2.2)), (7, (.p g140)), (4, (.p g141)), (0, (.v (.string x1)))] [Res.cells g140 32 [.i y39, .i y40, .sl A2 (y41).length cp2 (SR32 A2 y41)], Res.cells g141 32 [.i 0, .i 0, .s none 0 0]] a w → fd3_.j6 y39 y40 y41 (fd3_.l1 k x1 t1 q1) y50 y51 y57 = some r → K6 a w := by
         intro m y57 g140 g141 a w S h0
         delta fd3_.j6 at h0
         refine hK6 a w ?_
         rcases ite_of h0 with ⟨c4, h1⟩ | ⟨c4, h1⟩
         ·refine c_condT S rfl c4 (c_region' (s_move S rfl rfl fun a S => s_loada S rfl .h T32 (s' := [.i y39, .i y40, .sl A2 (y41).length cp2 (SR32 A2 y41)]) rfl rfl fun a S => s_bldSl S (ty' := SY32) (ds := [(0, (.agg [.i y39, .i y40, .sl A2 (y41).length cp2 (SR32 A2 y41)]))]) (z := (ST32.mk (0, 0, ([] : List ST32)))) (c0 := ((), (), (none, 0))) (ys := [(ST32.mk (y39, y40, y41))]) (cs := [((), (), (A2, cp2))]) rfl underlying30 J32 Z32 rfl ⟨rfl, rfl, ⟨Nat.le_refl _, Nat.zero_le _, (SE32 _ _ ▸ RdS.nil _ _ _), SM32 _ _⟩, trivial⟩ rfl rfl rfl rfl rfl rfl fun g142 a w S => s_bldS S (ds := [(0, (.i 5)), (1, (.i y50)), (2, (.s (ad g142) 1 1))]) (zs := [.i 0, .i 0, .s none 0 0]) (s' := [.i 5, .i y50, .s (ad g142) 1 1]) rfl underlying32 P32 Z32 ⟨rfl, rfl, rfl, trivial⟩ rfl rfl fun a S => s_store S rfl rfl rfl (s' := [.i 5, .i y50, .s (ad g142) 1 1]) .h1 T32 rfl rfl fun w S => c_end' (x_thenN ?_)))
          exact j5 _ g140 g141 5 y50 (ad g142) [(ST32.mk (y39, y40, y41))] a w (S.sb rfl (.c0 (.c0 (.c0 .n)))) h1
         ·refine c_condF S rfl c4 (c_region (s_bldS S (ds := []) (zs := [.i 0, .i 0, .s none 0 0]) (s' := [.i 0, .i 0, .s none 0 0]) rfl underlying32 P32 Z32 ⟨rfl, rfl, rfl, trivial⟩ rfl rfl fun a S => s_store S rfl rfl rfl (s' := [.i 0, .i 0, .s none 0 0]) .h1 T32 rfl rfl fun w S => s_assign S rfl rfl fun a S => s_assign S rfl rfl fun a S => c_end (wp_ret (x_thenR (x_blockR (x_thenR (x_blockR (x_thenR ?_))))))))
          replace S := S.cellro (s' := [.i 0, .i 0, .sl none (([] : List ST32)).length 0 (SR32 none ([] : List ST32))]) .h1 rfl (fun h => ⟨h.1, h.2.1, SN32, trivial⟩)
          obtain rfl := Option.some.inj h1
          exact b_retN S [(.agg [.i 0, .i 0, .sl none (([] : List ST32)).length 0 (SR32 none ([] : List ST32))]), (.i 0), (.b false)] rfl rfl ⟨(resD_cell rfl .h1 T32 rfl rfl), rfl, rfl, trivial⟩ fun ⟨ok1, ok2, ok3, _⟩ => S.retX (Hx := []) hb _ _ (((), (), (none, 0)) : (Unit × Unit × (Option Addr × Nat))) .nil ⟨ok1, ⟨ok2, trivial⟩, ⟨ok3, trivial⟩, trivial⟩
        refine c_region' (s_move S rfl rfl fun a S => s_bin S rfl rfl rfl rfl fun a S => s_move S rfl rfl fun a S => ?_)
        rcases ite_of h2 with ⟨c5, h3⟩ | ⟨c5, h3⟩
        ·refine s_gT S (b := (decide (1 ≤ y50))) rfl rfl c5 (s_move S rfl rfl fun a S => s_gT S (b := (decide (1 ≤ y50))) rfl rfl c5 (s_bin S rfl rfl rfl rfl fun a S => s_pick S (b := true) (hc_of rfl c5) rfl rfl fun a S => s_move S rfl rfl fun a S => ?_))
         rcases ite_of h3 with ⟨c6, h4⟩ | ⟨c6, h4⟩
         ·refine s_gT S (b := (decide (y50 ≤ 64))) rfl rfl c6 (s_move S rfl rfl fun a S => s_gT S (b := (decide (y50 ≤ 64))) rfl rfl c6 (s_move S rfl rfl fun a S => s_gT S (b := (decide (y50 ≤ 64))) rfl rfl c6 (s_bin S rfl rfl rfl rfl fun a S => s_gT S (b := (decide (y50 ≤ 64))) rfl rfl c6 ?_)))
          obtain ⟨c7, h5⟩ := chk_of h4; clear h4
          refine s_indexT S rfl rfl underlying9 c7.1 c7.2 rfl fun a S => s_gT S (b := (decide (y50 ≤ 64))) rfl rfl c6 (s_bin S rfl rfl rfl rfl fun a S => s_pick S (b := true) (hc_of rfl c6) rfl rfl fun a S => c_end' (x_thenN ?_))
          exact j6 _ ((bt x1 (wr .i64 (y38 + 1))) != 48) g131 g132 a w (S.sb rfl (.c0 (.c0 .n))) h5
         ·refine s_gF S (b := (decide (y50 ≤ 64))) rfl rfl c6 rfl fun a S => s_gF S (b := (decide (y50 ≤ 64))) rfl rfl c6 rfl fun a S => s_gF S (b := (decide (y50 ≤ 64))) rfl rfl c6 rfl fun a S => s_gF S (b := (decide (y50 ≤ 64))) rfl rfl c6 rfl fun a S => s_gF S (b := (decide (y50 ≤ 64))) rfl rfl c6 rfl fun a S => s_pick S (b := false) (hc_of rfl c6) rfl rfl fun a S => c_end' (x_thenN ?_)
          exact j6 _ false g131 g132 a w (S.sb rfl (.c0 (.c0 .n))) h4
        ·refine s_gF S (b := (decide (1 ≤ y50))) rfl rfl c5 rfl fun a S => s_gF S (b := (decide (1 ≤ y50))) rfl rfl c5 rfl fun a S => s_pick S (b := false) (hc_of rfl c5) rfl rfl fun a S => s_move S rfl rfl fun a S => s_gF S (b := false) rfl rfl rfl rfl fun a S => s_gF S (b := false) rfl rfl rfl rfl fun a S => s_gF S (b := false) rfl rfl rfl rfl fun a S => s_gF S (b := false) rfl rfl rfl rfl fun a S => s_gF S (b := false) rfl rfl rfl rfl fun a S => s_pick S (b := false) (hc_of rfl rfl) rfl rfl fun a S => c_end' (x_thenN ?_)
         exact j6 _ false g131 g132 a w (S.sb rfl (.c0 (.c0 .n))) h3
     refine c_region' (s_move S rfl rfl fun a S => s_move S rfl rfl fun a S => s_lenT S rfl underlying9 rfl fun a S => s_bin S rfl rfl rfl rfl fun a S => s_move S rfl rfl fun a S => ?_)
     rcases ite_of h0 with ⟨c8, h1⟩ | ⟨c8, h1⟩
     ·refine s_gF S (b := (decide ((x1.size : Int) ≤ y51))) rfl rfl c8 rfl fun a S => s_gF S (b := (decide ((x1.size : Int) ≤ y51))) rfl rfl c8 rfl fun a S => s_gF S (b := (decide ((x1.size : Int) ≤ y51))) rfl rfl c8 rfl fun a S => s_gF S (b := (decide ((x1.size : Int) ≤ y51))) rfl rfl c8 rfl fun a S => s_pick S (b := true) (hc_of rfl c8) rfl rfl fun a S => c_end' (x_thenN ?_)
      exact j4 _ true g129 g130 a w (S.sb rfl (.c0 (.c0 .n))) h1
     ·refine s_gT S (b := (decide ((x1.size : Int) ≤ y51))) rfl rfl c8 (s_move S rfl rfl fun a S => s_gT S (b := (decide ((x1.size : Int) ≤ y51))) rfl rfl c8 (s_move S rfl rfl fun a S => s_gT S (b := (decide ((x1.size : Int) ≤ y51))) rfl rfl c8 ?_))
      obtain ⟨c9, h2⟩ := chk_of h1; clear h1
      refine s_indexT S rfl rfl underlying9 c9.1 c9.2 rfl fun a S => s_gT S (b := (decide ((x1.size : Int) ≤ y51))) rfl rfl c8 (s_bin S rfl rfl rfl rfl fun a S => s_pick S (b := false) (hc_of rfl c8) rfl rfl fun a S => c_end' (x_thenN ?_))
      exact j4 _ ((bt x1 y51) != 93) g129 g130 a w (S.sb rfl (.c0 (.c0 .n))) h2
    refine wp_block ?_
    refine c_loop (fun q2 a w => ∃ m y62 y63 g151 g152, St 107 m b0 [(11, (.i y62)), (10, (.i y63)), (9, (.b t1.2.2)), (8, (.i y38)), (7, (.p g151)), (4, (.p g152)), (0, (.v (.string x1)))] [Res.cells g151 32 [.i y39, .i y40, .sl A2 (y41).length cp2 (SR32 A2 y41)], Res.cells g152 32 [.i 0, .i 0, .s none 0 0]] a w ∧ fd3_.l2 x1 y38 y39 y40 y41 (fd3_.l1 k x1 t1 q1) q2 y62 y63 = some r) ?_ ?_ (k := k) ⟨_, 0, (wr .i64 (y38 + 1)), g115, g116, (S.sb rfl (.c0 (.c0 .n))), h1⟩
    ·rintro a w ⟨m, y62, y63, g151, g152, S, h0⟩
     exact (nomatch (show (none : Option (ST32 × Int × Bool)) = some r from h0))
    ·clear S h1
     rintro q2 a w ⟨m, y62, y63, g151, g152, S, h0⟩
     replace h0 : fd3_.b2 x1 y38 y39 y40 y41 (fd3_.l1 k x1 t1 q1) (fd3_.l2 x1 y38 y39 y40 y41 (fd3_.l1 k x1 t1 q1) q2) y62 y63 = some r := h0
     delta fd3_.b2 at h0
     refine wp_seq (wp_seq_k fun K7 hK7 => ?_)
     have j7 : ∀ m y64 g153 g154 a w, St 107 m b0 [(55, (.b y64)), (11, (.i y62)), (10, (.i y63)), (9, (.b t1.2.2)), (8, (.i y38)), (7, (.p g153)), (4, (.p g154)), (0, (.v (.string x1)))] [Res.cells g153 32 [.i y39, .i y40, .sl A2 (y41).length cp2 (SR32 A2 y41)], Res.cells g154 32 [.i 0, .i 0, .s none 0 0]] a w → fd3_.j7 x1 y38 y39 y40 y41 (fd3_.l1 k x1 t1 q1) y62 y63 (fd3_.l2 x1 y38 y39 y40 y41 (fd3_.l1 k x1 t1 q1) q2) y64 = some r → K7 a w := by
      intro m y64 g153 g154 a w S h0
      delta fd3_.j7 at h0
      refine hK7 a w ?_
      rcases ite_of h0 with ⟨c10, h1⟩ | ⟨c10, h1⟩
      ·refine c_condT S rfl c10 (wp_skip (x_thenN (wp_block (c_region (s_move S rfl rfl fun a S => s_bin S rfl rfl rfl rfl fun a S => s_move S rfl rfl fun a S => s_move S rfl rfl fun a S => ?_)))))
       obtain ⟨c11, h2⟩ := chk_of h1; clear h1
       refine s_indexT S rfl rfl underlying9 c11.1 c11.2 rfl fun a S => s_conv S rfl rfl underlying3 rfl fun a S => s_bin S rfl rfl rfl rfl fun a S => s_bin S rfl rfl rfl rfl fun a S => s_assign S rfl rfl fun a S => c_end (c_region' (s_move S rfl rfl fun a S => s_bin S rfl rfl rfl rfl fun a S => s_assign S rfl rfl fun a S => c_end' (x_blockN (x_thenN ?_))))
       exact ⟨_, (wr .i64 ((wr .i64 ((wr .i64 (10 * y62)) + (wr .i64 (bt x1 y63)))) - 48)), (wr .i64 (y63 + 1)), g153, g154, (S.sb rfl (.c0 (.c0 .n))), h2⟩
      ·refine c_condF S rfl c10 (wp_exit (x_thenX (x_thenX (x_blockX (x_thenN ?_)))))
       exact j3 _ y62 y63 g153 g154 a w (S.sb rfl (.c0 (.c0 .n))) h1
     refine c_region' (s_move S rfl rfl fun a S => s_move S rfl rfl fun a S => s_lenT S rfl underlying9 rfl fun a S => s_bin S rfl rfl rfl rfl fun a S => s_move S rfl rfl fun a S => ?_)
     rcases ite_of h0 with ⟨c12, h1⟩ | ⟨c12, h1⟩
     ·refine s_gT S (b := (decide (y63 < (x1.size : Int)))) rfl rfl c12 (s_move S rfl rfl fun a S => s_gT S (b := (decide (y63 < (x1.size : Int)))) rfl rfl c12 (s_move S rfl rfl fun a S => s_gT S (b := (decide (y63 < (x1.size : Int)))) rfl rfl c12 ?_))
      obtain ⟨c13, h2⟩ := chk_of h1; clear h1
      refine s_indexT S rfl rfl underlying9 c13.1 c13.2 rfl fun a S => s_gT S (b := (decide (y63 < (x1.size : Int)))) rfl rfl c12 (s_bin S rfl rfl rfl rfl fun a S => s_pick S (b := true) (hc_of rfl c12) rfl rfl fun a S => s_move S rfl rfl fun a S => ?_)
      rcases ite_of h2 with ⟨c14, h3⟩ | ⟨c14, h3⟩
      ·refine s_gT S (b := (decide (48 ≤ (bt x1 y63)))) rfl rfl c14 (s_move S rfl rfl fun a S => s_gT S (b := (decide (48 ≤ (bt x1 y63)))) rfl rfl c14 (s_move S rfl rfl fun a S => s_gT S (b := (decide (48 ≤ (bt x1 y63)))) rfl rfl c14 (s_indexT S rfl rfl underlying9 c13.1 c13.2 rfl fun a S => s_gT S (b := (decide (48 ≤ (bt x1 y63)))) rfl rfl c14 (s_bin S rfl rfl rfl rfl fun a S => s_pick S (b := true) (hc_of rfl c14) rfl rfl fun a S => s_move S rfl rfl fun a S => ?_))))
       rcases ite_of h3 with ⟨c15, h4⟩ | ⟨c15, h4⟩
       ·refine s_gT S (b := (decide ((bt x1 y63) ≤ 57))) rfl rfl c15 (s_move S rfl rfl fun a S => s_gT S (b := (decide ((bt x1 y63) ≤ 57))) rfl rfl c15 (s_move S rfl rfl fun a S => s_gT S (b := (decide ((bt x1 y63) ≤ 57))) rfl rfl c15 (s_bin S rfl rfl rfl rfl fun a S => s_gT S (b := (decide ((bt x1 y63) ≤ 57))) rfl rfl c15 (s_bin S rfl rfl rfl rfl fun a S => s_pick S (b := true) (hc_of rfl c15) rfl rfl fun a S => c_end' (x_thenN ?_)))))
        exact j7 _ (decide ((wr .i64 (y63 - y38)) < 4)) g151 g152 a w (S.sb rfl (.c0 (.c0 .n))) h4
       ·refine s_gF S (b := (decide ((bt x1 y63) ≤ 57))) rfl rfl c15 rfl fun a S => s_gF S (b := (decide ((bt x1 y63) ≤ 57))) rfl rfl c15 rfl fun a S => s_gF S (b := (decide ((bt x1 y63) ≤ 57))) rfl rfl c15 rfl fun a S => s_gF S (b := (decide ((bt x1 y63) ≤ 57))) rfl rfl c15 rfl fun a S => s_pick S (b := false) (hc_of rfl c15) rfl rfl fun a S => c_end' (x_thenN ?_)
        exact j7 _ false g151 g152 a w (S.sb rfl (.c0 (.c0 .n))) h4
      ·refine s_gF S (b := (decide (48 ≤ (bt x1 y63)))) rfl rfl c14 rfl fun a S => s_gF S (b := (decide (48 ≤ (bt x1 y63)))) rfl rfl c14 rfl fun a S => s_gF S (b := (decide (48 ≤ (bt x1 y63)))) rfl rfl c14 rfl fun a S => s_gF S (b := (decide (48 ≤ (bt x1 y63)))) rfl rfl c14 rfl fun a S => s_pick S (b := false) (hc_of rfl c14) rfl rfl fun a S => s_move S rfl rfl fun a S => s_gF S (b := false) rfl rfl rfl rfl fun a S => s_gF S (b := false) rfl rfl rfl rfl fun a S => s_gF S (b := false) rfl rfl rfl rfl fun a S => s_gF S (b := false) rfl rfl rfl rfl fun a S => s_pick S (b := false) (hc_of rfl rfl) rfl rfl fun a S => c_end' (x_thenN ?_)
       exact j7 _ false g151 g152 a w (S.sb rfl (.c0 (.c0 .n))) h3
     ·refine s_gF S (b := (decide (y63 < (x1.size : Int)))) rfl rfl c12 rfl fun a S => s_gF S (b := (decide (y63 < (x1.size : Int)))) rfl rfl c12 rfl fun a S => s_gF S (b := (decide (y63 < (x1.size : Int)))) rfl rfl c12 rfl fun a S => s_gF S (b := (decide (y63 < (x1.size : Int)))) rfl rfl c12 rfl fun a S => s_pick S (b := false) (hc_of rfl c12) rfl rfl fun a S => s_move S rfl rfl fun a S => s_gF S (b := false) rfl rfl rfl rfl fun a S => s_gF S (b := false) rfl rfl rfl rfl fun a S => s_gF S (b := false) rfl rfl rfl rfl fun a S => s_gF S (b := false) rfl rfl rfl rfl fun a S => s_pick S (b := false) (hc_of rfl rfl) rfl rfl fun a S => s_move S rfl rfl fun a S => s_gF S (b := false) rfl rfl rfl rfl fun a S => s_gF S (b := false) rfl rfl rfl rfl fun a S => s_gF S (b := false) rfl rfl rfl rfl fun a S => s_gF S (b := false) rfl rfl rfl rfl fun a S => s_pick S (b := false) (hc_of rfl rfl) rfl rfl fun a S => c_end' (x_thenN ?_)
      exact j7 _ false g151 g152 a w (S.sb rfl (.c0 (.c0 .n))) h1
   ·refine c_condF S rfl c1 (wp_exit (x_thenX (x_thenX (x_blockX (x_thenN ?_)))))
    exact j1 _ y38 g115 g116 y39 y40 A2 cp2 y41 a w (S.sb rfl (.c0 (.c0 .n))) h1
  refine c_region' (s_move S rfl rfl fun a S => s_move S rfl rfl fun a S => ?_)
  rcases ite_of h0 with ⟨c16, h1⟩ | ⟨c16, h1⟩
  ·refine s_gT S (b := t1.2.2) rfl rfl c16 (s_move S rfl rfl fun a S => s_gT S (b := t1.2.2) rfl rfl c16 (s_move S rfl rfl fun a S => s_gT S (b := t1.2.2) rfl rfl c16 (s_lenT S rfl underlying9 rfl fun a S => s_gT S (b := t1.2.2) rfl rfl c16 (s_bin S rfl rfl rfl rfl fun a S => s_pick S (b := true) (hc_of rfl c16) rfl rfl fun a S => s_move S rfl rfl fun a S => ?_))))
   rcases ite_of h1 with ⟨c17, h2⟩ | ⟨c17, h2⟩
   ·refine s_gT S (b := (decide (y38 < (x1.size : Int)))) rfl rfl c17 (s_move S rfl rfl fun a S => s_gT S (b := (decide (y38 < (x1.size : Int)))) rfl rfl c17 (s_move S rfl rfl fun a S => s_gT S (b := (decide (y38 < (x1.size : Int)))) rfl rfl c17 ?_))
    obtain ⟨c18, h3⟩ := chk_of h2; clear h2
    refine s_indexT S rfl rfl underlying9 c18.1 c18.2 rfl fun a S => s_gT S (b := (decide (y38 < (x1.size : Int)))) rfl rfl c17 (s_bin S rfl rfl rfl rfl fun a S => s_pick S (b := true) (hc_of rfl c17) rfl rfl fun a S => c_end' (x_thenN ?_))
    exact j2 _ ((bt x1 y38) == 91) g113 g114 a w (S.sb rfl (.c0 (.c0 .n))) h3
   ·refine s_gF S (b := (decide (y38 < (x1.size : Int)))) rfl rfl c17 rfl fun a S => s_gF S (b := (decide (y38 < (x1.size : Int)))) rfl rfl c17 rfl fun a S => s_gF S (b := (decide (y38 < (x1.size : Int)))) rfl rfl c17 rfl fun a S => s_gF S (b := (decide (y38 < (x1.size : Int)))) rfl rfl c17 rfl fun a S => s_pick S (b := false) (hc_of rfl c17) rfl rfl fun a S => c_end' (x_thenN ?_)
    exact j2 _ false g113 g114 a w (S.sb rfl (.c0 (.c0 .n))) h2
  ·refine s_gF S (b := t1.2.2) rfl rfl c16 rfl fun a S => s_gF S (b := t1.2.2) rfl rfl c16 rfl fun a S => s_gF S (b := t1.2.2) rfl rfl c16 rfl fun a S => s_gF S (b := t1.2.2) rfl rfl c16 rfl fun a S => s_pick S (b := false) (hc_of rfl c16) rfl rfl fun a S => s_move S rfl rfl fun a S => s_gF S (b := false) rfl rfl rfl rfl fun a S => s_gF S (b := false) rfl rfl rfl rfl fun a S => s_gF S (b := false) rfl rfl rfl rfl fun a S => s_gF S (b := false) rfl rfl rfl rfl fun a S => s_pick S (b := false) (hc_of rfl rfl) rfl rfl fun a S => c_end' (x_thenN ?_)
   exact j2 _ false g113 g114 a w (S.sb rfl (.c0 (.c0 .n))) h1
def fb3_.j3 (x1 : ByteArray) (y7 : List ST32) (rec1 : Int → (List ST32) → Option (ST32 × Int × Bool)) (t1 : ST32 × Int × Bool) (y8 : Bool) : Option (ST32 × Int × Bool) := if y8 = true then (some ((ST32.mk (0, 0, ([] : List ST32))), 0, false)) else (if ((y7).length + ([t1.1]).length) * 40 ≤ 140737488355328 then (if (0 : Int) ≤ t1.2.1 ∧ t1.2.1 < (x1.size : Int) then (if ((bt x1 t1.2.1) == 41) = true then (some ((ST32.mk (6, 0, y7 ++ [t1.1])), wr .i64 (t1.2.1 + 1), true)) else (if ((bt x1 t1.2.1) != 44) = true then (some ((ST32.mk (0, 0, ([] : List ST32))), 0, false)) else (rec1 (wr .i64 (t1.2.1 + 1)) (y7 ++ [t1.1])))) else none) else none)
def fb3_.b1 (self0 : fd3_.Ty) (x1 : ByteArray) (rec1 : Int → (List ST32) → Option (ST32 × Int × Bool)) (y6 : Int) (y7 : List ST32) : Option (ST32 × Int × Bool) := (self0 x1 y6).bind fun t1 => (if (!t1.2.2) = true then (fb3_.j3 x1 y7 rec1 t1 true) else (fb3_.j3 x1 y7 rec1 t1 (decide ((x1.size : Int) ≤ t1.2.1))))
def fb3_.l1 (self0 : fd3_.Ty) (x1 : ByteArray) : Nat → Int → (List ST32) → Option (ST32 × Int × Bool)
  | 0, _, _ => none
  | q + 1, y6, y7 => fb3_.b1 self0 x1 (fb3_.l1 self0 x1 q) y6 y7
def fb3_.j2 (k : Nat) (self0 : fd3_.Ty) (x1 : ByteArray) (x2 : Int) (y1 : Bool) : Option (ST32 × Int × Bool) := if y1 = true then (some ((ST32.mk (0, 0, ([] : List ST32))), 0, false)) else (fb3_.l1 self0 x1 k (wr .i64 (x2 + 1)) ([] : List ST32))
def fb3_.j1 (k : Nat) (self0 : fd3_.Ty) (x1 : ByteArray) (x2 : Int) : Option (ST32 × Int × Bool) := if (decide ((x1.size : Int) ≤ x2)) = true then (fb3_.j2 k self0 x1 x2 true) else (if (0 : Int) ≤ x2 ∧ x2 < (x1.size : Int) then (fb3_.j2 k self0 x1 x2 ((bt x1 x2) != 40)) else none)
def fb3_.j4 (x2 : Int) (y12 : Int) (rec2 : Int → Option (ST32 × Int × Bool)) (y13 : Bool) : Option (ST32 × Int × Bool) := if y13 = true then (some ((ST32.mk (y12, 0, ([] : List ST32))), wr .i64 (x2 + ((gt [txt2, txt3, txt4, txt5] y12).size : Int)), true)) else (rec2 (wr .i64 (y12 + 1)))
def fb3_.b2 (k : Nat) (self0 : fd3_.Ty) (x1 : ByteArray) (x2 : Int) (rec2 : Int → Option (ST32 × Int × Bool)) (y12 : Int) : Option (ST32 × Int × Bool) := if (decide (y12 < (([txt2, txt3, txt4, txt5]).length : Int))) = true then (if (0 : Int) ≤ y12 ∧ y12 < (([txt2, txt3, txt4, txt5]).length : Int) then (if (decide ((wr .i64 (x2 + ((gt [txt2, txt3, txt4, txt5] y12).size : Int))) ≤ (x1.size : Int))) = true then (if (0 : Int) ≤ x2 ∧ (x2 : Int) ≤ (wr .i64 (x2 + ((gt [txt2, txt3, txt4, txt5] y12).size : Int))) ∧ ((wr .i64 (x2 + ((gt [txt2, txt3, txt4, txt5] y12).size : Int))) : Int) ≤ x1.size then (fb3_.j4 x2 y12 rec2 ((bcut x1 x2 (wr .i64 (x2 + ((gt [txt2, txt3, txt4, txt5] y12).size : Int)))).toList == (gt [txt2, txt3, txt4, txt5] y12).toList)) else none) else (fb3_.j4 x2 y12 rec2 false)) else none) else (fb3_.j1 k self0 x1 x2)
def fb3_.l2 (k : Nat) (self0 : fd3_.Ty) (x1 : ByteArray) (x2 : Int) : Nat → Int → Option (ST32 × Int × Bool)
  | 0, _ => none
  | q + 1, y12 => fb3_.b2 k self0 x1 x2 (fb3_.l2 k self0 x1 x2 q) y12
def fb3_.body (self0 : fd3_.Ty) (self1 : fb3_.Ty) (k : Nat) (x1 : ByteArray) (x2 : Int) : Option (ST32 × Int × Bool) := fb3_.l2 k self0 x1 x2 k 0
theorem fb3_.okb (self0 : fd3_.Ty) (self1 : fb3_.Ty) (c_0 : fd3_.Ctr self0) (c_1 : fb3_.Ctr self1) (k : Nat) : fb3_.Ctr (fb3_.body self0 self1 k) := by
 intro x1 x2 r h0 mi w0 ok hm
 delta fb3_.body at h0
 refine c_enterZ (n := 101) ok hm func40 rfl rfl rfl fun b0 hb a S => c_region (s_alloc S Z32 rfl ⟨rfl, rfl, rfl, trivial⟩ rfl fun g1 a w S => s_assign S rfl rfl fun a S => s_assign S rfl rfl fun a S => c_end (c_region (s_bldSl S (ty' := Ty.str) (ds := [(0, (.v (.string txt2))), (1, (.v (.string txt3))), (2, (.v (.string txt4))), (3, (.v (.string txt5)))]) (z := txt1) (c0 := ()) (ys := [txt2, txt3, txt4, txt5]) (cs := [(), (), (), ()]) rfl underlying121 J9 Z9 rfl ⟨rfl, trivial⟩ rfl rfl rfl rfl rfl rfl fun g2 a w S => s_assign S rfl rfl fun a S => c_end (wp_seq_k fun K1 hK1 => ?_))))
 have j1 : ∀ m g12 a w, St 101 m b0 [(4, (.p g12)), (0, (.v (.string x1))), (1, (.i x2))] [Res.cells g12 32 [.i 0, .i 0, .s none 0 0]] a w → fb3_.j1 k self0 x1 x2 = some r → K1 a w := by
  intro m g12 a w S h0
  delta fb3_.j1 at h0
  refine hK1 a w (wp_seq (wp_seq_k fun K2 hK2 => ?_))
  have j2 : ∀ m y1 g13 a w, St 101 m b0 [(60, (.b y1)), (4, (.p g13)), (0, (.v (.string x1))), (1, (.i x2))] [Res.cells g13 32 [.i 0, .i 0, .s none 0 0]] a w → fb3_.j2 k self0 x1 x2 y1 = some r → K2 a w := by
   intro m y1 g13 a w S h0
   delta fb3_.j2 at h0
   refine hK2 a w ?_
   rcases ite_of h0 with ⟨c1, h1⟩ | ⟨c1, h1⟩
   ·refine c_condT S rfl c1 (c_region (s_bldS S (ds := []) (zs := [.i 0, .i 0, .s none 0 0]) (s' := [.i 0, .i 0, .s none 0 0]) rfl underlying32 P32 Z32 ⟨rfl, rfl, rfl, trivial⟩ rfl rfl fun a S => s_store S rfl rfl rfl (s' := [.i 0, .i 0, .s none 0 0]) .h T32 rfl rfl fun w S => s_assign S rfl rfl fun a S => s_assign S rfl rfl fun a S => c_end (wp_ret (x_thenR ?_))))
    replace S := S.cellro (s' := [.i 0, .i 0, .sl none (([] : List ST32)).length 0 (SR32 none ([] : List ST32))]) .h rfl (fun h => ⟨h.1, h.2.1, SN32, trivial⟩)
    obtain rfl := Option.some.inj h1
    exact b_retN S [(.agg [.i 0, .i 0, .sl none (([] : List ST32)).length 0 (SR32 none ([] : List ST32))]), (.i 0), (.b false)] rfl rfl ⟨(resD_cell rfl .h T32 rfl rfl), rfl, rfl, trivial⟩ fun ⟨ok1, ok2, ok3, _⟩ => S.retX (Hx := []) hb _ _ (((), (), (none, 0)) : (Unit × Unit × (Option Addr × Nat))) .nil ⟨ok1, ⟨ok2, trivial⟩, ⟨ok3, trivial⟩, trivial⟩
   ·refine c_condF S rfl c1 (wp_skip (x_thenN (c_region (s_bldS S (ds := [(0, (.i 6))]) (zs := [.i 0, .i 0, .s none 0 0]) (s' := [.i 6, .i 0, .s none 0 0]) rfl underlying32 P32 Z32 ⟨rfl, rfl, rfl, trivial⟩ rfl rfl fun a S => s_alloc S Z32 rfl ⟨rfl, rfl, rfl, trivial⟩ rfl fun g14 a w S => s_store S rfl rfl rfl (s' := [.i 6, .i 0, .s none 0 0]) .h T32 rfl rfl fun w S => c_end (c_region (s_move S rfl rfl fun a S => s_bin S rfl rfl rfl rfl fun a S => s_assign S rfl rfl fun a S => c_end (wp_block ?_)))))))
    replace S := S.nilrow SY32 32
    refine c_loop (fun q1 a w => ∃ m y6 g29 g30 A1 nn1 cp1 y7, St 101 m b0 [(11, (.i y6)), (10, (.p g29)), (4, (.p g30)), (0, (.v (.string x1)))] [Res.row SY32 32 A1 nn1 cp1 y7, Res.cells g29 32 [.i 6, .i 0, .s A1 nn1 cp1], Res.cells g30 32 [.i 0, .i 0, .s none 0 0]] a w ∧ fb3_.l1 self0 x1 q1 y6 y7 = some r) ?_ ?_ (k := k) ⟨_, (wr .i64 (x2 + 1)), g14, g13, none, 0, 0, ([] : List ST32), (S.sb rfl (.c0 (.c0 (.c0 .n)))), h1⟩
    ·rintro a w ⟨m, y6, g29, g30, A1, nn1, cp1, y7, S, h0⟩
     exact (nomatch (show (none : Option (ST32 × Int × Bool)) = some r from h0))
    ·clear S h1
     rintro q1 a w ⟨m, y6, g29, g30, A1, nn1, cp1, y7, S, h0⟩
     replace h0 : fb3_.b1 self0 x1 (fb3_.l1 self0 x1 q1) y6 y7 = some r := h0
     delta fb3_.b1 at h0
     refine wp_block (c_region (s_move S rfl rfl fun a S => s_move S rfl rfl fun a S => bindX h0 fun t1 et1 h1 => s_callP S _ N24 rfl rfl (c_0 x1 y6 t1 et1 _ _) fun ch1 m le1 a w S => s_move S rfl rfl fun a S => s_extract S rfl rfl rfl rfl fun a S => s_extract S rfl rfl rfl rfl fun a S => s_extract S rfl rfl rfl rfl fun a S => s_alloc S Z32 rfl ⟨rfl, rfl, rfl, trivial⟩ rfl fun g31 a w S => s_store S rfl rfl rfl (s' := [.i ((ST32.un t1.1).1), .i ((ST32.un t1.1).2.1), .sl ch1.2.2.1 ((ST32.un t1.1).2.2).length ch1.2.2.2 (SR32 ch1.2.2.1 ((ST32.un t1.1).2.2))]) .h T32 rfl rfl fun w S => s_assign S rfl rfl fun a S => s_assign S rfl rfl fun a S => c_end (wp_seq (wp_seq_k fun K3 hK3 => ?_))))
     have j3 : ∀ m y8 g32 g33 g34 A2 cp2 a w, St 101 m b0 [(79, (.b y8)), (13, (.i t1.2.1)), (12, (.p g32)), (10, (.p g33)), (4, (.p g34)), (0, (.v (.string x1)))] [Res.cells g32 32 [.i ((ST32.un t1.1).1), .i ((ST32.un t1.1).2.1), .sl A2 ((ST32.un t1.1).2.2).length cp2 (SR32 A2 ((ST32.un t1.1).2.2))], Res.row SY32 32 A1 nn1 cp1 y7, Res.cells g33 32 [.i 6, .i 0, .s A1 nn1 cp1], Res.cells g34 32 [.i 0, .i 0, .s none 0 0]] a w → fb3_.j3 x1 y7 (fb3_.l1 self0 x1 q1) t1 y8 = some r → K3 a w := by
      intro m y8 g32 g33 g34 A2 cp2 a w S h0
      delta fb3_.j3 at h0
      refine hK3 a w ?_
      rcases ite_of h0 with ⟨c2, h1⟩ | ⟨c2, h1⟩
      ·refine c_condT S rfl c2 (c_region (s_bldS S (ds := []) (zs := [.i 0, .i 0, .s none 0 0]) (s' := [.i 0, .i 0, .s none 0 0]) rfl underlying32 P32 Z32 ⟨rfl, rfl, rfl, trivial⟩ rfl rfl fun a S => s_store S rfl rfl rfl (s' := [.i 0, .i 0, .s none 0 0]) .h3 T32 rfl rfl fun w S => s_assign S rfl rfl fun a S => s_assign S rfl rfl fun a S => c_end (wp_ret (x_thenR (x_blockR (x_thenR (x_blockR ?_)))))))
       replace S := S.cellro (s' := [.i 0, .i 0, .sl none (([] : List ST32)).length 0 (SR32 none ([] : List ST32))]) .h3 rfl (fun h => ⟨h.1, h.2.1, SN32, trivial⟩)
       obtain rfl := Option.some.inj h1
       exact b_retN S [(.agg [.i 0, .i 0, .sl none (([] : List ST32)).length 0 (SR32 none ([] : List ST32))]), (.i 0), (.b false)] rfl rfl ⟨(resD_cell rfl .h3 T32 rfl rfl), rfl, rfl, trivial⟩ fun ⟨ok1, ok2, ok3, _⟩ => S.retX (Hx := []) hb _ _ (((), (), (none, 0)) : (Unit × Unit × (Option Addr × Nat))) .nil ⟨ok1, ⟨ok2, trivial⟩, ⟨ok3, trivial⟩, trivial⟩
      ·refine c_condF S rfl c2 (wp_skip (x_thenN (c_region (s_fieldAddr S rfl I32_2 T30 (by decide) rfl rfl fun a S => s_load1 S rfl .h2 T30 (v := (.slice A1 nn1 cp1)) rfl rfl fun a S => s_loada S rfl .h T32 (s' := [.i ((ST32.un t1.1).1), .i ((ST32.un t1.1).2.1), .sl A2 ((ST32.un t1.1).2.2).length cp2 (SR32 A2 ((ST32.un t1.1).2.2))]) rfl rfl fun a S => s_bldSl S (ty' := SY32) (ds := [(0, (.agg [.i ((ST32.un t1.1).1), .i ((ST32.un t1.1).2.1), .sl A2 ((ST32.un t1.1).2.2).length cp2 (SR32 A2 ((ST32.un t1.1).2.2))]))]) (z := (ST32.mk (0, 0, ([] : List ST32)))) (c0 := ((), (), (none, 0))) (ys := [t1.1]) (cs := [((), (), (A2, cp2))]) rfl underlying30 J32 Z32 rfl ⟨rfl, rfl, ⟨Nat.le_refl _, Nat.zero_le _, (SE32 _ _ ▸ RdS.nil _ _ _), SM32 _ _⟩, trivial⟩ rfl rfl rfl rfl rfl rfl fun g35 a w S => ?_))))
       obtain ⟨c3, h2⟩ := chk_of h1; clear h1
       refine s_app S (k2 := 1) (ys := [t1.1]) rfl (fun _ _ => .h2) rfl rfl (S.holds _ (Pull.mem .h).1).1 (Res.row.src (S.holds _ (Pull.mem .h).1)) underlying30 J32 c3 rfl fun A3 cp3 a w S => s_fieldAddr S rfl I32_2 T30 (by decide) rfl rfl fun a S => s_store S rfl rfl rfl (s' := [.i 6, .i 0, .s A3 (nn1 + 1) cp3]) .h3 T30 rfl rfl fun w S => c_end (wp_seq (c_region (s_move S rfl rfl fun a S => s_move S rfl rfl fun a S => ?_)))
       obtain ⟨c4, h3⟩ := chk_of h2; clear h2
       refine s_indexT S rfl rfl underlying9 c4.1 c4.2 rfl fun a S => s_bin S rfl rfl rfl rfl fun a S => c_end ?_
       rcases ite_of h3 with ⟨c5, h4⟩ | ⟨c5, h4⟩
       ·refine c_condT S rfl c5 (c_region (s_loada S rfl .h3 T32 (s' := [.i 6, .i 0, .s A3 (nn1 + 1) cp3]) rfl rfl fun a S => s_move S rfl rfl fun a S => s_bin S rfl rfl rfl rfl fun a S => s_store S rfl rfl rfl (s' := [.i 6, .i 0, .s A3 (nn1 + 1) cp3]) .h4 T32 rfl rfl fun w S => s_assign S rfl rfl fun a S => s_assign S rfl rfl fun a S => c_end (wp_ret (x_thenR (x_blockR (x_thenR (x_blockR ?_)))))))
        replace S := S.rowfro .h2
        obtain ⟨m, le1, S, hro⟩ := S
        rw [← SE32] at hro
        replace S := S.slot (u := 91) (d' := (.agg [.i 6, .i 0, .sl A3 (y7 ++ [t1.1]).length cp3 (SR32 A3 (y7 ++ [t1.1]))])) rfl (by simp [D.val, pd, cellsOf, Seg.cells, hro.2.1]) (by have h := (S.get 91 (.agg [.i 6, .i 0, .s A3 (nn1 + 1) cp3]) rfl).2; exact ⟨h.1, h.2.1, ⟨by have := hro.2.2.1; omega, hro.2.2.2, hro.1, SM32 _ _⟩, trivial⟩)
        replace S := S.slotrR (u := 85) rfl hro (SM32 _ _)
        replace S := S.cellro (s' := [.i 6, .i 0, .sl A3 (y7 ++ [t1.1]).length cp3 (SR32 A3 (y7 ++ [t1.1]))]) .h2 (by simp [cellsOf, Seg.cells, hro.2.1]) (fun h => ⟨h.1, h.2.1, ⟨by have := hro.2.2.1; omega, hro.2.2.2, hro.1, SM32 _ _⟩, trivial⟩)
        replace S := S.cellro (s' := [.i 6, .i 0, .sl A3 (y7 ++ [t1.1]).length cp3 (SR32 A3 (y7 ++ [t1.1]))]) .h3 (by simp [cellsOf, Seg.cells, hro.2.1]) (fun h => ⟨h.1, h.2.1, ⟨by have := hro.2.2.1; omega, hro.2.2.2, hro.1, SM32 _ _⟩, trivial⟩)
        obtain rfl := Option.some.inj h4
        exact b_retN S [(.agg [.i 6, .i 0, .sl A3 (y7 ++ [t1.1]).length cp3 (SR32 A3 (y7 ++ [t1.1]))]), (.i (wr .i64 (t1.2.1 + 1))), (.b true)] rfl rfl ⟨(resD_cell rfl .h3 T32 rfl rfl), rfl, rfl, trivial⟩ fun ⟨ok1, ok2, ok3, _⟩ => S.retX (Hx := []) hb _ _ (((), (), (A3, cp3)) : (Unit × Unit × (Option Addr × Nat))) .nil ⟨ok1, ⟨ok2, trivial⟩, ⟨ok3, trivial⟩, trivial⟩
       ·refine c_condF S rfl c5 (wp_skip (x_thenN (wp_seq (c_region (s_move S rfl rfl fun a S => s_move S rfl rfl fun a S => s_indexT S rfl rfl underlying9 c4.1 c4.2 rfl fun a S => s_bin S rfl rfl rfl rfl fun a S => c_end ?_)))))
        rcases ite_of h4 with ⟨c6, h5⟩ | ⟨c6, h5⟩
        ·refine c_condT S rfl c6 (c_region (s_bldS S (ds := []) (zs := [.i 0, .i 0, .s none 0 0]) (s' := [.i 0, .i 0, .s none 0 0]) rfl underlying32 P32 Z32 ⟨rfl, rfl, rfl, trivial⟩ rfl rfl fun a S => s_store S rfl rfl rfl (s' := [.i 0, .i 0, .s none 0 0]) .h4 T32 rfl rfl fun w S => s_assign S rfl rfl fun a S => s_assign S rfl rfl fun a S => c_end (wp_ret (x_thenR (x_blockR (x_thenR (x_blockR ?_)))))))
         replace S := S.cellro (s' := [.i 0, .i 0, .sl none (([] : List ST32)).length 0 (SR32 none ([] : List ST32))]) .h4 rfl (fun h => ⟨h.1, h.2.1, SN32, trivial⟩)
         obtain rfl := Option.some.inj h5
         exact b_retN S [(.agg [.i 0, .i 0, .sl none (([] : List ST32)).length 0 (SR32 none ([] : List ST32))]), (.i 0), (.b false)] rfl rfl ⟨(resD_cell rfl .h4 T32 rfl rfl), rfl, rfl, trivial⟩ fun ⟨ok1, ok2, ok3, _⟩ => S.retX (Hx := []) hb _ _ (((), (), (none, 0)) : (Unit × Unit × (Option Addr × Nat))) .nil ⟨ok1, ⟨ok2, trivial⟩, ⟨ok3, trivial⟩, trivial⟩
        ·refine c_condF S rfl c6 (wp_skip (x_thenN (c_region' (s_move S rfl rfl fun a S => s_bin S rfl rfl rfl rfl fun a S => s_assign S rfl rfl fun a S => c_end' (x_blockN (x_thenN ?_))))))
         exact ⟨_, (wr .i64 (t1.2.1 + 1)), g33, g34, A3, (nn1 + 1), cp3, (y7 ++ [t1.1]), (S.sb rfl (.c2 (.c2 (.c2 .n)))), h5⟩
     refine c_region' (s_move S rfl rfl fun a S => s_not S rfl rfl fun a S => s_move S rfl rfl fun a S => ?_)
     rcases ite_of h1 with ⟨c7, h2⟩ | ⟨c7, h2⟩
     ·refine s_gF S (b := (!t1.2.2)) rfl rfl c7 rfl fun a S => s_gF S (b := (!t1.2.2)) rfl rfl c7 rfl fun a S => s_gF S (b := (!t1.2.2)) rfl rfl c7 rfl fun a S => s_gF S (b := (!t1.2.2)) rfl rfl c7 rfl fun a S => s_pick S (b := true) (hc_of rfl c7) rfl rfl fun a S => c_end' (x_thenN ?_)
      exact j3 _ true g31 g29 g30 ch1.2.2.1 ch1.2.2.2 a w (S.sb rfl (.c0 (.c0 (.c0 (.c0 .n))))) h2
     ·refine s_gT S (b := (!t1.2.2)) rfl rfl c7 (s_move S rfl rfl fun a S => s_gT S (b := (!t1.2.2)) rfl rfl c7 (s_move S rfl rfl fun a S => s_gT S (b := (!t1.2.2)) rfl rfl c7 (s_lenT S rfl underlying9 rfl fun a S => s_gT S (b := (!t1.2.2)) rfl rfl c7 (s_bin S rfl rfl rfl rfl fun a S => s_pick S (b := false) (hc_of rfl c7) rfl rfl fun a S => c_end' (x_thenN ?_)))))
      exact j3 _ (decide ((x1.size : Int) ≤ t1.2.1)) g31 g29 g30 ch1.2.2.1 ch1.2.2.2 a w (S.sb rfl (.c0 (.c0 (.c0 (.c0 .n))))) h2
  refine c_region' (s_move S rfl rfl fun a S => s_move S rfl rfl fun a S => s_lenT S rfl underlying9 rfl fun a S => s_bin S rfl rfl rfl rfl fun a S => s_move S rfl rfl fun a S => ?_)
  rcases ite_of h0 with ⟨c8, h1⟩ | ⟨c8, h1⟩
  ·refine s_gF S (b := (decide ((x1.size : Int) ≤ x2))) rfl rfl c8 rfl fun a S => s_gF S (b := (decide ((x1.size : Int) ≤ x2))) rfl rfl c8 rfl fun a S => s_gF S (b := (decide ((x1.size : Int) ≤ x2))) rfl rfl c8 rfl fun a S => s_gF S (b := (decide ((x1.size : Int) ≤ x2))) rfl rfl c8 rfl fun a S => s_pick S (b := true) (hc_of rfl c8) rfl rfl fun a S => c_end' (x_thenN ?_)
   exact j2 _ true g12 a w (S.sb rfl (.c0 .n)) h1
  ·refine s_gT S (b := (decide ((x1.size : Int) ≤ x2))) rfl rfl c8 (s_move S rfl rfl fun a S => s_gT S (b := (decide ((x1.size : Int) ≤ x2))) rfl rfl c8 (s_move S rfl rfl fun a S => s_gT S (b := (decide ((x1.size : Int) ≤ x2))) rfl rfl c8 ?_))
   obtain ⟨c9, h2⟩ := chk_of h1; clear h1
   refine s_indexT S rfl rfl underlying9 c9.1 c9.2 rfl fun a S => s_gT S (b := (decide ((x1.size : Int) ≤ x2))) rfl rfl c8 (s_bin S rfl rfl rfl rfl fun a S => s_pick S (b := false) (hc_of rfl c8) rfl rfl fun a S => c_end' (x_thenN ?_))
   exact j2 _ ((bt x1 x2) != 40) g12 a w (S.sb rfl (.c0 .n)) h2
 refine c_region (s_move S rfl rfl fun a S => s_lenO S rfl .h underlying121 rfl fun a S => s_move S rfl rfl fun a S => c_end (wp_block ?_))
 refine c_loop (fun q2 a w => ∃ m y12 g44, St 101 m b0 [(18, (.i y12)), (17, (.i (([txt2, txt3, txt4, txt5]).length : Int))), (7, (.s (ad g2) 4 4)), (4, (.p g44)), (0, (.v (.string x1))), (1, (.i x2))] [Res.row Ty.str 9 (ad g2) 4 4 [txt2, txt3, txt4, txt5], Res.cells g44 32 [.i 0, .i 0, .s none 0 0]] a w ∧ fb3_.l2 k self0 x1 x2 q2 y12 = some r) ?_ ?_ (k := k) ⟨_, 0, g1, (S.sb rfl (.c0 (.c0 .n))), h0⟩
 ·rintro a w ⟨m, y12, g44, S, h0⟩
  exact (nomatch (show (none : Option (ST32 × Int × Bool)) = some r from h0))
 ·clear S h0
  rintro q2 a w ⟨m, y12, g44, S, h0⟩
  replace h0 : fb3_.b2 k self0 x1 x2 (fb3_.l2 k self0 x1 x2 q2) y12 = some r := h0
  delta fb3_.b2 at h0
  refine c_region (s_bin S rfl rfl rfl rfl fun a S => c_end (wp_seq ?_))
  rcases ite_of h0 with ⟨c10, h1⟩ | ⟨c10, h1⟩
  ·refine c_condT S rfl c10 (wp_skip (x_thenN (wp_seq (wp_block (c_region (s_move S rfl rfl fun a S => s_assign S rfl rfl fun a S => c_end (c_region (s_move S rfl rfl fun a S => s_move S rfl rfl fun a S => ?_))))))))
   obtain ⟨c11, h2⟩ := chk_of h1; clear h1
   refine s_iaddrO S (ty' := Ty.str) rfl .h rfl underlying121 T9 c11.1 c11.2 rfl fun g45 a hA1 S => s_ldR1 S (ty' := Ty.str) (i := y12) (off := 0) (v := (.string (gt [txt2, txt3, txt4, txt5] y12))) rfl hA1 .h T9 c11.1 c11.2 rfl (fun _ => rfl) rfl fun a S => s_lenT S rfl underlying9 rfl fun a S => s_assign S rfl rfl fun a S => c_end (wp_seq_k fun K4 hK4 => ?_)
   have j4 : ∀ m y13 g47 a w, St 101 m b0 [(44, (.b y13)), (9, (.i ((gt [txt2, txt3, txt4, txt5] y12).size : Int))), (8, (.i y12)), (18, (.i y12)), (17, (.i (([txt2, txt3, txt4, txt5]).length : Int))), (7, (.s (ad g2) 4 4)), (4, (.p g47)), (0, (.v (.string x1))), (1, (.i x2))] [Res.row Ty.str 9 (ad g2) 4 4 [txt2, txt3, txt4, txt5], Res.cells g47 32 [.i 0, .i 0, .s none 0 0]] a w → fb3_.j4 x2 y12 (fb3_.l2 k self0 x1 x2 q2) y13 = some r → K4 a w := by
    intro m y13 g47 a w S h0
    delta fb3_.j4 at h0
    refine hK4 a w ?_
    rcases ite_of h0 with ⟨c12, h1⟩ | ⟨c12, h1⟩
    ·refine c_condT S rfl c12 (c_region (s_move S rfl rfl fun a S => s_bldS S (ds := [(0, (.i y12))]) (zs := [.i 0, .i 0, .s none 0 0]) (s' := [.i y12, .i 0, .s none 0 0]) rfl underlying32 P32 Z32 ⟨rfl, rfl, rfl, trivial⟩ rfl rfl fun a S => s_move S rfl rfl fun a S => s_move S rfl rfl fun a S => s_bin S rfl rfl rfl rfl fun a S => s_store S rfl rfl rfl (s' := [.i y12, .i 0, .s none 0 0]) .h1 T32 rfl rfl fun w S => s_assign S rfl rfl fun a S => s_assign S rfl rfl fun a S => c_end (wp_ret (x_blockR (x_thenR (x_thenR (x_blockR (x_thenR ?_))))))))
     replace S := S.cellro (s' := [.i y12, .i 0, .sl none (([] : List ST32)).length 0 (SR32 none ([] : List ST32))]) .h1 rfl (fun h => ⟨h.1, h.2.1, SN32, trivial⟩)
     obtain rfl := Option.some.inj h1
     exact b_retN S [(.agg [.i y12, .i 0, .sl none (([] : List ST32)).length 0 (SR32 none ([] : List ST32))]), (.i (wr .i64 (x2 + ((gt [txt2, txt3, txt4, txt5] y12).size : Int)))), (.b true)] rfl rfl ⟨(resD_cell rfl .h1 T32 rfl rfl), rfl, rfl, trivial⟩ fun ⟨ok1, ok2, ok3, _⟩ => S.retX (Hx := []) hb _ _ (((), (), (none, 0)) : (Unit × Unit × (Option Addr × Nat))) .nil ⟨ok1, ⟨ok2, trivial⟩, ⟨ok3, trivial⟩, trivial⟩
    ·refine c_condF S rfl c12 (wp_skip (x_blockN (x_thenN (c_region' (s_bin S rfl rfl rfl rfl fun a S => s_move S rfl rfl fun a S => c_end' (x_thenN ?_))))))
     exact ⟨_, (wr .i64 (y12 + 1)), g47, (S.sb rfl (.c0 (.c0 .n))), h1⟩
   refine c_heldS S (.take 0 (.take 1 (.take 2 (.take 3 (.take 4 (.take 5 (.take 6 (.take 7 (.take 8 (.take 9 (.take 10 (.take 11 (.take 12 (.take 13 (.take 14 (.take 15 (.take 16 (.take 17 (.take 18 .done))))))))))))))))))) 19 [Res.row Ty.str 9 (ad g2) 4 4 [txt2, txt3, txt4, txt5], Res.cells g44 32 [.i 0, .i 0, .s none 0 0]] (.c0 (.c0 .n)) ⟨Res.stay_row flat_str, Res.stay_cells, trivial⟩ [(9, (.i ((gt [txt2, txt3, txt4, txt5] y12).size : Int))), (8, (.i y12)), (7, (.s (ad g2) 4 4)), (0, (.v (.string x1))), (1, (.i x2))] (subR rfl) (by kernel_rfl) (by kernel_rfl) fun w S CL hw le => ?_
   refine h_move S CL hw le (subR rfl) rfl rfl rfl trivial fun a S CL => h_move S CL hw le (subR rfl) rfl rfl rfl trivial fun a S CL => h_bin S CL hw le (subR rfl) rfl rfl rfl rfl rfl trivial fun a S CL => h_move S CL hw le (subR rfl) rfl rfl rfl trivial fun a S CL => h_lenT S CL hw le (subR rfl) rfl underlying9 rfl rfl trivial fun a S CL => h_bin S CL hw le (subR rfl) rfl rfl rfl rfl rfl trivial fun a S CL => h_move S CL hw le (subR rfl) rfl rfl rfl trivial fun a S CL => ?_
   rcases ite_of h2 with ⟨c13, h3⟩ | ⟨c13, h3⟩
   ·refine h_move S CL hw le (subR rfl) rfl rfl rfl ⟨_, _, rfl, rfl, c13⟩ fun a S CL => h_move S CL hw le (subR rfl) rfl rfl rfl ⟨_, _, rfl, rfl, c13⟩ fun a S CL => h_move S CL hw le (subR rfl) rfl rfl rfl ⟨_, _, rfl, rfl, c13⟩ fun a S CL => h_move S CL hw le (subR rfl) rfl rfl rfl ⟨_, _, rfl, rfl, c13⟩ fun a S CL => h_bin S CL hw le (subR rfl) rfl rfl rfl rfl rfl ⟨_, _, rfl, rfl, c13⟩ fun a S CL => ?_
    obtain ⟨c14, h4⟩ := chk_of h3; clear h3
    refine h_cutT S CL hw le (subR rfl) (i := x2) (j := (wr .i64 (x2 + ((gt [txt2, txt3, txt4, txt5] y12).size : Int)))) rfl underlying9 (.inr ⟨_, _, rfl, rfl⟩) (.inr ⟨_, _, rfl, rfl⟩) c14 rfl rfl ⟨_, _, rfl, rfl, c13⟩ fun a S CL => h_move S CL hw le (subR rfl) rfl rfl rfl ⟨_, _, rfl, rfl, c13⟩ fun a S CL => h_move S CL hw le (subR rfl) rfl rfl rfl ⟨_, _, rfl, rfl, c13⟩ fun a S CL => h_iaddrO S CL hw le (subR rfl) (ty' := Ty.str) rfl .h rfl underlying121 T9 c11.1 c11.2 rfl rfl ⟨_, _, rfl, rfl, c13⟩ fun g48 a hA2 S CL => h_ldR1 S CL hw le (subR rfl) (ty' := Ty.str) (i := y12) (off := 0) (v := (.string (gt [txt2, txt3, txt4, txt5] y12))) rfl hA2 .h T9 c11.1 c11.2 rfl (fun _ => rfl) rfl rfl ⟨_, _, rfl, rfl, c13⟩ fun a S CL => h_eqT S CL hw le (subR rfl) rfl rfl rfl rfl ⟨_, _, rfl, rfl, c13⟩ fun a S CL => h_pick S CL hw le (subR rfl) (b := true) (hc_of rfl c13) rfl rfl rfl trivial fun a S CL => ?_
    refine h_done ?_; clear CL hw le
    refine x_thenN ?_
    exact j4 _ ((bcut x1 x2 (wr .i64 (x2 + ((gt [txt2, txt3, txt4, txt5] y12).size : Int)))).toList == (gt [txt2, txt3, txt4, txt5] y12).toList) g44 a w (S.sb rfl (.c0 (.c0 .n))) h4
   ·refine h_skip S CL rfl rfl rfl (ne_bool c13) rfl fun a S CL => h_skip S CL rfl rfl rfl (ne_bool c13) rfl fun a S CL => h_skip S CL rfl rfl rfl (ne_bool c13) rfl fun a S CL => h_skip S CL rfl rfl rfl (ne_bool c13) rfl fun a S CL => h_skip S CL rfl rfl rfl (ne_bool c13) rfl fun a S CL => h_skip S CL rfl rfl rfl (ne_bool c13) rfl fun a S CL => h_skip S CL rfl rfl rfl (ne_bool c13) rfl fun a S CL => h_skip S CL rfl rfl rfl (ne_bool c13) rfl fun a S CL => h_skip S CL rfl rfl rfl (ne_bool c13) rfl fun a S CL => h_skip S CL rfl rfl rfl (ne_bool c13) rfl fun a S CL => h_skip S CL rfl rfl rfl (ne_bool c13) rfl fun a S CL => h_pick S CL hw le (subR rfl) (b := false) (hc_of rfl c13) rfl rfl rfl trivial fun a S CL => ?_
    refine h_done ?_; clear CL hw le
    refine x_thenN ?_
    exact j4 _ false g44 a w (S.sb rfl (.c0 (.c0 .n))) h3
  ·refine c_condF S rfl c10 (wp_exit (x_thenX (x_thenX (x_blockX (x_thenN ?_)))))
   exact j1 _ g44 a w (S.sb rfl (.c1 .n)) h1
mutual
def fd3_.f : Nat → fd3_.Ty
  | 0 => fun _ _ => none
  | k + 1 => fd3_.body (fd3_.f k) (fb3_.f k) k
def fb3_.f : Nat → fb3_.Ty
  | 0 => fun _ _ => none
  | k + 1 => fb3_.body (fd3_.f k) (fb3_.f k) k
end
theorem fd3_.oks : ∀ k : Nat, fd3_.Ctr (fd3_.f k) ∧ fb3_.Ctr (fb3_.f k)
  | 0 => ⟨fun _ _ r h0 => (nomatch (show (none : Option (ST32 × Int × Bool)) = some r from h0)), fun _ _ r h0 => (nomatch (show (none : Option (ST32 × Int × Bool)) = some r from h0))⟩
  | k + 1 => by
    have ih := fd3_.oks k
    exact ⟨fd3_.okb (fd3_.f k) (fb3_.f k) ih.1 ih.2 k, fb3_.okb (fd3_.f k) (fb3_.f k) ih.1 ih.2 k⟩
theorem fd3_.ok (k : Nat) : fd3_.Ctr (fd3_.f k) := (fd3_.oks k).1
theorem fb3_.ok (k : Nat) : fb3_.Ctr (fb3_.f k) := (fd3_.oks k).2
abbrev fd_.Ty : Type := ST32 → Option Int
def fd_.Ctr (s : fd_.Ty) : Prop := ∀ (x1 : ST32) (ch_0_0 : Unit × Unit × (Option Addr × Nat)) (r : Int), Ct (C := Unit) Tryd.prog 25 (s x1 = some r) [] [(.agg [.i ((ST32.un x1).1), .i ((ST32.un x1).2.1), .sl ch_0_0.2.2.1 ((ST32.un x1).2.2).length ch_0_0.2.2.2 (SR32 ch_0_0.2.2.1 ((ST32.un x1).2.2))])] (fun _ => (.i r)) fun _ => []
def fd_.j1 (x1 : ST32) (y1 : Int) : Option Int := if (decide (4 ≤ ((ST32.un x1).1))) = true then (some (wr .i64 (y1 + 1))) else (some y1)
def fd_.b1 (self0 : fd_.Ty) (x1 : ST32) (rec1 : Int → Int → Option Int) (y4 : Int) (y5 : Int) : Option Int := if (decide (y4 < (((ST32.un x1).2.2).length : Int))) = true then (if (0 : Int) ≤ y4 ∧ y4 < (((ST32.un x1).2.2).length : Int) then ((self0 (gt ((ST32.un x1).2.2) y4)).bind fun t1 => (rec1 (wr .i64 (y4 + 1)) (imax y5 t1))) else none) else (fd_.j1 x1 y5)
def fd_.l1 (self0 : fd_.Ty) (x1 : ST32) : Nat → Int → Int → Option Int
  | 0, _, _ => none
  | q + 1, y4, y5 => fd_.b1 self0 x1 (fd_.l1 self0 x1 q) y4 y5
def fd_.body (self0 : fd_.Ty) (k : Nat) (x1 : ST32) : Option Int := fd_.l1 self0 x1 k 0 0
theorem fd_.okb (self0 : fd_.Ty) (c_0 : fd_.Ctr self0) (k : Nat) : fd_.Ctr (fd_.body self0 k) := by
 intro x1 ch_0_0 r h0 mi w0 ok hm
 delta fd_.body at h0
 refine c_enterZ (n := 26) ok hm func25 rfl rfl rfl fun b0 hb a S => c_region (s_box S rfl rfl rfl fun g1 a w S => s_assign S rfl rfl fun a S => c_end (c_region (s_assign S rfl rfl fun a S => c_end (wp_seq_k fun K1 hK1 => ?_))))
 have j1 : ∀ m y1 g5 a w, St 26 m b0 [(3, (.i y1)), (1, (.p g5))] [Res.cells g5 32 [.i ((ST32.un x1).1), .i ((ST32.un x1).2.1), .sl ch_0_0.2.2.1 ((ST32.un x1).2.2).length ch_0_0.2.2.2 (SR32 ch_0_0.2.2.1 ((ST32.un x1).2.2))]] a w → fd_.j1 x1 y1 = some r → K1 a w := by
  intro m y1 g5 a w S h0
  delta fd_.j1 at h0
  refine hK1 a w (wp_seq (c_region (s_fieldAddr S rfl I32_0 T3 (by decide) rfl rfl fun a S => s_load1 S rfl .h T3 (v := (.int .i64 ((ST32.un x1).1))) rfl rfl fun a S => s_bin S rfl rfl rfl rfl fun a S => c_end ?_)))
  rcases ite_of h0 with ⟨c1, h1⟩ | ⟨c1, h1⟩
  ·refine c_condT S rfl c1 (c_region (s_move S rfl rfl fun a S => s_bin S rfl rfl rfl rfl fun a S => s_assign S rfl rfl fun a S => c_end (wp_ret (x_thenR ?_))))
   obtain rfl := Option.some.inj h1
   exact b_ret1 (d := (.i (wr .i64 (y1 + 1)))) S rfl rfl (S.rt hb)
  ·refine c_condF S rfl c1 (wp_skip (x_thenN (c_region (s_move S rfl rfl fun a S => s_assign S rfl rfl fun a S => c_end (wp_ret ?_)))))
   obtain rfl := Option.some.inj h1
   exact b_ret1 (d := (.i y1)) S rfl rfl (S.rt hb)
 refine c_region (s_fieldAddr S rfl I32_2 T30 (by decide) rfl rfl fun a S => s_loadSl S rfl .h T30 (A := ch_0_0.2.2.1) (len := ((ST32.un x1).2.2).length) (cap := ch_0_0.2.2.2) rfl rfl fun a S => s_lenS S rfl underlying30 rfl fun a S => s_move S rfl rfl fun a S => c_end (wp_block ?_))
 refine c_loop (fun q1 a w => ∃ m y4 y5 g8, St 26 m b0 [(8, (.i y4)), (7, (.i (((ST32.un x1).2.2).length : Int))), (3, (.i y5)), (1, (.p g8))] [Res.cells g8 32 [.i ((ST32.un x1).1), .i ((ST32.un x1).2.1), .sl ch_0_0.2.2.1 ((ST32.un x1).2.2).length ch_0_0.2.2.2 (SR32 ch_0_0.2.2.1 ((ST32.un x1).2.2))]] a w ∧ fd_.l1 self0 x1 q1 y4 y5 = some r) ?_ ?_ (k := k) ⟨_, 0, 0, g1, (S.sb rfl (.c0 .n)), h0⟩
 ·rintro a w ⟨m, y4, y5, g8, S, h0⟩
  exact (nomatch (show (none : Option Int) = some r from h0))
 ·clear S h0
  rintro q1 a w ⟨m, y4, y5, g8, S, h0⟩
  replace h0 : fd_.b1 self0 x1 (fd_.l1 self0 x1 q1) y4 y5 = some r := h0
  delta fd_.b1 at h0
  refine c_region (s_bin S rfl rfl rfl rfl fun a S => c_end (wp_seq ?_))
  rcases ite_of h0 with ⟨c2, h1⟩ | ⟨c2, h1⟩
  ·refine c_condT S rfl c2 (wp_skip (x_thenN (wp_seq (wp_block (c_region (s_move S rfl rfl fun a S => s_assign S rfl rfl fun a S => c_end (c_region' (s_move S rfl rfl fun a S => s_fieldAddr S rfl I32_2 T30 (by decide) rfl rfl fun a S => s_loadSl S rfl .h T30 (A := ch_0_0.2.2.1) (len := ((ST32.un x1).2.2).length) (cap := ch_0_0.2.2.2) rfl rfl fun a S => s_move S rfl rfl fun a S => ?_))))))))
   obtain ⟨c3, h2⟩ := chk_of h1; clear h1
   simp only [SE32] at S
   refine s_iaddrS S rfl rfl rfl underlying30 T32 c3.1 c3.2 rfl fun p1 a S => ?_
   simp only [← SE32] at S
   refine s_ldA S (fun (c : Unit × Unit × (Option Addr × Nat)) => [.i ((ST32.un (gt ((ST32.un x1).2.2) y4)).1), .i ((ST32.un (gt ((ST32.un x1).2.2) y4)).2.1), .sl c.2.2.1 ((ST32.un (gt ((ST32.un x1).2.2) y4)).2.2).length c.2.2.2 (SR32 c.2.2.1 ((ST32.un (gt ((ST32.un x1).2.2) y4)).2.2))]) rfl T32 (fun _ => rfl) rfl fun ch1 a S => ?_
   refine bindX h2 fun t1 et1 h3 => s_callP S _ N25 rfl rfl (c_0 (gt ((ST32.un x1).2.2) y4) ((), (), (ch1.2.2.1, ch1.2.2.2)) t1 et1 _ _) fun ch2 m le1 a w S => s_max2 S rfl rfl rfl fun a S => s_assign S rfl rfl fun a S => c_end' (x_blockN (x_thenN (c_region' (s_bin S rfl rfl rfl rfl fun a S => s_move S rfl rfl fun a S => c_end' (x_thenN ?_)))))
   exact ⟨_, (wr .i64 (y4 + 1)), (imax y5 t1), g8, (S.sb rfl (.c0 .n)), h3⟩
  ·refine c_condF S rfl c2 (wp_exit (x_thenX (x_thenX (x_blockX (x_thenN ?_)))))
   exact j1 _ y5 g8 a w (S.sb rfl (.c0 .n)) h1
def fd_.f : Nat → fd_.Ty
  | 0 => fun _ => none
  | k + 1 => fd_.body (fd_.f k) k
theorem fd_.oks : ∀ k : Nat, fd_.Ctr (fd_.f k)
  | 0 => fun _ _ r h0 => (nomatch (show (none : Option Int) = some r from h0))
  | k + 1 => by
    have ih := fd_.oks k
    exact fd_.okb (fd_.f k) ih k
theorem fd_.ok (k : Nat) : fd_.Ctr (fd_.f k) := (fd_.oks k)
abbrev fc0_.Ty : Type := ByteArray → Option (ST32 × Bool)
def fc0_.Ctr (s : fc0_.Ty) : Prop := ∀ (x1 : ByteArray) (r : ST32 × Bool), Ct (C := ((Unit × Unit × (Option Addr × Nat)))) Tryd.prog 10 (s x1 = some r) [] [(.v (.string x1))] (fun ch => (.tup [(true, [.i ((ST32.un r.1).1), .i ((ST32.un r.1).2.1), .sl ch.2.2.1 ((ST32.un r.1).2.2).length ch.2.2.2 (SR32 ch.2.2.1 ((ST32.un r.1).2.2))]), (false, [.b r.2])])) fun _ => []
def fc0_.j1 (t1 : ST32 × Int × Bool) (y1 : Bool) : Option (ST32 × Bool) := if y1 = true then (some ((ST32.mk (0, 0, ([] : List ST32))), false)) else (some (t1.1, true))
def fc0_.f (k : Nat) (x1 : ByteArray) : Option (ST32 × Bool) := if (x1.toList == txt16.toList) = true then (some ((ST32.mk (6, 0, ([] : List ST32))), true)) else (if (decide (512 < (x1.size : Int))) = true then (some ((ST32.mk (0, 0, ([] : List ST32))), false)) else ((fd3_.f k x1 0).bind fun t1 => (if (!t1.2.2) = true then (fc0_.j1 t1 true) else (if (t1.2.1 != (x1.size : Int)) = true then (fc0_.j1 t1 true) else ((fd_.f k t1.1).bind fun t3 => (fc0_.j1 t1 (decide (16 < t3))))))))
theorem fc0_.ok (k : Nat) : fc0_.Ctr (fc0_.f k) := by
 intro x1 r h0 mi w0 ok hm
 delta fc0_.f at h0
 refine c_enterZ (n := 35) ok hm func10 rfl rfl rfl fun b0 hb a S => c_region (s_alloc S Z32 rfl ⟨rfl, rfl, rfl, trivial⟩ rfl fun g1 a w S => s_assign S rfl rfl fun a S => c_end (wp_seq (c_region (s_move S rfl rfl fun a S => s_eqT S rfl rfl rfl fun a S => c_end ?_))))
 rcases ite_of h0 with ⟨c1, h1⟩ | ⟨c1, h1⟩
 ·refine c_condT S rfl c1 (c_region (s_bldS S (ds := [(0, (.i 6))]) (zs := [.i 0, .i 0, .s none 0 0]) (s' := [.i 6, .i 0, .s none 0 0]) rfl underlying32 P32 Z32 ⟨rfl, rfl, rfl, trivial⟩ rfl rfl fun a S => s_store S rfl rfl rfl (s' := [.i 6, .i 0, .s none 0 0]) .h T32 rfl rfl fun w S => s_assign S rfl rfl fun a S => c_end (wp_ret (x_thenR ?_))))
  replace S := S.cellro (s' := [.i 6, .i 0, .sl none (([] : List ST32)).length 0 (SR32 none ([] : List ST32))]) .h rfl (fun h => ⟨h.1, h.2.1, SN32, trivial⟩)
  obtain rfl := Option.some.inj h1
  exact b_ret2 (d1 := (.agg [.i 6, .i 0, .sl none (([] : List ST32)).length 0 (SR32 none ([] : List ST32))])) (d2 := (.b true)) S rfl (resD_cell rfl .h T32 rfl rfl) rfl fun ok1 ok2 => S.retX (Hx := []) hb _ _ (((), (), (none, 0)) : (Unit × Unit × (Option Addr × Nat))) .nil ⟨ok1, ⟨ok2, trivial⟩, trivial⟩
 ·refine c_condF S rfl c1 (wp_skip (x_thenN (wp_seq (c_region (s_move S rfl rfl fun a S => s_lenT S rfl underlying9 rfl fun a S => s_bin S rfl rfl rfl rfl fun a S => c_end ?_)))))
  rcases ite_of h1 with ⟨c2, h2⟩ | ⟨c2, h2⟩
  ·refine c_condT S rfl c2 (c_region (s_bldS S (ds := []) (zs := [.i 0, .i 0, .s none 0 0]) (s' := [.i 0, .i 0, .s none 0 0]) rfl underlying32 P32 Z32 ⟨rfl, rfl, rfl, trivial⟩ rfl rfl fun a S => s_store S rfl rfl rfl (s' := [.i 0, .i 0, .s none 0 0]) .h T32 rfl rfl fun w S => s_assign S rfl rfl fun a S => c_end (wp_ret (x_thenR ?_))))
   replace S := S.cellro (s' := [.i 0, .i 0, .sl none (([] : List ST32)).length 0 (SR32 none ([] : List ST32))]) .h rfl (fun h => ⟨h.1, h.2.1, SN32, trivial⟩)
   obtain rfl := Option.some.inj h2
   exact b_ret2 (d1 := (.agg [.i 0, .i 0, .sl none (([] : List ST32)).length 0 (SR32 none ([] : List ST32))])) (d2 := (.b false)) S rfl (resD_cell rfl .h T32 rfl rfl) rfl fun ok1 ok2 => S.retX (Hx := []) hb _ _ (((), (), (none, 0)) : (Unit × Unit × (Option Addr × Nat))) .nil ⟨ok1, ⟨ok2, trivial⟩, trivial⟩
  ·refine c_condF S rfl c2 (wp_skip (x_thenN (c_region (s_move S rfl rfl fun a S => bindX h2 fun t1 et1 h3 => s_callP S _ N24 rfl rfl (fd3_.ok k x1 0 t1 et1 _ _) fun ch1 m le1 a w S => s_move S rfl rfl fun a S => s_extract S rfl rfl rfl rfl fun a S => s_extract S rfl rfl rfl rfl fun a S => s_extract S rfl rfl rfl rfl fun a S => s_alloc S Z32 rfl ⟨rfl, rfl, rfl, trivial⟩ rfl fun g2 a w S => s_store S rfl rfl rfl (s' := [.i ((ST32.un t1.1).1), .i ((ST32.un t1.1).2.1), .sl ch1.2.2.1 ((ST32.un t1.1).2.2).length ch1.2.2.2 (SR32 ch1.2.2.1 ((ST32.un t1.1).2.2))]) .h T32 rfl rfl fun w S => s_assign S rfl rfl fun a S => s_assign S rfl rfl fun a S => c_end (wp_seq (wp_seq_k fun K1 hK1 => ?_))))))
   have j1 : ∀ m y1 g3 g4 A1 cp1 a w, St 35 m b0 [(32, (.b y1)), (4, (.p g3)), (2, (.p g4))] [Res.cells g3 32 [.i ((ST32.un t1.1).1), .i ((ST32.un t1.1).2.1), .sl A1 ((ST32.un t1.1).2.2).length cp1 (SR32 A1 ((ST32.un t1.1).2.2))], Res.cells g4 32 [.i 0, .i 0, .s none 0 0]] a w → fc0_.j1 t1 y1 = some r → K1 a w := by
    intro m y1 g3 g4 A1 cp1 a w S h0
    delta fc0_.j1 at h0
    refine hK1 a w ?_
    rcases ite_of h0 with ⟨c3, h1⟩ | ⟨c3, h1⟩
    ·refine c_condT S rfl c3 (c_region (s_bldS S (ds := []) (zs := [.i 0, .i 0, .s none 0 0]) (s' := [.i 0, .i 0, .s none 0 0]) rfl underlying32 P32 Z32 ⟨rfl, rfl, rfl, trivial⟩ rfl rfl fun a S => s_store S rfl rfl rfl (s' := [.i 0, .i 0, .s none 0 0]) .h1 T32 rfl rfl fun w S => s_assign S rfl rfl fun a S => c_end (wp_ret (x_thenR ?_))))
     replace S := S.cellro (s' := [.i 0, .i 0, .sl none (([] : List ST32)).length 0 (SR32 none ([] : List ST32))]) .h1 rfl (fun h => ⟨h.1, h.2.1, SN32, trivial⟩)
     obtain rfl := Option.some.inj h1
     exact b_ret2 (d1 := (.agg [.i 0, .i 0, .sl none (([] : List ST32)).length 0 (SR32 none ([] : List ST32))])) (d2 := (.b false)) S rfl (resD_cell rfl .h1 T32 rfl rfl) rfl fun ok1 ok2 => S.retX (Hx := []) hb _ _ (((), (), (none, 0)) : (Unit × Unit × (Option Addr × Nat))) .nil ⟨ok1, ⟨ok2, trivial⟩, trivial⟩
    ·refine c_condF S rfl c3 (wp_skip (x_thenN (c_region (s_loada S rfl .h T32 (s' := [.i ((ST32.un t1.1).1), .i ((ST32.un t1.1).2.1), .sl A1 ((ST32.un t1.1).2.2).length cp1 (SR32 A1 ((ST32.un t1.1).2.2))]) rfl rfl fun a S => s_store S rfl rfl rfl (s' := [.i ((ST32.un t1.1).1), .i ((ST32.un t1.1).2.1), .sl A1 ((ST32.un t1.1).2.2).length cp1 (SR32 A1 ((ST32.un t1.1).2.2))]) .h1 T32 rfl rfl fun w S => s_assign S rfl rfl fun a S => c_end (wp_ret ?_)))))
     obtain rfl := Option.some.inj h1
     exact b_ret2 (d1 := (.agg [.i ((ST32.un t1.1).1), .i ((ST32.un t1.1).2.1), .sl A1 ((ST32.un t1.1).2.2).length cp1 (SR32 A1 ((ST32.un t1.1).2.2))])) (d2 := (.b true)) S rfl (resD_cell rfl .h1 T32 rfl rfl) rfl fun ok1 ok2 => S.retX (Hx := []) hb _ _ (((), (), (A1, cp1)) : (Unit × Unit × (Option Addr × Nat))) .nil ⟨ok1, ⟨ok2, trivial⟩, trivial⟩
   refine c_region' (s_move S rfl rfl fun a S => s_not S rfl rfl fun a S => s_move S rfl rfl fun a S => ?_)
   rcases ite_of h3 with ⟨c4, h4⟩ | ⟨c4, h4⟩
   ·refine s_gF S (b := (!t1.2.2)) rfl rfl c4 rfl fun a S => s_gF S (b := (!t1.2.2)) rfl rfl c4 rfl fun a S => s_gF S (b := (!t1.2.2)) rfl rfl c4 rfl fun a S => s_gF S (b := (!t1.2.2)) rfl rfl c4 rfl fun a S => s_pick S (b := true) (hc_of rfl c4) rfl rfl fun a S => s_move S rfl rfl fun a S => s_gF S (b := true) rfl rfl rfl rfl fun a S => s_gF S (b := true) rfl rfl rfl rfl fun a S => s_gF S (b := true) rfl rfl rfl rfl fun a S => s_pick S (b := true) (hc_of rfl rfl) rfl rfl fun a S => c_end' (x_thenN ?_)
    exact j1 _ true g2 g1 ch1.2.2.1 ch1.2.2.2 a w (S.sb rfl (.c0 (.c0 .n))) h4
   ·refine s_gT S (b := (!t1.2.2)) rfl rfl c4 (s_move S rfl rfl fun a S => s_gT S (b := (!t1.2.2)) rfl rfl c4 (s_move S rfl rfl fun a S => s_gT S (b := (!t1.2.2)) rfl rfl c4 (s_lenT S rfl underlying9 rfl fun a S => s_gT S (b := (!t1.2.2)) rfl rfl c4 (s_bin S rfl rfl rfl rfl fun a S => s_pick S (b := false) (hc_of rfl c4) rfl rfl fun a S => s_move S rfl rfl fun a S => ?_))))
    rcases ite_of h4 with ⟨c5, h5⟩ | ⟨c5, h5⟩
    ·refine s_gF S (b := (t1.2.1 != (x1.size : Int))) rfl rfl c5 rfl fun a S => s_gF S (b := (t1.2.1 != (x1.size : Int))) rfl rfl c5 rfl fun a S => s_gF S (b := (t1.2.1 != (x1.size : Int))) rfl rfl c5 rfl fun a S => s_pick S (b := true) (hc_of rfl c5) rfl rfl fun a S => c_end' (x_thenN ?_)
     exact j1 _ true g2 g1 ch1.2.2.1 ch1.2.2.2 a w (S.sb rfl (.c0 (.c0 .n))) h5
    ·refine s_gT S (b := (t1.2.1 != (x1.size : Int))) rfl rfl c5 (s_loada S rfl .h T32 (s' := [.i ((ST32.un t1.1).1), .i ((ST32.un t1.1).2.1), .sl ch1.2.2.1 ((ST32.un t1.1).2.2).length ch1.2.2.2 (SR32 ch1.2.2.1 ((ST32.un t1.1).2.2))]) rfl rfl fun a S => s_gT S (b := (t1.2.1 != (x1.size : Int))) rfl rfl c5 (bindX h5 fun t3 et3 h6 => s_callP S _ N25 rfl rfl (fd_.ok k t1.1 ((), (), (ch1.2.2.1, ch1.2.2.2)) t3 et3 _ _) fun ch2 m le1 a w S => s_gT S (b := (t1.2.1 != (x1.size : Int))) rfl rfl c5 (s_bin S rfl rfl rfl rfl fun a S => s_pick S (b := false) (hc_of rfl c5) rfl rfl fun a S => c_end' (x_thenN ?_))))
     exact j1 _ (decide (16 < t3)) g2 g1 ch1.2.2.1 ch1.2.2.2 a w (S.sb rfl (.c0 (.c0 .n))) h6
abbrev fa5_.Ty : Type := ST32 → Option Bool
def fa5_.Ctr (s : fa5_.Ty) : Prop := ∀ (x1 : ST32) (ch_0_0 : Unit × Unit × (Option Addr × Nat)) (r : Bool), Ct (C := Unit) Tryd.prog 15 (s x1 = some r) [] [(.agg [.i ((ST32.un x1).1), .i ((ST32.un x1).2.1), .sl ch_0_0.2.2.1 ((ST32.un x1).2.2).length ch_0_0.2.2.2 (SR32 ch_0_0.2.2.1 ((ST32.un x1).2.2))])] (fun _ => (.b r)) fun _ => []
def fa5_.j2 : Option Bool := some false
def fa5_.b1 (self0 : fa5_.Ty) (x1 : ST32) (rec1 : Int → Option Bool) (y5 : Int) : Option Bool := if (decide (y5 < (((ST32.un x1).2.2).length : Int))) = true then (if (0 : Int) ≤ y5 ∧ y5 < (((ST32.un x1).2.2).length : Int) then ((self0 (gt ((ST32.un x1).2.2) y5)).bind fun t1 => (if t1 = true then (some true) else (rec1 (wr .i64 (y5 + 1))))) else none) else fa5_.j2
def fa5_.l1 (self0 : fa5_.Ty) (x1 : ST32) : Nat → Int → Option Bool
  | 0, _ => none
  | q + 1, y5 => fa5_.b1 self0 x1 (fa5_.l1 self0 x1 q) y5
def fa5_.j1 (k : Nat) (self0 : fa5_.Ty) (x1 : ST32) (y1 : Bool) : Option Bool := if y1 = true then (some true) else (fa5_.l1 self0 x1 k 0)
def fa5_.body (self0 : fa5_.Ty) (k : Nat) (x1 : ST32) : Option Bool := if (((ST32.un x1).1) == 3) = true then (fa5_.j1 k self0 x1 true) else (fa5_.j1 k self0 x1 (((ST32.un x1).1) == 4))
theorem fa5_.okb (self0 : fa5_.Ty) (c_0 : fa5_.Ctr self0) (k : Nat) : fa5_.Ctr (fa5_.body self0 k) := by
 intro x1 ch_0_0 r h0 mi w0 ok hm
 delta fa5_.body at h0
 refine c_enterZ (n := 25) ok hm func15 rfl rfl rfl fun b0 hb a S => c_region (s_box S rfl rfl rfl fun g1 a w S => s_assign S rfl rfl fun a S => c_end (wp_seq (wp_seq_k fun K1 hK1 => ?_)))
 have j1 : ∀ m y1 g2 a w, St 25 m b0 [(11, (.b y1)), (1, (.p g2))] [Res.cells g2 32 [.i ((ST32.un x1).1), .i ((ST32.un x1).2.1), .sl ch_0_0.2.2.1 ((ST32.un x1).2.2).length ch_0_0.2.2.2 (SR32 ch_0_0.2.2.1 ((ST32.un x1).2.2))]] a w → fa5_.j1 k self0 x1 y1 = some r → K1 a w := by
  intro m y1 g2 a w S h0
  delta fa5_.j1 at h0
  refine hK1 a w ?_
  rcases ite_of h0 with ⟨c1, h1⟩ | ⟨c1, h1⟩
  ·refine c_condT S rfl c1 (c_region (s_assign S rfl rfl fun a S => c_end (wp_ret (x_thenR ?_))))
   obtain rfl := Option.some.inj h1
   exact b_ret1 (d := (.b true)) S rfl rfl (S.rt hb)
  ·refine c_condF S rfl c1 (wp_skip (x_thenN (wp_seq_k fun K2 hK2 => ?_)))
   have j2 : ∀ m a w, St 25 m b0 [] [] a w → fa5_.j2 = some r → K2 a w := by
    intro m a w S h0
    delta fa5_.j2 at h0
    refine hK2 a w (c_region (s_assign S rfl rfl fun a S => c_end (wp_ret ?_)))
    obtain rfl := Option.some.inj h0
    exact b_ret1 (d := (.b false)) S rfl rfl (S.rt hb)
   refine c_region (s_fieldAddr S rfl I32_2 T30 (by decide) rfl rfl fun a S => s_loadSl S rfl .h T30 (A := ch_0_0.2.2.1) (len := ((ST32.un x1).2.2).length) (cap := ch_0_0.2.2.2) rfl rfl fun a S => s_lenS S rfl underlying30 rfl fun a S => s_move S rfl rfl fun a S => c_end (wp_block ?_))
   refine c_loop (fun q1 a w => ∃ m y5 g8, St 25 m b0 [(15, (.i y5)), (14, (.i (((ST32.un x1).2.2).length : Int))), (1, (.p g8))] [Res.cells g8 32 [.i ((ST32.un x1).1), .i ((ST32.un x1).2.1), .sl ch_0_0.2.2.1 ((ST32.un x1).2.2).length ch_0_0.2.2.2 (SR32 ch_0_0.2.2.1 ((ST32.un x1).2.2))]] a w ∧ fa5_.l1 self0 x1 q1 y5 = some r) ?_ ?_ (k := k) ⟨_, 0, g2, (S.sb rfl (.c0 .n)), h1⟩
   ·rintro a w ⟨m, y5, g8, S, h0⟩
    exact (nomatch (show (none : Option Bool) = some r from h0))
   ·clear S h1
    rintro q1 a w ⟨m, y5, g8, S, h0⟩
    replace h0 : fa5_.b1 self0 x1 (fa5_.l1 self0 x1 q1) y5 = some r := h0
    delta fa5_.b1 at h0
    refine c_region (s_bin S rfl rfl rfl rfl fun a S => c_end (wp_seq ?_))
    rcases ite_of h0 with ⟨c2, h1⟩ | ⟨c2, h1⟩
    ·refine c_condT S rfl c2 (wp_skip (x_thenN (wp_seq (wp_block (c_region (s_move S rfl rfl fun a S => s_assign S rfl rfl fun a S => c_end (c_region (s_fieldAddr S rfl I32_2 T30 (by decide) rfl rfl fun a S => s_loadSl S rfl .h T30 (A := ch_0_0.2.2.1) (len := ((ST32.un x1).2.2).length) (cap := ch_0_0.2.2.2) rfl rfl fun a S => s_move S rfl rfl fun a S => ?_))))))))
     obtain ⟨c3, h2⟩ := chk_of h1; clear h1
     simp only [SE32] at S
     refine s_iaddrS S rfl rfl rfl underlying30 T32 c3.1 c3.2 rfl fun p1 a S => ?_
     simp only [← SE32] at S
     refine s_ldA S (fun (c : Unit × Unit × (Option Addr × Nat)) => [.i ((ST32.un (gt ((ST32.un x1).2.2) y5)).1), .i ((ST32.un (gt ((ST32.un x1).2.2) y5)).2.1), .sl c.2.2.1 ((ST32.un (gt ((ST32.un x1).2.2) y5)).2.2).length c.2.2.2 (SR32 c.2.2.1 ((ST32.un (gt ((ST32.un x1).2.2) y5)).2.2))]) rfl T32 (fun _ => rfl) rfl fun ch1 a S => ?_
     refine bindX h2 fun t1 et1 h3 => s_callP S _ N15 rfl rfl (c_0 (gt ((ST32.un x1).2.2) y5) ((), (), (ch1.2.2.1, ch1.2.2.2)) t1 et1 _ _) fun ch2 m le1 a w S => c_end ?_
     rcases ite_of h3 with ⟨c4, h4⟩ | ⟨c4, h4⟩
     ·refine c_condT S rfl c4 (c_region (s_assign S rfl rfl fun a S => c_end (wp_ret (x_blockR (x_thenR (x_thenR (x_blockR (x_thenR ?_))))))))
      obtain rfl := Option.some.inj h4
      exact b_ret1 (d := (.b true)) S rfl rfl (S.rt hb)
     ·refine c_condF S rfl c4 (wp_skip (x_blockN (x_thenN (c_region' (s_bin S rfl rfl rfl rfl fun a S => s_move S rfl rfl fun a S => c_end' (x_thenN ?_))))))
      exact ⟨_, (wr .i64 (y5 + 1)), g8, (S.sb rfl (.c0 .n)), h4⟩
    ·refine c_condF S rfl c2 (wp_exit (x_thenX (x_thenX (x_blockX (x_thenN ?_)))))
     exact j2 _ a w (S.sub trivial .nil) h1
 refine c_region' (s_fieldAddr S rfl I32_0 T3 (by decide) rfl rfl fun a S => s_load1 S rfl .h T3 (v := (.int .i64 ((ST32.un x1).1))) rfl rfl fun a S => s_bin S rfl rfl rfl rfl fun a S => s_move S rfl rfl fun a S => ?_)
 rcases ite_of h0 with ⟨c5, h1⟩ | ⟨c5, h1⟩
 ·refine s_gF S (b := (((ST32.un x1).1) == 3)) rfl rfl c5 rfl fun a S => s_gF S (b := (((ST32.un x1).1) == 3)) rfl rfl c5 rfl fun a S => s_gF S (b := (((ST32.un x1).1) == 3)) rfl rfl c5 rfl fun a S => s_pick S (b := true) (hc_of rfl c5) rfl rfl fun a S => c_end' (x_thenN ?_)
  exact j1 _ true g1 a w (S.sb rfl (.c0 .n)) h1
 ·refine s_gT S (b := (((ST32.un x1).1) == 3)) rfl rfl c5 (s_fieldAddr S rfl I32_0 T3 (by decide) rfl rfl fun a S => s_gT S (b := (((ST32.un x1).1) == 3)) rfl rfl c5 (s_load1 S rfl .h T3 (v := (.int .i64 ((ST32.un x1).1))) rfl rfl fun a S => s_gT S (b := (((ST32.un x1).1) == 3)) rfl rfl c5 (s_bin S rfl rfl rfl rfl fun a S => s_pick S (b := false) (hc_of rfl c5) rfl rfl fun a S => c_end' (x_thenN ?_))))
  exact j1 _ (((ST32.un x1).1) == 4) g1 a w (S.sb rfl (.c0 .n)) h1
def fa5_.f : Nat → fa5_.Ty
  | 0 => fun _ => none
  | k + 1 => fa5_.body (fa5_.f k) k
theorem fa5_.oks : ∀ k : Nat, fa5_.Ctr (fa5_.f k)
  | 0 => fun _ _ r h0 => (nomatch (show (none : Option Bool) = some r from h0))
  | k + 1 => by
    have ih := fa5_.oks k
    exact fa5_.okb (fa5_.f k) ih k
theorem fa5_.ok (k : Nat) : fa5_.Ctr (fa5_.f k) := (fa5_.oks k)
abbrev fc5_.Ty : Type := ST32 → Option Int
def fc5_.Ctr (s : fc5_.Ty) : Prop := ∀ (x1 : ST32) (ch_0_0 : Unit × Unit × (Option Addr × Nat)) (r : Int), Ct (C := Unit) Tryd.prog 14 (s x1 = some r) [] [(.agg [.i ((ST32.un x1).1), .i ((ST32.un x1).2.1), .sl ch_0_0.2.2.1 ((ST32.un x1).2.2).length ch_0_0.2.2.2 (SR32 ch_0_0.2.2.1 ((ST32.un x1).2.2))])] (fun _ => (.i r)) fun _ => []
def fc5_.j3 (y7 : Int) : Option Int := some (imin y7 1099511627776)
def fc5_.j2 (x1 : ST32) (y6 : Int) : Option Int := if (((ST32.un x1).1) == 5) = true then (fc5_.j3 (wr .i64 (y6 * ((ST32.un x1).2.1)))) else (fc5_.j3 y6)
def fc5_.b1 (self0 : fc5_.Ty) (x1 : ST32) (rec1 : Int → Int → Option Int) (y10 : Int) (y11 : Int) : Option Int := if (decide (y10 < (((ST32.un x1).2.2).length : Int))) = true then (if (0 : Int) ≤ y10 ∧ y10 < (((ST32.un x1).2.2).length : Int) then ((self0 (gt ((ST32.un x1).2.2) y10)).bind fun t1 => (rec1 (wr .i64 (y10 + 1)) (wr .i64 (y11 + t1)))) else none) else (fc5_.j2 x1 y11)
def fc5_.l1 (self0 : fc5_.Ty) (x1 : ST32) : Nat → Int → Int → Option Int
  | 0, _, _ => none
  | q + 1, y10, y11 => fc5_.b1 self0 x1 (fc5_.l1 self0 x1 q) y10 y11
def fc5_.j1 (k : Nat) (self0 : fc5_.Ty) (x1 : ST32) (y1 : Bool) : Option Int := if y1 = true then (some 32) else (fc5_.l1 self0 x1 k 0 0)
def fc5_.body (self0 : fc5_.Ty) (k : Nat) (x1 : ST32) : Option Int := (fa5_.f k x1).bind fun t2 => (if t2 = true then (fc5_.j1 k self0 x1 true) else (fc5_.j1 k self0 x1 (decide (((ST32.un x1).1) < 3))))
theorem fc5_.okb (self0 : fc5_.Ty) (c_0 : fc5_.Ctr self0) (k : Nat) : fc5_.Ctr (fc5_.body self0 k) := by
 intro x1 ch_0_0 r h0 mi w0 ok hm
 delta fc5_.body at h0
 refine c_enterZ (n := 36) ok hm func14 rfl rfl rfl fun b0 hb a S => c_region (s_box S rfl rfl rfl fun g1 a w S => s_assign S rfl rfl fun a S => c_end (wp_seq (wp_seq_k fun K1 hK1 => ?_)))
 have j1 : ∀ m y1 g2 a w, St 36 m b0 [(11, (.b y1)), (1, (.p g2))] [Res.cells g2 32 [.i ((ST32.un x1).1), .i ((ST32.un x1).2.1), .sl ch_0_0.2.2.1 ((ST32.un x1).2.2).length ch_0_0.2.2.2 (SR32 ch_0_0.2.2.1 ((ST32.un x1).2.2))]] a w → fc5_.j1 k self0 x1 y1 = some r → K1 a w := by
  intro m y1 g2 a w S h0
  delta fc5_.j1 at h0
  refine hK1 a w ?_
  rcases ite_of h0 with ⟨c1, h1⟩ | ⟨c1, h1⟩
  ·refine c_condT S rfl c1 (c_region (s_assign S rfl rfl fun a S => c_end (wp_ret (x_thenR ?_))))
   obtain rfl := Option.some.inj h1
   exact b_ret1 (d := (.i 32)) S rfl rfl (S.rt hb)
  ·refine c_condF S rfl c1 (wp_skip (x_thenN (c_region (s_assign S rfl rfl fun a S => c_end (wp_seq_k fun K2 hK2 => ?_)))))
   have j2 : ∀ m y6 g6 a w, St 36 m b0 [(3, (.i y6)), (1, (.p g6))] [Res.cells g6 32 [.i ((ST32.un x1).1), .i ((ST32.un x1).2.1), .sl ch_0_0.2.2.1 ((ST32.un x1).2.2).length ch_0_0.2.2.2 (SR32 ch_0_0.2.2.1 ((ST32.un x1).2.2))]] a w → fc5_.j2 x1 y6 = some r → K2 a w := by
    intro m y6 g6 a w S h0
    delta fc5_.j2 at h0
    refine hK2 a w (wp_seq_k fun K3 hK3 => ?_)
    have j3 : ∀ m y7 a w, St 36 m b0 [(3, (.i y7))] [] a w → fc5_.j3 y7 = some r → K3 a w := by
     intro m y7 a w S h0
     delta fc5_.j3 at h0
     refine hK3 a w (c_region (s_move S rfl rfl fun a S => s_min2 S rfl rfl rfl fun a S => s_assign S rfl rfl fun a S => c_end (wp_ret ?_)))
     obtain rfl := Option.some.inj h0
     exact b_ret1 (d := (.i (imin y7 1099511627776))) S rfl rfl (S.rt hb)
    refine c_region (s_fieldAddr S rfl I32_0 T3 (by decide) rfl rfl fun a S => s_load1 S rfl .h T3 (v := (.int .i64 ((ST32.un x1).1))) rfl rfl fun a S => s_bin S rfl rfl rfl rfl fun a S => c_end ?_)
    rcases ite_of h0 with ⟨c2, h1⟩ | ⟨c2, h1⟩
    ·refine c_condT S rfl c2 (c_region' (s_move S rfl rfl fun a S => s_fieldAddr S rfl I32_1 T3 (by decide) rfl rfl fun a S => s_load1 S rfl .h T3 (v := (.int .i64 ((ST32.un x1).2.1))) rfl rfl fun a S => s_bin S rfl rfl rfl rfl fun a S => s_assign S rfl rfl fun a S => c_end' (x_thenN ?_)))
     exact j3 _ (wr .i64 (y6 * ((ST32.un x1).2.1))) a w (S.sub ⟨rfl, trivial⟩ .nil) h1
    ·refine c_condF S rfl c2 (wp_skip (x_thenN ?_))
     exact j3 _ y6 a w (S.sub ⟨rfl, trivial⟩ .nil) h1
   refine c_region (s_fieldAddr S rfl I32_2 T30 (by decide) rfl rfl fun a S => s_loadSl S rfl .h T30 (A := ch_0_0.2.2.1) (len := ((ST32.un x1).2.2).length) (cap := ch_0_0.2.2.2) rfl rfl fun a S => s_lenS S rfl underlying30 rfl fun a S => s_move S rfl rfl fun a S => c_end (wp_block ?_))
   refine c_loop (fun q1 a w => ∃ m y10 y11 g9, St 36 m b0 [(15, (.i y10)), (14, (.i (((ST32.un x1).2.2).length : Int))), (3, (.i y11)), (1, (.p g9))] [Res.cells g9 32 [.i ((ST32.un x1).1), .i ((ST32.un x1).2.1), .sl ch_0_0.2.2.1 ((ST32.un x1).2.2).length ch_0_0.2.2.2 (SR32 ch_0_0.2.2.1 ((ST32.un x1).2.2))]] a w ∧ fc5_.l1 self0 x1 q1 y10 y11 = some r) ?_ ?_ (k := k) ⟨_, 0, 0, g2, (S.sb rfl (.c0 .n)), h1⟩
   ·rintro a w ⟨m, y10, y11, g9, S, h0⟩
    exact (nomatch (show (none : Option Int) = some r from h0))
   ·clear S h1
    rintro q1 a w ⟨m, y10, y11, g9, S, h0⟩
    replace h0 : fc5_.b1 self0 x1 (fc5_.l1 self0 x1 q1) y10 y11 = some r := h0
    delta fc5_.b1 at h0
    refine c_region (s_bin S rfl rfl rfl rfl fun a S => c_end (wp_seq ?_))
    rcases ite_of h0 with ⟨c3, h1⟩ | ⟨c3, h1⟩
    ·refine c_condT S rfl c3 (wp_skip (x_thenN (wp_seq (wp_block (c_region (s_move S rfl rfl fun a S => s_assign S rfl rfl fun a S => c_end (c_region' (s_move S rfl rfl fun a S => s_fieldAddr S rfl I32_2 T30 (by decide) rfl rfl fun a S => s_loadSl S rfl .h T30 (A := ch_0_0.2.2.1) (len := ((ST32.un x1).2.2).length) (cap := ch_0_0.2.2.2) rfl rfl fun a S => s_move S rfl rfl fun a S => ?_))))))))
     obtain ⟨c4, h2⟩ := chk_of h1; clear h1
     simp only [SE32] at S
     refine s_iaddrS S rfl rfl rfl underlying30 T32 c4.1 c4.2 rfl fun p1 a S => ?_
     simp only [← SE32] at S
     refine s_ldA S (fun (c : Unit × Unit × (Option Addr × Nat)) => [.i ((ST32.un (gt ((ST32.un x1).2.2) y10)).1), .i ((ST32.un (gt ((ST32.un x1).2.2) y10)).2.1), .sl c.2.2.1 ((ST32.un (gt ((ST32.un x1).2.2) y10)).2.2).length c.2.2.2 (SR32 c.2.2.1 ((ST32.un (gt ((ST32.un x1).2.2) y10)).2.2))]) rfl T32 (fun _ => rfl) rfl fun ch1 a S => ?_
     refine bindX h2 fun t1 et1 h3 => s_callP S _ N14 rfl rfl (c_0 (gt ((ST32.un x1).2.2) y10) ((), (), (ch1.2.2.1, ch1.2.2.2)) t1 et1 _ _) fun ch2 m le1 a w S => s_bin S rfl rfl rfl rfl fun a S => s_assign S rfl rfl fun a S => c_end' (x_blockN (x_thenN (c_region' (s_bin S rfl rfl rfl rfl fun a S => s_move S rfl rfl fun a S => c_end' (x_thenN ?_)))))
     exact ⟨_, (wr .i64 (y10 + 1)), (wr .i64 (y11 + t1)), g9, (S.sb rfl (.c0 .n)), h3⟩
    ·refine c_condF S rfl c3 (wp_exit (x_thenX (x_thenX (x_blockX (x_thenN ?_)))))
     exact j2 _ y11 g9 a w (S.sb rfl (.c0 .n)) h1
 refine c_region' (s_loada S rfl .h T32 (s' := [.i ((ST32.un x1).1), .i ((ST32.un x1).2.1), .sl ch_0_0.2.2.1 ((ST32.un x1).2.2).length ch_0_0.2.2.2 (SR32 ch_0_0.2.2.1 ((ST32.un x1).2.2))]) rfl rfl fun a S => bindX h0 fun t2 et2 h1 => s_callP S _ N15 rfl rfl (fa5_.ok k x1 ((), (), (ch_0_0.2.2.1, ch_0_0.2.2.2)) t2 et2 _ _) fun ch3 m le1 a w S => s_move S rfl rfl fun a S => ?_)
 rcases ite_of h1 with ⟨c5, h2⟩ | ⟨c5, h2⟩
 ·refine s_gF S (b := t2) rfl rfl c5 rfl fun a S => s_gF S (b := t2) rfl rfl c5 rfl fun a S => s_gF S (b := t2) rfl rfl c5 rfl fun a S => s_pick S (b := true) (hc_of rfl c5) rfl rfl fun a S => c_end' (x_thenN ?_)
  exact j1 _ true g1 a w (S.sb rfl (.c0 .n)) h2
 ·refine s_gT S (b := t2) rfl rfl c5 (s_fieldAddr S rfl I32_0 T3 (by decide) rfl rfl fun a S => s_gT S (b := t2) rfl rfl c5 (s_load1 S rfl .h T3 (v := (.int .i64 ((ST32.un x1).1))) rfl rfl fun a S => s_gT S (b := t2) rfl rfl c5 (s_bin S rfl rfl rfl rfl fun a S => s_pick S (b := false) (hc_of rfl c5) rfl rfl fun a S => c_end' (x_thenN ?_))))
  exact j1 _ (decide (((ST32.un x1).1) < 3)) g1 a w (S.sb rfl (.c0 .n)) h2
def fc5_.f : Nat → fc5_.Ty
  | 0 => fun _ => none
  | k + 1 => fc5_.body (fc5_.f k) k
theorem fc5_.oks : ∀ k : Nat, fc5_.Ctr (fc5_.f k)
  | 0 => fun _ _ r h0 => (nomatch (show (none : Option Int) = some r from h0))
  | k + 1 => by
    have ih := fc5_.oks k
    exact fc5_.okb (fc5_.f k) ih k
theorem fc5_.ok (k : Nat) : fc5_.Ctr (fc5_.f k) := (fc5_.oks k)
abbrev fd5_.Ty : Type := ST32 → Int → Option ST32
def fd5_.Ctr (s : fd5_.Ty) : Prop := ∀ (x1 : ST32) (x2 : Int) (ch_0_0 : Unit × Unit × (Option Addr × Nat)) (r : ST32), Ct (C := ((Unit × Unit × (Option Addr × Nat)))) Tryd.prog 52 (s x1 x2 = some r) [] [(.agg [.i ((ST32.un x1).1), .i ((ST32.un x1).2.1), .sl ch_0_0.2.2.1 ((ST32.un x1).2.2).length ch_0_0.2.2.2 (SR32 ch_0_0.2.2.1 ((ST32.un x1).2.2))]), (.i x2)] (fun ch => (.agg [.i ((ST32.un r).1), .i ((ST32.un r).2.1), .sl ch.2.2.1 ((ST32.un r).2.2).length ch.2.2.2 (SR32 ch.2.2.1 ((ST32.un r).2.2))])) fun _ => []
def fd5_.f (x1 : ST32) (x2 : Int) : Option ST32 := if (((ST32.un x1).1) == 6) = true then (if (0 : Int) ≤ x2 ∧ x2 < (((ST32.un x1).2.2).length : Int) then (some (gt ((ST32.un x1).2.2) x2)) else none) else (if (0 : Int) ≤ 0 ∧ 0 < (((ST32.un x1).2.2).length : Int) then (some (gt ((ST32.un x1).2.2) 0)) else none)
theorem fd5_.ok : fd5_.Ctr (fd5_.f) := by
 intro x1 x2 ch_0_0 r h0 mi w0 ok hm
 delta fd5_.f at h0
 refine c_enterZ (n := 17) ok hm func52 rfl rfl rfl fun b0 hb a S => c_region (s_box S rfl rfl rfl fun g1 a w S => s_alloc S Z32 rfl ⟨rfl, rfl, rfl, trivial⟩ rfl fun g2 a w S => c_end (wp_seq (c_region (s_fieldAddr S rfl I32_0 T3 (by decide) rfl rfl fun a S => s_load1 S rfl .h1 T3 (v := (.int .i64 ((ST32.un x1).1))) rfl rfl fun a S => s_bin S rfl rfl rfl rfl fun a S => c_end ?_))))
 rcases ite_of h0 with ⟨c1, h1⟩ | ⟨c1, h1⟩
 ·refine c_condT S rfl c1 (c_region (s_fieldAddr S rfl I32_2 T30 (by decide) rfl rfl fun a S => s_loadSl S rfl .h1 T30 (A := ch_0_0.2.2.1) (len := ((ST32.un x1).2.2).length) (cap := ch_0_0.2.2.2) rfl rfl fun a S => s_move S rfl rfl fun a S => ?_))
  obtain ⟨c2, h2⟩ := chk_of h1; clear h1
  simp only [SE32] at S
  refine s_iaddrS S rfl rfl rfl underlying30 T32 c2.1 c2.2 rfl fun p1 a S => ?_
  simp only [← SE32] at S
  refine s_ldA S (fun (c : Unit × Unit × (Option Addr × Nat)) => [.i ((ST32.un (gt ((ST32.un x1).2.2) x2)).1), .i ((ST32.un (gt ((ST32.un x1).2.2) x2)).2.1), .sl c.2.2.1 ((ST32.un (gt ((ST32.un x1).2.2) x2)).2.2).length c.2.2.2 (SR32 c.2.2.1 ((ST32.un (gt ((ST32.un x1).2.2) x2)).2.2))]) rfl T32 (fun _ => rfl) rfl fun ch1 a S => ?_
  refine s_store S rfl rfl rfl (s' := [.i ((ST32.un (gt ((ST32.un x1).2.2) x2)).1), .i ((ST32.un (gt ((ST32.un x1).2.2) x2)).2.1), .sl ch1.2.2.1 ((ST32.un (gt ((ST32.un x1).2.2) x2)).2.2).length ch1.2.2.2 (SR32 ch1.2.2.1 ((ST32.un (gt ((ST32.un x1).2.2) x2)).2.2))]) .h T32 rfl rfl fun w S => c_end (wp_ret (x_thenR ?_))
  obtain rfl := Option.some.inj h2
  exact b_ret1 (d := (.agg [.i ((ST32.un (gt ((ST32.un x1).2.2) x2)).1), .i ((ST32.un (gt ((ST32.un x1).2.2) x2)).2.1), .sl ch1.2.2.1 ((ST32.un (gt ((ST32.un x1).2.2) x2)).2.2).length ch1.2.2.2 (SR32 ch1.2.2.1 ((ST32.un (gt ((ST32.un x1).2.2) x2)).2.2))])) S rfl (resD_cell rfl .h T32 rfl rfl) fun ok => S.retX (Hx := []) hb _ _ (((), (), (ch1.2.2.1, ch1.2.2.2)) : (Unit × Unit × (Option Addr × Nat))) .nil ok
 ·refine c_condF S rfl c1 (wp_skip (x_thenN (c_region (s_fieldAddr S rfl I32_2 T30 (by decide) rfl rfl fun a S => s_loadSl S rfl .h1 T30 (A := ch_0_0.2.2.1) (len := ((ST32.un x1).2.2).length) (cap := ch_0_0.2.2.2) rfl rfl fun a S => ?_))))
  obtain ⟨c3, h2⟩ := chk_of h1; clear h1
  simp only [SE32] at S
  refine s_iaddrS S rfl rfl rfl underlying30 T32 c3.1 c3.2 rfl fun p2 a S => ?_
  simp only [← SE32] at S
  refine s_ldA S (fun (c : Unit × Unit × (Option Addr × Nat)) => [.i ((ST32.un (gt ((ST32.un x1).2.2) 0)).1), .i ((ST32.un (gt ((ST32.un x1).2.2) 0)).2.1), .sl c.2.2.1 ((ST32.un (gt ((ST32.un x1).2.2) 0)).2.2).length c.2.2.2 (SR32 c.2.2.1 ((ST32.un (gt ((ST32.un x1).2.2) 0)).2.2))]) rfl T32 (fun _ => rfl) rfl fun ch2 a S => ?_
  refine s_store S rfl rfl rfl (s' := [.i ((ST32.un (gt ((ST32.un x1).2.2) 0)).1), .i ((ST32.un (gt ((ST32.un x1).2.2) 0)).2.1), .sl ch2.2.2.1 ((ST32.un (gt ((ST32.un x1).2.2) 0)).2.2).length ch2.2.2.2 (SR32 ch2.2.2.1 ((ST32.un (gt ((ST32.un x1).2.2) 0)).2.2))]) .h T32 rfl rfl fun w S => c_end (wp_ret ?_)
  obtain rfl := Option.some.inj h2
  exact b_ret1 (d := (.agg [.i ((ST32.un (gt ((ST32.un x1).2.2) 0)).1), .i ((ST32.un (gt ((ST32.un x1).2.2) 0)).2.1), .sl ch2.2.2.1 ((ST32.un (gt ((ST32.un x1).2.2) 0)).2.2).length ch2.2.2.2 (SR32 ch2.2.2.1 ((ST32.un (gt ((ST32.un x1).2.2) 0)).2.2))])) S rfl (resD_cell rfl .h T32 rfl rfl) fun ok => S.retX (Hx := []) hb _ _ (((), (), (ch2.2.2.1, ch2.2.2.2)) : (Unit × Unit × (Option Addr × Nat))) .nil ok
end
end GW
