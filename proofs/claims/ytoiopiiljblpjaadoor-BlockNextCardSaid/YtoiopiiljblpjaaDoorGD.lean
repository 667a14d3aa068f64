import Derived.Test.YtoiopiiljblpjaaDoorProg
import Derived.Test.YtoiopiiljblpjaaDoorGC
set_option linter.unusedVariables false
set_option maxRecDepth 10000
namespace GW
open Go Go.RowKit Go.Proofs Go.Proofs.Tryd
abbrev smithyref05_Round.Ty : Type := (List Int) → Int → Option ((List Int))
def smithyref05_Round.Ctr (s : smithyref05_Round.Ty) : Prop := ∀ (x1 : List Int) (x2 : Int) (r : (List Int)), Ct (C := Unit) Tryd.prog 88 (s x1 x2 = some r) [] [(.agg [.ints .u64 x1 25]), (.w x2)] (fun _ => (.agg [.ints .u64 r 25])) fun _ => []
def smithyref05_Round.j4 (x2 : Int) (y40 : List Int) : Option ((List Int)) := some (y40.set (Int.toNat 0) (bits .xor .u64 (rd y40 0) x2))
def smithyref05_Round.j5 (y53 : Int) (rec1 : Int → (List Int) → Option ((List Int))) (y59 : List Int) : Option ((List Int)) := rec1 (wr .i64 (y53 + 1)) y59
def smithyref05_Round.b2 (y25 : List Int) (y53 : Int) (rec1 : Int → (List Int) → Option ((List Int))) (rec2 : Int → (List Int) → Option ((List Int))) (y62 : Int) (y63 : List Int) : Option ((List Int)) := if (decide (y62 < 5)) = true then (if (0 : Int) ≤ (wr .i64 (y53 + (wr .i64 (5 * y62)))) ∧ (wr .i64 (y53 + (wr .i64 (5 * y62)))) < 25 then (if (0 : Int) ≤ (wr .i64 ((Int.tmod (wr .i64 (y53 + 1)) 5) + (wr .i64 (5 * y62)))) ∧ (wr .i64 ((Int.tmod (wr .i64 (y53 + 1)) 5) + (wr .i64 (5 * y62)))) < 25 then (if (0 : Int) ≤ (wr .i64 ((Int.tmod (wr .i64 (y53 + 2)) 5) + (wr .i64 (5 * y62)))) ∧ (wr .i64 ((Int.tmod (wr .i64 (y53 + 2)) 5) + (wr .i64 (5 * y62)))) < 25 then (rec2 (wr .i64 (y62 + 1)) (y63.set (Int.toNat (wr .i64 (y53 + (wr .i64 (5 * y62))))) (bits .xor .u64 (rd y25 (wr .i64 (y53 + (wr .i64 (5 * y62))))) (bits .and .u64 (wr .u64 (18446744073709551615 - (rd y25 (wr .i64 ((Int.tmod (wr .i64 (y53 + 1)) 5) + (wr .i64 (5 * y62))))))) (rd y25 (wr .i64 ((Int.tmod (wr .i64 (y53 + 2)) 5) + (wr .i64 (5 * y62))))))))) else none) else none) else none) else (smithyref05_Round.j5 y53 rec1 y63)
def smithyref05_Round.l2 (y25 : List Int) (y53 : Int) (rec1 : Int → (List Int) → Option ((List Int))) : Nat → Int → (List Int) → Option ((List Int))
  | 0, _, _ => none
  | q + 1, y62, y63 => smithyref05_Round.b2 y25 y53 rec1 (smithyref05_Round.l2 y25 y53 rec1 q) y62 y63
def smithyref05_Round.b1 (k : Nat) (x2 : Int) (y25 : List Int) (rec1 : Int → (List Int) → Option ((List Int))) (y53 : Int) (y54 : List Int) : Option ((List Int)) := if (decide (y53 < 5)) = true then (smithyref05_Round.l2 y25 y53 rec1 k 0 y54) else (smithyref05_Round.j4 x2 y54)
def smithyref05_Round.l1 (k : Nat) (x2 : Int) (y25 : List Int) : Nat → Int → (List Int) → Option ((List Int))
  | 0, _, _ => none
  | q + 1, y53, y54 => smithyref05_Round.b1 k x2 y25 (smithyref05_Round.l1 k x2 y25 q) y53 y54
def smithyref05_Round.j3 (k : Nat) (x2 : Int) (y25 : List Int) : Option ((List Int)) := smithyref05_Round.l1 k x2 y25 k 0 [0, 0, 0, 0, 0, 0, 0, 0, 0, 0, 0, 0, 0, 0, 0, 0, 0, 0, 0, 0, 0, 0, 0, 0, 0]
def smithyref05_Round.b3 (k : Nat) (x2 : Int) (y16 : List Int) (rec3 : Int → Int → Int → (List Int) → Option ((List Int))) (y68 : Int) (y69 : Int) (y70 : Int) (y71 : List Int) : Option ((List Int)) := if (decide (y68 < 24)) = true then (if (0 : Int) ≤ (wr .i64 (y70 + (wr .i64 (5 * y69)))) ∧ (wr .i64 (y70 + (wr .i64 (5 * y69)))) < 25 then ((smithyref05_up.f (rd y16 (wr .i64 (y70 + (wr .i64 (5 * y69))))) (wr .i64 (Int.tdiv (wr .i64 ((wr .i64 (y68 + 1)) * (wr .i64 (y68 + 2)))) 2))).bind fun t1 => (if (0 : Int) ≤ (wr .i64 (y69 + (wr .i64 (5 * (Int.tmod (wr .i64 ((wr .i64 (2 * y70)) + (wr .i64 (3 * y69)))) 5))))) ∧ (wr .i64 (y69 + (wr .i64 (5 * (Int.tmod (wr .i64 ((wr .i64 (2 * y70)) + (wr .i64 (3 * y69)))) 5))))) < 25 then (rec3 (wr .i64 (y68 + 1)) (Int.tmod (wr .i64 ((wr .i64 (2 * y70)) + (wr .i64 (3 * y69)))) 5) y69 (y71.set (Int.toNat (wr .i64 (y69 + (wr .i64 (5 * (Int.tmod (wr .i64 ((wr .i64 (2 * y70)) + (wr .i64 (3 * y69)))) 5)))))) t1)) else none)) else none) else (smithyref05_Round.j3 k x2 y71)
def smithyref05_Round.l3 (k : Nat) (x2 : Int) (y16 : List Int) : Nat → Int → Int → Int → (List Int) → Option ((List Int))
  | 0, _, _, _, _ => none
  | q + 1, y68, y69, y70, y71 => smithyref05_Round.b3 k x2 y16 (smithyref05_Round.l3 k x2 y16 q) y68 y69 y70 y71
def smithyref05_Round.j2 (k : Nat) (x2 : Int) (y16 : List Int) : Option ((List Int)) := smithyref05_Round.l3 k x2 y16 k 0 0 1 ([0, 0, 0, 0, 0, 0, 0, 0, 0, 0, 0, 0, 0, 0, 0, 0, 0, 0, 0, 0, 0, 0, 0, 0, 0].set (Int.toNat 0) (rd y16 0))
def smithyref05_Round.j6 (y84 : Int) (rec4 : Int → (List Int) → Option ((List Int))) (y90 : List Int) : Option ((List Int)) := rec4 (wr .i64 (y84 + 1)) y90
def smithyref05_Round.b5 (x1 : List Int) (y1 : List Int) (y84 : Int) (rec4 : Int → (List Int) → Option ((List Int))) (rec5 : Int → (List Int) → Option ((List Int))) (y93 : Int) (y94 : List Int) : Option ((List Int)) := if (decide (y93 < 5)) = true then (if (0 : Int) ≤ (wr .i64 (y84 + (wr .i64 (5 * y93)))) ∧ (wr .i64 (y84 + (wr .i64 (5 * y93)))) < 25 then (if (0 : Int) ≤ (Int.tmod (wr .i64 (y84 + 4)) 5) ∧ (Int.tmod (wr .i64 (y84 + 4)) 5) < 5 then (if (0 : Int) ≤ (Int.tmod (wr .i64 (y84 + 1)) 5) ∧ (Int.tmod (wr .i64 (y84 + 1)) 5) < 5 then ((smithyref05_up.f (rd y1 (Int.tmod (wr .i64 (y84 + 1)) 5)) 1).bind fun t4 => (rec5 (wr .i64 (y93 + 1)) (y94.set (Int.toNat (wr .i64 (y84 + (wr .i64 (5 * y93))))) (bits .xor .u64 (bits .xor .u64 (rd x1 (wr .i64 (y84 + (wr .i64 (5 * y93))))) (rd y1 (Int.tmod (wr .i64 (y84 + 4)) 5))) t4)))) else none) else none) else none) else (smithyref05_Round.j6 y84 rec4 y94)
def smithyref05_Round.l5 (x1 : List Int) (y1 : List Int) (y84 : Int) (rec4 : Int → (List Int) → Option ((List Int))) : Nat → Int → (List Int) → Option ((List Int))
  | 0, _, _ => none
  | q + 1, y93, y94 => smithyref05_Round.b5 x1 y1 y84 rec4 (smithyref05_Round.l5 x1 y1 y84 rec4 q) y93 y94
def smithyref05_Round.b4 (k : Nat) (x1 : List Int) (x2 : Int) (y1 : List Int) (rec4 : Int → (List Int) → Option ((List Int))) (y84 : Int) (y85 : List Int) : Option ((List Int)) := if (decide (y84 < 5)) = true then (smithyref05_Round.l5 x1 y1 y84 rec4 k 0 y85) else (smithyref05_Round.j2 k x2 y85)
def smithyref05_Round.l4 (k : Nat) (x1 : List Int) (x2 : Int) (y1 : List Int) : Nat → Int → (List Int) → Option ((List Int))
  | 0, _, _ => none
  | q + 1, y84, y85 => smithyref05_Round.b4 k x1 x2 y1 (smithyref05_Round.l4 k x1 x2 y1 q) y84 y85
def smithyref05_Round.j1 (k : Nat) (x1 : List Int) (x2 : Int) (y1 : List Int) : Option ((List Int)) := smithyref05_Round.l4 k x1 x2 y1 k 0 [0, 0, 0, 0, 0, 0, 0, 0, 0, 0, 0, 0, 0, 0, 0, 0, 0, 0, 0, 0, 0, 0, 0, 0, 0]
def smithyref05_Round.j7 (y107 : Int) (rec6 : Int → (List Int) → Option ((List Int))) (y113 : List Int) : Option ((List Int)) := rec6 (wr .i64 (y107 + 1)) y113
def smithyref05_Round.b7 (x1 : List Int) (y107 : Int) (rec6 : Int → (List Int) → Option ((List Int))) (rec7 : Int → (List Int) → Option ((List Int))) (y116 : Int) (y117 : List Int) : Option ((List Int)) := if (decide (y116 < 5)) = true then (if (0 : Int) ≤ y107 ∧ y107 < 5 then (if (0 : Int) ≤ (wr .i64 (y107 + (wr .i64 (5 * y116)))) ∧ (wr .i64 (y107 + (wr .i64 (5 * y116)))) < 25 then (rec7 (wr .i64 (y116 + 1)) (y117.set (Int.toNat y107) (bits .xor .u64 (rd y117 y107) (rd x1 (wr .i64 (y107 + (wr .i64 (5 * y116)))))))) else none) else none) else (smithyref05_Round.j7 y107 rec6 y117)
def smithyref05_Round.l7 (x1 : List Int) (y107 : Int) (rec6 : Int → (List Int) → Option ((List Int))) : Nat → Int → (List Int) → Option ((List Int))
  | 0, _, _ => none
  | q + 1, y116, y117 => smithyref05_Round.b7 x1 y107 rec6 (smithyref05_Round.l7 x1 y107 rec6 q) y116 y117
def smithyref05_Round.b6 (k : Nat) (x1 : List Int) (x2 : Int) (rec6 : Int → (List Int) → Option ((List Int))) (y107 : Int) (y108 : List Int) : Option ((List Int)) := if (decide (y107 < 5)) = true then (smithyref05_Round.l7 x1 y107 rec6 k 0 y108) else (smithyref05_Round.j1 k x1 x2 y108)
def smithyref05_Round.l6 (k : Nat) (x1 : List Int) (x2 : Int) : Nat → Int → (List Int) → Option ((List Int))
  | 0, _, _ => none
  | q + 1, y107, y108 => smithyref05_Round.b6 k x1 x2 (smithyref05_Round.l6 k x1 x2 q) y107 y108
def smithyref05_Round.f (k : Nat) (x1 : List Int) (x2 : Int) : Option ((List Int)) := smithyref05_Round.l6 k x1 x2 k 0 [0, 0, 0, 0, 0]
theorem smithyref05_Round.ok (k : Nat) : smithyref05_Round.Ctr (smithyref05_Round.f k) := by
 intro x1 x2 r h0 mi w0 ok hm
 delta smithyref05_Round.f at h0
 refine c_enterZ (n := 157) ok hm func88 rfl rfl rfl fun b0 hb a S => c_region (s_box S rfl rfl rfl fun g1 a w S => s_alloc S Z100 rfl ⟨rfl, trivial⟩ rfl fun g2 a w S => c_end (c_region (s_build S (ds := []) (dv := (.agg [.ints .u64 [0, 0, 0, 0, 0] 5])) rfl (fun _ => by kernel_rfl) ⟨rfl, trivial⟩ rfl fun a S => s_alloc S Z128 rfl ⟨rfl, trivial⟩ rfl fun g3 a w S => s_store S rfl rfl rfl (s' := [.ints .u64 [0, 0, 0, 0, 0] 5]) .h T128 rfl rfl fun w S => c_end (wp_seq_k fun K1 hK1 => ?_))))
 have j1 : ∀ m g37 g38 g39 y1 a w, St 157 m b0 [(5, (.p g37)), (4, (.p g38)), (2, (.p g39)), (1, (.w x2))] [Res.cells g37 128 [.ints .u64 y1 5], Res.cells g38 100 [.ints .u64 z25 25], Res.cells g39 100 [.ints .u64 x1 25]] a w → smithyref05_Round.j1 k x1 x2 y1 = some r → K1 a w := by
  intro m g37 g38 g39 y1 a w S h0
  delta smithyref05_Round.j1 at h0
  refine hK1 a w (c_region (s_build S (ds := []) (dv := (.agg [.ints .u64 z25 25])) rfl (fun _ => by kernel_rfl) ⟨rfl, trivial⟩ rfl fun a S => s_alloc S Z100 rfl ⟨rfl, trivial⟩ rfl fun g40 a w S => s_store S rfl rfl rfl (s' := [.ints .u64 z25 25]) .h T100 rfl rfl fun w S => c_end (wp_seq_k fun K2 hK2 => ?_)))
  have j2 : ∀ m g85 g86 y16 a w, St 157 m b0 [(8, (.p g85)), (4, (.p g86)), (1, (.w x2))] [Res.cells g85 100 [.ints .u64 y16 25], Res.cells g86 100 [.ints .u64 z25 25]] a w → smithyref05_Round.j2 k x2 y16 = some r → K2 a w := by
   intro m g85 g86 y16 a w S h0
   delta smithyref05_Round.j2 at h0
   refine hK2 a w (c_region (s_build S (ds := []) (dv := (.agg [.ints .u64 z25 25])) rfl (fun _ => by kernel_rfl) ⟨rfl, trivial⟩ rfl fun a S => s_alloc S Z100 rfl ⟨rfl, trivial⟩ rfl fun g87 a w S => s_store S rfl rfl rfl (s' := [.ints .u64 z25 25]) .h T100 rfl rfl fun w S => c_end (c_region (s_iaddr S (o' := 0) rfl rfl underlying100 T24 (by decide) (by decide) rfl rfl fun a S => s_loadi S (i := 0) rfl .h1 T24 .h rfl (by decide) (by decide) rfl fun a S => s_iaddr S (o' := 0) rfl rfl underlying100 T24 (by decide) (by decide) rfl rfl fun a S => s_storei S (i := 0) rfl rfl .h T24 .h rfl (by decide) (by decide) fun w S => c_end (c_region (s_assign S rfl rfl fun a S => c_end (c_region (s_assign S rfl rfl fun a S => c_end (wp_seq_k fun K3 hK3 => ?_)))))))))
   have j3 : ∀ m g97 g98 y25 a w, St 157 m b0 [(11, (.p g97)), (4, (.p g98)), (1, (.w x2))] [Res.cells g97 100 [.ints .u64 y25 25], Res.cells g98 100 [.ints .u64 z25 25]] a w → smithyref05_Round.j3 k x2 y25 = some r → K3 a w := by
    intro m g97 g98 y25 a w S h0
    delta smithyref05_Round.j3 at h0
    refine hK3 a w (c_region (s_build S (ds := []) (dv := (.agg [.ints .u64 z25 25])) rfl (fun _ => by kernel_rfl) ⟨rfl, trivial⟩ rfl fun a S => s_alloc S Z100 rfl ⟨rfl, trivial⟩ rfl fun g99 a w S => s_store S rfl rfl rfl (s' := [.ints .u64 z25 25]) .h T100 rfl rfl fun w S => c_end (wp_seq_k fun K4 hK4 => ?_)))
    have j4 : ∀ m g133 g134 y40 a w, St 157 m b0 [(16, (.p g133)), (4, (.p g134)), (1, (.w x2))] [Res.cells g133 100 [.ints .u64 y40 25], Res.cells g134 100 [.ints .u64 z25 25]] a w → smithyref05_Round.j4 x2 y40 = some r → K4 a w := by
     intro m g133 g134 y40 a w S h0
     delta smithyref05_Round.j4 at h0
     refine hK4 a w (c_region (s_iaddr S (o' := 0) rfl rfl underlying100 T24 (by decide) (by decide) rfl rfl fun a S => s_loadi S (i := 0) rfl .h T24 .h rfl (by decide) (by decide) rfl fun a S => s_move S rfl rfl fun a S => s_bin S rfl rfl rfl rfl fun a S => s_iaddr S (o' := 0) rfl rfl underlying100 T24 (by decide) (by decide) rfl rfl fun a S => s_storei S (i := 0) rfl rfl .h T24 .h rfl (by decide) (by decide) fun w S => c_end (c_region (s_loada S rfl .h T100 (s' := [.ints .u64 (y40.set (Int.toNat 0) (bits .xor .u64 (rd y40 0) x2)) 25]) rfl rfl fun a S => s_store S rfl rfl rfl (s' := [.ints .u64 (y40.set (Int.toNat 0) (bits .xor .u64 (rd y40 0) x2)) 25]) .h1 T100 rfl rfl fun w S => c_end (wp_ret ?_)))))
     obtain rfl := Option.some.inj h0
     exact b_ret1 (d := (.agg [.ints .u64 (y40.set (Int.toNat 0) (bits .xor .u64 (rd y40 0) x2)) 25])) S rfl (resD_cell rfl .h1 T100 rfl rfl) (S.rt hb)
    refine c_region (s_assign S rfl rfl fun a S => c_end (wp_block ?_))
    refine c_loop (fun q1 a w => ∃ m y53 g165 g166 g167 y54, St 157 m b0 [(17, (.i y53)), (16, (.p g165)), (11, (.p g166)), (4, (.p g167)), (1, (.w x2))] [Res.cells g165 100 [.ints .u64 y54 25], Res.cells g166 100 [.ints .u64 y25 25], Res.cells g167 100 [.ints .u64 z25 25]] a w ∧ smithyref05_Round.l1 k x2 y25 q1 y53 y54 = some r) ?_ ?_ (k := k) ⟨_, 0, g99, g97, g98, z25, (S.sb rfl (.c0 (.c0 (.c0 .n)))), h0⟩
    ·rintro a w ⟨m, y53, g165, g166, g167, y54, S, h0⟩
     exact (nomatch (show (none : Option ((List Int))) = some r from h0))
    ·clear S h0
     rintro q1 a w ⟨m, y53, g165, g166, g167, y54, S, h0⟩
     replace h0 : smithyref05_Round.b1 k x2 y25 (smithyref05_Round.l1 k x2 y25 q1) y53 y54 = some r := h0
     delta smithyref05_Round.b1 at h0
     refine wp_seq (c_region (s_move S rfl rfl fun a S => s_bin S rfl rfl rfl rfl fun a S => c_end ?_))
     rcases ite_of h0 with ⟨c1, h1⟩ | ⟨c1, h1⟩
     ·refine c_condT S rfl c1 (wp_skip (x_thenN (wp_seq_k fun K5 hK5 => ?_)))
      have j5 : ∀ m g177 g178 g179 y59 a w, St 157 m b0 [(17, (.i y53)), (16, (.p g177)), (11, (.p g178)), (4, (.p g179)), (1, (.w x2))] [Res.cells g177 100 [.ints .u64 y59 25], Res.cells g178 100 [.ints .u64 y25 25], Res.cells g179 100 [.ints .u64 z25 25]] a w → smithyref05_Round.j5 y53 (smithyref05_Round.l1 k x2 y25 q1) y59 = some r → K5 a w := by
       intro m g177 g178 g179 y59 a w S h0
       delta smithyref05_Round.j5 at h0
       refine hK5 a w (c_region' (s_move S rfl rfl fun a S => s_bin S rfl rfl rfl rfl fun a S => s_assign S rfl rfl fun a S => c_end' (x_thenN ?_)))
       exact ⟨_, (wr .i64 (y53 + 1)), g177, g178, g179, y59, (S.sb rfl (.c0 (.c0 (.c0 .n)))), h0⟩
      refine wp_block (c_region (s_assign S rfl rfl fun a S => c_end (wp_block ?_)))
      refine c_loop (fun q2 a w => ∃ m y62 g186 g187 g188 y63, St 157 m b0 [(18, (.i y62)), (17, (.i y53)), (16, (.p g186)), (11, (.p g187)), (4, (.p g188)), (1, (.w x2))] [Res.cells g186 100 [.ints .u64 y63 25], Res.cells g187 100 [.ints .u64 y25 25], Res.cells g188 100 [.ints .u64 z25 25]] a w ∧ smithyref05_Round.l2 y25 y53 (smithyref05_Round.l1 k x2 y25 q1) q2 y62 y63 = some r) ?_ ?_ (k := k) ⟨_, 0, g165, g166, g167, y54, (S.sb rfl (.c0 (.c0 (.c0 .n)))), h1⟩
      ·rintro a w ⟨m, y62, g186, g187, g188, y63, S, h0⟩
       exact (nomatch (show (none : Option ((List Int))) = some r from h0))
      ·clear S h1
       rintro q2 a w ⟨m, y62, g186, g187, g188, y63, S, h0⟩
       replace h0 : smithyref05_Round.b2 y25 y53 (smithyref05_Round.l1 k x2 y25 q1) (smithyref05_Round.l2 y25 y53 (smithyref05_Round.l1 k x2 y25 q1) q2) y62 y63 = some r := h0
       delta smithyref05_Round.b2 at h0
       refine wp_seq (c_region (s_move S rfl rfl fun a S => s_bin S rfl rfl rfl rfl fun a S => c_end ?_))
       rcases ite_of h0 with ⟨c2, h1⟩ | ⟨c2, h1⟩
       ·refine c_condT S rfl c2 (wp_skip (x_thenN (wp_seq (wp_block (c_heldS S (.take 0 (.take 1 (.take 2 (.take 3 (.take 4 (.take 5 (.take 6 (.take 7 (.take 8 (.take 9 (.take 10 (.take 11 (.take 12 (.take 13 (.take 14 (.take 15 (.take 16 (.take 17 (.take 18 (.take 19 (.take 20 (.take 21 (.take 22 (.take 23 (.take 24 (.take 25 (.take 26 (.take 27 (.take 28 (.take 29 (.alts (.run 30 false .done .nil)))))))))))))))))))))))))))))))) 30 [Res.cells g186 100 [.ints .u64 y63 25], Res.cells g187 100 [.ints .u64 y25 25], Res.cells g188 100 [.ints .u64 z25 25]] (.c0 (.c0 (.c0 .n))) ⟨Res.stay_cells, Res.stay_cells, Res.stay_cells, trivial⟩ [(18, (.i y62)), (17, (.i y53)), (16, (.p g186)), (11, (.p g187))] (subR rfl) (by kernel_rfl) (by kernel_rfl) fun w S CL hw le => ?_)))))
        refine h_move S CL hw le (subR rfl) rfl rfl rfl trivial fun a S CL => h_move S CL hw le (subR rfl) rfl rfl rfl trivial fun a S CL => h_bin S CL hw le (subR rfl) rfl rfl rfl rfl rfl trivial fun a S CL => h_bin S CL hw le (subR rfl) rfl rfl rfl rfl rfl trivial fun a S CL => h_move S CL hw le (subR rfl) rfl rfl rfl trivial fun a S CL => h_move S CL hw le (subR rfl) rfl rfl rfl trivial fun a S CL => h_bin S CL hw le (subR rfl) rfl rfl rfl rfl rfl trivial fun a S CL => h_bin S CL hw le (subR rfl) rfl rfl rfl rfl rfl trivial fun a S CL => ?_
        obtain ⟨c3, h2⟩ := chk_of h1; clear h1
        refine h_iaddr S CL hw le (subR rfl) rfl rfl underlying100 T24 c3.1 c3.2 (mul1 _ _) rfl rfl trivial fun a S CL => h_loadi S CL hw le (subR rfl) (i := (wr .i64 (y53 + (wr .i64 (5 * y62))))) rfl .h1 T24 .h rfl c3.1 c3.2 rfl rfl trivial fun a S CL => h_move S CL hw le (subR rfl) rfl rfl rfl trivial fun a S CL => h_bin S CL hw le (subR rfl) rfl rfl rfl rfl rfl trivial fun a S CL => h_rem S CL hw le (subR rfl) rfl rfl (by decide) rfl rfl trivial fun a S CL => h_move S CL hw le (subR rfl) rfl rfl rfl trivial fun a S CL => h_bin S CL hw le (subR rfl) rfl rfl rfl rfl rfl trivial fun a S CL => h_bin S CL hw le (subR rfl) rfl rfl rfl rfl rfl trivial fun a S CL => ?_
        obtain ⟨c4, h3⟩ := chk_of h2; clear h2
        refine h_iaddr S CL hw le (subR rfl) rfl rfl underlying100 T24 c4.1 c4.2 (mul1 _ _) rfl rfl trivial fun a S CL => h_loadi S CL hw le (subR rfl) (i := (wr .i64 ((Int.tmod (wr .i64 (y53 + 1)) 5) + (wr .i64 (5 * y62))))) rfl .h1 T24 .h rfl c4.1 c4.2 rfl rfl trivial fun a S CL => h_bin S CL hw le (subR rfl) rfl rfl rfl rfl rfl trivial fun a S CL => h_move S CL hw le (subR rfl) rfl rfl rfl trivial fun a S CL => h_bin S CL hw le (subR rfl) rfl rfl rfl rfl rfl trivial fun a S CL => h_rem S CL hw le (subR rfl) rfl rfl (by decide) rfl rfl trivial fun a S CL => h_move S CL hw le (subR rfl) rfl rfl rfl trivial fun a S CL => h_bin S CL hw le (subR rfl) rfl rfl rfl rfl rfl trivial fun a S CL => h_bin S CL hw le (subR rfl) rfl rfl rfl rfl rfl trivial fun a S CL => ?_
        obtain ⟨c5, h4⟩ := chk_of h3; clear h3
        refine h_iaddr S CL hw le (subR rfl) rfl rfl underlying100 T24 c5.1 c5.2 (mul1 _ _) rfl rfl trivial fun a S CL => h_loadi S CL hw le (subR rfl) (i := (wr .i64 ((Int.tmod (wr .i64 (y53 + 2)) 5) + (wr .i64 (5 * y62))))) rfl .h1 T24 .h rfl c5.1 c5.2 rfl rfl trivial fun a S CL => h_bin S CL hw le (subR rfl) rfl rfl rfl rfl rfl trivial fun a S CL => h_bin S CL hw le (subR rfl) rfl rfl rfl rfl rfl trivial fun a S CL => h_iaddr S CL hw le (subR rfl) rfl rfl underlying100 T24 c3.1 c3.2 (mul1 _ _) rfl rfl trivial fun a S CL => h_run' S rfl trivial (s_storei S (i := (wr .i64 (y53 + (wr .i64 (5 * y62))))) rfl rfl .h T24 .h rfl c3.1 c3.2 fun w S => ?_)
        refine h_back ⟨fun h => (nomatch h), ?_⟩
        refine h_done ?_; clear CL hw le
        refine x_blockN (x_thenN (c_region' (s_move S rfl rfl fun a S => s_bin S rfl rfl rfl rfl fun a S => s_assign S rfl rfl fun a S => c_end' (x_thenN ?_))))
        exact ⟨_, (wr .i64 (y62 + 1)), g186, g187, g188, (y63.set (Int.toNat (wr .i64 (y53 + (wr .i64 (5 * y62))))) (bits .xor .u64 (rd y25 (wr .i64 (y53 + (wr .i64 (5 * y62))))) (bits .and .u64 (wr .u64 (18446744073709551615 - (rd y25 (wr .i64 ((Int.tmod (wr .i64 (y53 + 1)) 5) + (wr .i64 (5 * y62))))))) (rd y25 (wr .i64 ((Int.tmod (wr .i64 (y53 + 2)) 5) + (wr .i64 (5 * y62)))))))), (S.sb rfl (.c0 (.c0 (.c0 .n)))), h4⟩
       ·refine c_condF S rfl c2 (wp_exit (x_thenX (x_thenX (x_blockX (x_blockN (x_thenN ?_))))))
        exact j5 _ g186 g187 g188 y63 a w (S.sb rfl (.c0 (.c0 (.c0 .n)))) h1
     ·refine c_condF S rfl c1 (wp_exit (x_thenX (x_thenX (x_blockX (x_thenN ?_)))))
      exact j4 _ g165 g167 y54 a w (S.sb rfl (.c0 (.c1 .n))) h1
   refine c_region (s_assign S rfl rfl fun a S => c_end (wp_block ?_))
   refine c_loop (fun q3 a w => ∃ m y68 y69 y70 g195 g196 g197 y71, St 157 m b0 [(14, (.i y68)), (13, (.i y69)), (12, (.i y70)), (11, (.p g195)), (8, (.p g196)), (4, (.p g197)), (1, (.w x2))] [Res.cells g195 100 [.ints .u64 y71 25], Res.cells g196 100 [.ints .u64 y16 25], Res.cells g197 100 [.ints .u64 z25 25]] a w ∧ smithyref05_Round.l3 k x2 y16 q3 y68 y69 y70 y71 = some r) ?_ ?_ (k := k) ⟨_, 0, 0, 1, g87, g85, g86, (z25.set (Int.toNat 0) (rd y16 0)), (S.sb rfl (.c0 (.c0 (.c0 .n)))), h0⟩
   ·rintro a w ⟨m, y68, y69, y70, g195, g196, g197, y71, S, h0⟩
    exact (nomatch (show (none : Option ((List Int))) = some r from h0))
   ·clear S h0
    rintro q3 a w ⟨m, y68, y69, y70, g195, g196, g197, y71, S, h0⟩
    replace h0 : smithyref05_Round.b3 k x2 y16 (smithyref05_Round.l3 k x2 y16 q3) y68 y69 y70 y71 = some r := h0
    delta smithyref05_Round.b3 at h0
    refine wp_seq (c_region (s_move S rfl rfl fun a S => s_bin S rfl rfl rfl rfl fun a S => c_end ?_))
    rcases ite_of h0 with ⟨c6, h1⟩ | ⟨c6, h1⟩
    ·refine c_condT S rfl c6 (wp_skip (x_thenN (wp_seq (wp_block (c_region (s_move S rfl rfl fun a S => s_move S rfl rfl fun a S => s_bin S rfl rfl rfl rfl fun a S => s_move S rfl rfl fun a S => s_bin S rfl rfl rfl rfl fun a S => s_bin S rfl rfl rfl rfl fun a S => s_rem S rfl rfl (by decide) rfl fun a S => s_bin S rfl rfl rfl rfl fun a S => s_bin S rfl rfl rfl rfl fun a S => s_move S rfl rfl fun a S => s_move S rfl rfl fun a S => s_bin S rfl rfl rfl rfl fun a S => s_bin S rfl rfl rfl rfl fun a S => ?_))))))
     obtain ⟨c7, h2⟩ := chk_of h1; clear h1
     refine s_iaddr S rfl rfl underlying100 T24 c7.1 c7.2 (mul1 _ _) rfl fun a S => s_loadi S (i := (wr .i64 (y70 + (wr .i64 (5 * y69))))) rfl .h1 T24 .h rfl c7.1 c7.2 rfl fun a S => s_move S rfl rfl fun a S => s_bin S rfl rfl rfl rfl fun a S => s_move S rfl rfl fun a S => s_bin S rfl rfl rfl rfl fun a S => s_bin S rfl rfl rfl rfl fun a S => s_quo S rfl rfl (by decide) rfl fun a S => bindX h2 fun t1 et1 h3 => s_callP S _ N94 rfl rfl (smithyref05_up.ok (rd y16 (wr .i64 (y70 + (wr .i64 (5 * y69))))) (wr .i64 (Int.tdiv (wr .i64 ((wr .i64 (y68 + 1)) * (wr .i64 (y68 + 2)))) 2)) t1 et1 _ _) fun ch1 m le1 a w S => ?_
     obtain ⟨c8, h4⟩ := chk_of h3; clear h3
     refine s_iaddr S rfl rfl underlying100 T24 c8.1 c8.2 (mul1 _ _) rfl fun a S => s_storei S (i := (wr .i64 (y69 + (wr .i64 (5 * (Int.tmod (wr .i64 ((wr .i64 (2 * y70)) + (wr .i64 (3 * y69)))) 5)))))) rfl rfl .h T24 .h rfl c8.1 c8.2 fun w S => c_end (c_region (s_move S rfl rfl fun a S => s_bin S rfl rfl rfl rfl fun a S => s_move S rfl rfl fun a S => s_bin S rfl rfl rfl rfl fun a S => s_bin S rfl rfl rfl rfl fun a S => s_rem S rfl rfl (by decide) rfl fun a S => s_assign S rfl rfl fun a S => c_end (c_region (s_move S rfl rfl fun a S => s_assign S rfl rfl fun a S => c_end (c_region' (s_move S rfl rfl fun a S => s_assign S rfl rfl fun a S => c_end' (x_blockN (x_thenN (c_region' (s_move S rfl rfl fun a S => s_bin S rfl rfl rfl rfl fun a S => s_assign S rfl rfl fun a S => c_end' (x_thenN ?_)))))))))))
     exact ⟨_, (wr .i64 (y68 + 1)), (Int.tmod (wr .i64 ((wr .i64 (2 * y70)) + (wr .i64 (3 * y69)))) 5), y69, g195, g196, g197, (y71.set (Int.toNat (wr .i64 (y69 + (wr .i64 (5 * (Int.tmod (wr .i64 ((wr .i64 (2 * y70)) + (wr .i64 (3 * y69)))) 5)))))) t1), (S.sb rfl (.c0 (.c0 (.c0 .n)))), h4⟩
    ·refine c_condF S rfl c6 (wp_exit (x_thenX (x_thenX (x_blockX (x_thenN ?_)))))
     exact j3 _ g195 g197 y71 a w (S.sb rfl (.c0 (.c1 .n))) h1
  refine c_region (s_assign S rfl rfl fun a S => c_end (wp_block ?_))
  refine c_loop (fun q4 a w => ∃ m y84 g238 g239 g240 g241 y85, St 157 m b0 [(9, (.i y84)), (8, (.p g238)), (5, (.p g239)), (4, (.p g240)), (2, (.p g241)), (1, (.w x2))] [Res.cells g238 100 [.ints .u64 y85 25], Res.cells g239 128 [.ints .u64 y1 5], Res.cells g240 100 [.ints .u64 z25 25], Res.cells g241 100 [.ints .u64 x1 25]] a w ∧ smithyref05_Round.l4 k x1 x2 y1 q4 y84 y85 = some r) ?_ ?_ (k := k) ⟨_, 0, g40, g37, g38, g39, z25, (S.sb rfl (.c0 (.c0 (.c0 (.c0 .n))))), h0⟩
  ·rintro a w ⟨m, y84, g238, g239, g240, g241, y85, S, h0⟩
   exact (nomatch (show (none : Option ((List Int))) = some r from h0))
  ·clear S h0
   rintro q4 a w ⟨m, y84, g238, g239, g240, g241, y85, S, h0⟩
   replace h0 : smithyref05_Round.b4 k x1 x2 y1 (smithyref05_Round.l4 k x1 x2 y1 q4) y84 y85 = some r := h0
   delta smithyref05_Round.b4 at h0
   refine wp_seq (c_region (s_move S rfl rfl fun a S => s_bin S rfl rfl rfl rfl fun a S => c_end ?_))
   rcases ite_of h0 with ⟨c9, h1⟩ | ⟨c9, h1⟩
   ·refine c_condT S rfl c9 (wp_skip (x_thenN (wp_seq_k fun K6 hK6 => ?_)))
    have j6 : ∀ m g254 g255 g256 g257 y90 a w, St 157 m b0 [(9, (.i y84)), (8, (.p g254)), (5, (.p g255)), (4, (.p g256)), (2, (.p g257)), (1, (.w x2))] [Res.cells g254 100 [.ints .u64 y90 25], Res.cells g255 128 [.ints .u64 y1 5], Res.cells g256 100 [.ints .u64 z25 25], Res.cells g257 100 [.ints .u64 x1 25]] a w → smithyref05_Round.j6 y84 (smithyref05_Round.l4 k x1 x2 y1 q4) y90 = some r → K6 a w := by
     intro m g254 g255 g256 g257 y90 a w S h0
     delta smithyref05_Round.j6 at h0
     refine hK6 a w (c_region' (s_move S rfl rfl fun a S => s_bin S rfl rfl rfl rfl fun a S => s_assign S rfl rfl fun a S => c_end' (x_thenN ?_)))
     exact ⟨_, (wr .i64 (y84 + 1)), g254, g255, g256, g257, y90, (S.sb rfl (.c0 (.c0 (.c0 (.c0 .n))))), h0⟩
    refine wp_block (c_region (s_assign S rfl rfl fun a S => c_end (wp_block ?_)))
    refine c_loop (fun q5 a w => ∃ m y93 g266 g267 g268 g269 y94, St 157 m b0 [(10, (.i y93)), (9, (.i y84)), (8, (.p g266)), (5, (.p g267)), (4, (.p g268)), (2, (.p g269)), (1, (.w x2))] [Res.cells g266 100 [.ints .u64 y94 25], Res.cells g267 128 [.ints .u64 y1 5], Res.cells g268 100 [.ints .u64 z25 25], Res.cells g269 100 [.ints .u64 x1 25]] a w ∧ smithyref05_Round.l5 x1 y1 y84 (smithyref05_Round.l4 k x1 x2 y1 q4) q5 y93 y94 = some r) ?_ ?_ (k := k) ⟨_, 0, g238, g239, g240, g241, y85, (S.sb rfl (.c0 (.c0 (.c0 (.c0 .n))))), h1⟩
    ·rintro a w ⟨m, y93, g266, g267, g268, g269, y94, S, h0⟩
     exact (nomatch (show (none : Option ((List Int))) = some r from h0))
    ·clear S h1
     rintro q5 a w ⟨m, y93, g266, g267, g268, g269, y94, S, h0⟩
     replace h0 : smithyref05_Round.b5 x1 y1 y84 (smithyref05_Round.l4 k x1 x2 y1 q4) (smithyref05_Round.l5 x1 y1 y84 (smithyref05_Round.l4 k x1 x2 y1 q4) q5) y93 y94 = some r := h0
     delta smithyref05_Round.b5 at h0
     refine wp_seq (c_region (s_move S rfl rfl fun a S => s_bin S rfl rfl rfl rfl fun a S => c_end ?_))
     rcases ite_of h0 with ⟨c10, h1⟩ | ⟨c10, h1⟩
     ·refine c_condT S rfl c10 (wp_skip (x_thenN (wp_seq (wp_block (c_heldS S (.take 0 (.take 1 (.take 2 (.take 3 (.take 4 (.take 5 (.take 6 (.take 7 (.take 8 (.take 9 (.take 10 (.take 11 (.take 12 (.take 13 (.take 14 (.take 15 (.take 16 (.take 17 (.take 18 (.take 19 (.take 20 (.alts (.run 21 true (.take 22 (.take 23 (.alts (.run 24 false .done .nil)))) .nil))))))))))))))))))))))) 24 [Res.cells g266 100 [.ints .u64 y94 25], Res.cells g267 128 [.ints .u64 y1 5], Res.cells g268 100 [.ints .u64 z25 25], Res.cells g269 100 [.ints .u64 x1 25]] (.c0 (.c0 (.c0 (.c0 .n)))) ⟨Res.stay_cells, Res.stay_cells, Res.stay_cells, Res.stay_cells, trivial⟩ [(10, (.i y93)), (9, (.i y84)), (8, (.p g266)), (5, (.p g267)), (2, (.p g269))] (subR rfl) (by kernel_rfl) (by kernel_rfl) fun w S CL hw le => ?_)))))
      refine h_move S CL hw le (subR rfl) rfl rfl rfl trivial fun a S CL => h_move S CL hw le (subR rfl) rfl rfl rfl trivial fun a S CL => h_bin S CL hw le (subR rfl) rfl rfl rfl rfl rfl trivial fun a S CL => h_bin S CL hw le (subR rfl) rfl rfl rfl rfl rfl trivial fun a S CL => h_move S CL hw le (subR rfl) rfl rfl rfl trivial fun a S CL => h_move S CL hw le (subR rfl) rfl rfl rfl trivial fun a S CL => h_bin S CL hw le (subR rfl) rfl rfl rfl rfl rfl trivial fun a S CL => h_bin S CL hw le (subR rfl) rfl rfl rfl rfl rfl trivial fun a S CL => ?_
      obtain ⟨c11, h2⟩ := chk_of h1; clear h1
      refine h_iaddr S CL hw le (subR rfl) rfl rfl underlying100 T24 c11.1 c11.2 (mul1 _ _) rfl rfl trivial fun a S CL => h_loadi S CL hw le (subR rfl) (i := (wr .i64 (y84 + (wr .i64 (5 * y93))))) rfl .h3 T24 .h rfl c11.1 c11.2 rfl rfl trivial fun a S CL => h_move S CL hw le (subR rfl) rfl rfl rfl trivial fun a S CL => h_bin S CL hw le (subR rfl) rfl rfl rfl rfl rfl trivial fun a S CL => h_rem S CL hw le (subR rfl) rfl rfl (by decide) rfl rfl trivial fun a S CL => ?_
      obtain ⟨c12, h3⟩ := chk_of h2; clear h2
      refine h_iaddr S CL hw le (subR rfl) rfl rfl underlying128 T24 c12.1 c12.2 (mul1 _ _) rfl rfl trivial fun a S CL => h_loadi S CL hw le (subR rfl) (i := (Int.tmod (wr .i64 (y84 + 4)) 5)) rfl .h1 T24 .h rfl c12.1 c12.2 rfl rfl trivial fun a S CL => h_bin S CL hw le (subR rfl) rfl rfl rfl rfl rfl trivial fun a S CL => h_move S CL hw le (subR rfl) rfl rfl rfl trivial fun a S CL => h_bin S CL hw le (subR rfl) rfl rfl rfl rfl rfl trivial fun a S CL => h_rem S CL hw le (subR rfl) rfl rfl (by decide) rfl rfl trivial fun a S CL => ?_
      obtain ⟨c13, h4⟩ := chk_of h3; clear h3
      refine h_iaddr S CL hw le (subR rfl) rfl rfl underlying128 T24 c13.1 c13.2 (mul1 _ _) rfl rfl trivial fun a S CL => h_loadi S CL hw le (subR rfl) (i := (Int.tmod (wr .i64 (y84 + 1)) 5)) rfl .h1 T24 .h rfl c13.1 c13.2 rfl rfl trivial fun a S CL => h_run' S rfl trivial (bindX h4 fun t4 et4 h5 => s_callP S _ N94 rfl rfl (smithyref05_up.ok (rd y1 (Int.tmod (wr .i64 (y84 + 1)) 5)) 1 t4 et4 _ _) fun ch2 m le1 a w S => ?_)
      replace le := le.trans le1
      replace hw := CL.again hw S (.c0 (.c0 (.c0 (.c0 .n)))) le
      refine h_back ⟨fun _ => hw, ?_⟩
      replace CL := CL.add (t := 70) (d := (.w t4)) S rfl rfl
      refine h_bin S CL hw le (subR rfl) rfl rfl rfl rfl rfl trivial fun a S CL => h_iaddr S CL hw le (subR rfl) rfl rfl underlying100 T24 c11.1 c11.2 (mul1 _ _) rfl rfl trivial fun a S CL => h_run' S rfl trivial (s_storei S (i := (wr .i64 (y84 + (wr .i64 (5 * y93))))) rfl rfl .h T24 .h rfl c11.1 c11.2 fun w S => ?_)
      refine h_back ⟨fun h => (nomatch h), ?_⟩
      refine h_done ?_; clear CL hw le
      refine x_blockN (x_thenN (c_region' (s_move S rfl rfl fun a S => s_bin S rfl rfl rfl rfl fun a S => s_assign S rfl rfl fun a S => c_end' (x_thenN ?_))))
      exact ⟨_, (wr .i64 (y93 + 1)), g266, g267, g268, g269, (y94.set (Int.toNat (wr .i64 (y84 + (wr .i64 (5 * y93))))) (bits .xor .u64 (bits .xor .u64 (rd x1 (wr .i64 (y84 + (wr .i64 (5 * y93))))) (rd y1 (Int.tmod (wr .i64 (y84 + 4)) 5))) t4)), (S.sb rfl (.c0 (.c0 (.c0 (.c0 .n))))), h5⟩
     ·refine c_condF S rfl c10 (wp_exit (x_thenX (x_thenX (x_blockX (x_blockN (x_thenN ?_))))))
      exact j6 _ g266 g267 g268 g269 y94 a w (S.sb rfl (.c0 (.c0 (.c0 (.c0 .n))))) h1
   ·refine c_condF S rfl c9 (wp_exit (x_thenX (x_thenX (x_blockX (x_thenN ?_)))))
    exact j2 _ g238 g240 y85 a w (S.sb rfl (.c0 (.c1 .n))) h1
 refine c_region (s_assign S rfl rfl fun a S => c_end (wp_block ?_))
 refine c_loop (fun q6 a w => ∃ m y107 g300 g301 g302 y108, St 157 m b0 [(6, (.i y107)), (5, (.p g300)), (4, (.p g301)), (2, (.p g302)), (1, (.w x2))] [Res.cells g300 128 [.ints .u64 y108 5], Res.cells g301 100 [.ints .u64 z25 25], Res.cells g302 100 [.ints .u64 x1 25]] a w ∧ smithyref05_Round.l6 k x1 x2 q6 y107 y108 = some r) ?_ ?_ (k := k) ⟨_, 0, g3, g2, g1, [0, 0, 0, 0, 0], (S.sb rfl (.c0 (.c0 (.c0 .n)))), h0⟩
 ·rintro a w ⟨m, y107, g300, g301, g302, y108, S, h0⟩
  exact (nomatch (show (none : Option ((List Int))) = some r from h0))
 ·clear S h0
  rintro q6 a w ⟨m, y107, g300, g301, g302, y108, S, h0⟩
  replace h0 : smithyref05_Round.b6 k x1 x2 (smithyref05_Round.l6 k x1 x2 q6) y107 y108 = some r := h0
  delta smithyref05_Round.b6 at h0
  refine wp_seq (c_region (s_move S rfl rfl fun a S => s_bin S rfl rfl rfl rfl fun a S => c_end ?_))
  rcases ite_of h0 with ⟨c14, h1⟩ | ⟨c14, h1⟩
  ·refine c_condT S rfl c14 (wp_skip (x_thenN (wp_seq_k fun K7 hK7 => ?_)))
   have j7 : ∀ m g312 g313 g314 y113 a w, St 157 m b0 [(6, (.i y107)), (5, (.p g312)), (4, (.p g313)), (2, (.p g314)), (1, (.w x2))] [Res.cells g312 128 [.ints .u64 y113 5], Res.cells g313 100 [.ints .u64 z25 25], Res.cells g314 100 [.ints .u64 x1 25]] a w → smithyref05_Round.j7 y107 (smithyref05_Round.l6 k x1 x2 q6) y113 = some r → K7 a w := by
    intro m g312 g313 g314 y113 a w S h0
    delta smithyref05_Round.j7 at h0
    refine hK7 a w (c_region' (s_move S rfl rfl fun a S => s_bin S rfl rfl rfl rfl fun a S => s_assign S rfl rfl fun a S => c_end' (x_thenN ?_)))
    exact ⟨_, (wr .i64 (y107 + 1)), g312, g313, g314, y113, (S.sb rfl (.c0 (.c0 (.c0 .n)))), h0⟩
   refine wp_block (c_region (s_assign S rfl rfl fun a S => c_end (wp_block ?_)))
   refine c_loop (fun q7 a w => ∃ m y116 g321 g322 g323 y117, St 157 m b0 [(7, (.i y116)), (6, (.i y107)), (5, (.p g321)), (4, (.p g322)), (2, (.p g323)), (1, (.w x2))] [Res.cells g321 128 [.ints .u64 y117 5], Res.cells g322 100 [.ints .u64 z25 25], Res.cells g323 100 [.ints .u64 x1 25]] a w ∧ smithyref05_Round.l7 x1 y107 (smithyref05_Round.l6 k x1 x2 q6) q7 y116 y117 = some r) ?_ ?_ (k := k) ⟨_, 0, g300, g301, g302, y108, (S.sb rfl (.c0 (.c0 (.c0 .n)))), h1⟩
   ·rintro a w ⟨m, y116, g321, g322, g323, y117, S, h0⟩
    exact (nomatch (show (none : Option ((List Int))) = some r from h0))
   ·clear S h1
    rintro q7 a w ⟨m, y116, g321, g322, g323, y117, S, h0⟩
    replace h0 : smithyref05_Round.b7 x1 y107 (smithyref05_Round.l6 k x1 x2 q6) (smithyref05_Round.l7 x1 y107 (smithyref05_Round.l6 k x1 x2 q6) q7) y116 y117 = some r := h0
    delta smithyref05_Round.b7 at h0
    refine wp_seq (c_region (s_move S rfl rfl fun a S => s_bin S rfl rfl rfl rfl fun a S => c_end ?_))
    rcases ite_of h0 with ⟨c15, h1⟩ | ⟨c15, h1⟩
    ·refine c_condT S rfl c15 (wp_skip (x_thenN (wp_seq (wp_block (c_heldS S (.take 0 (.take 1 (.take 2 (.take 3 (.take 4 (.take 5 (.take 6 (.take 7 (.take 8 (.take 9 (.take 10 (.take 11 (.alts (.run 12 false .done .nil)))))))))))))) 12 [Res.cells g321 128 [.ints .u64 y117 5], Res.cells g322 100 [.ints .u64 z25 25], Res.cells g323 100 [.ints .u64 x1 25]] (.c0 (.c0 (.c0 .n))) ⟨Res.stay_cells, Res.stay_cells, Res.stay_cells, trivial⟩ [(7, (.i y116)), (6, (.i y107)), (5, (.p g321)), (2, (.p g323))] (subR rfl) (by kernel_rfl) (by kernel_rfl) fun w S CL hw le => ?_)))))
     refine h_move S CL hw le (subR rfl) rfl rfl rfl trivial fun a S CL => h_move S CL hw le (subR rfl) rfl rfl rfl trivial fun a S CL => ?_
     obtain ⟨c16, h2⟩ := chk_of h1; clear h1
     refine h_iaddr S CL hw le (subR rfl) rfl rfl underlying128 T24 c16.1 c16.2 (mul1 _ _) rfl rfl trivial fun a S CL => h_loadi S CL hw le (subR rfl) (i := y107) rfl .h T24 .h rfl c16.1 c16.2 rfl rfl trivial fun a S CL => h_move S CL hw le (subR rfl) rfl rfl rfl trivial fun a S CL => h_move S CL hw le (subR rfl) rfl rfl rfl trivial fun a S CL => h_bin S CL hw le (subR rfl) rfl rfl rfl rfl rfl trivial fun a S CL => h_bin S CL hw le (subR rfl) rfl rfl rfl rfl rfl trivial fun a S CL => ?_
     obtain ⟨c17, h3⟩ := chk_of h2; clear h2
     refine h_iaddr S CL hw le (subR rfl) rfl rfl underlying100 T24 c17.1 c17.2 (mul1 _ _) rfl rfl trivial fun a S CL => h_loadi S CL hw le (subR rfl) (i := (wr .i64 (y107 + (wr .i64 (5 * y116))))) rfl .h2 T24 .h rfl c17.1 c17.2 rfl rfl trivial fun a S CL => h_bin S CL hw le (subR rfl) rfl rfl rfl rfl rfl trivial fun a S CL => h_iaddr S CL hw le (subR rfl) rfl rfl underlying128 T24 c16.1 c16.2 (mul1 _ _) rfl rfl trivial fun a S CL => h_run' S rfl trivial (s_storei S (i := y107) rfl rfl .h T24 .h rfl c16.1 c16.2 fun w S => ?_)
     refine h_back ⟨fun h => (nomatch h), ?_⟩
     refine h_done ?_; clear CL hw le
     refine x_blockN (x_thenN (c_region' (s_move S rfl rfl fun a S => s_bin S rfl rfl rfl rfl fun a S => s_assign S rfl rfl fun a S => c_end' (x_thenN ?_))))
     exact ⟨_, (wr .i64 (y116 + 1)), g321, g322, g323, (y117.set (Int.toNat y107) (bits .xor .u64 (rd y117 y107) (rd x1 (wr .i64 (y107 + (wr .i64 (5 * y116))))))), (S.sb rfl (.c0 (.c0 (.c0 .n)))), h3⟩
    ·refine c_condF S rfl c15 (wp_exit (x_thenX (x_thenX (x_blockX (x_blockN (x_thenN ?_))))))
     exact j7 _ g321 g322 g323 y117 a w (S.sb rfl (.c0 (.c0 (.c0 .n)))) h1
  ·refine c_condF S rfl c14 (wp_exit (x_thenX (x_thenX (x_blockX (x_thenN ?_)))))
   exact j1 _ g300 g301 g302 y108 a w (S.sb rfl (.c0 (.c0 (.c0 .n)))) h1
abbrev smithyref05_Turn.Ty : Type := (List Int) → Option ((List Int))
def smithyref05_Turn.Ctr (s : smithyref05_Turn.Ty) : Prop := ∀ (x1 : List Int) (r : (List Int)), Ct (C := Unit) Tryd.prog 71 (s x1 = some r) [] [(.agg [.ints .u64 x1 25])] (fun _ => (.agg [.ints .u64 r 25])) fun _ => []
def smithyref05_Turn.j1 (y1 : List Int) : Option ((List Int)) := some y1
def smithyref05_Turn.b1 (k : Nat) (t1 : (List Int)) (rec1 : Int → (List Int) → Option ((List Int))) (y4 : Int) (y5 : List Int) : Option ((List Int)) := if (decide (y4 < 24)) = true then (if (0 : Int) ≤ y4 ∧ y4 < 24 then ((smithyref05_Round.f k y5 (rd t1 y4)).bind fun t4 => (rec1 (wr .i64 (y4 + 1)) t4)) else none) else (smithyref05_Turn.j1 y5)
def smithyref05_Turn.l1 (k : Nat) (t1 : (List Int)) : Nat → Int → (List Int) → Option ((List Int))
  | 0, _, _ => none
  | q + 1, y4, y5 => smithyref05_Turn.b1 k t1 (smithyref05_Turn.l1 k t1 q) y4 y5
def smithyref05_Turn.f (k : Nat) (x1 : List Int) : Option ((List Int)) := (smithyref05_Constants.f k).bind fun t1 => (smithyref05_Turn.l1 k t1 k 0 x1)
theorem smithyref05_Turn.ok (k : Nat) : smithyref05_Turn.Ctr (smithyref05_Turn.f k) := by
 intro x1 r h0 mi w0 ok hm
 delta smithyref05_Turn.f at h0
 refine c_enterZ (n := 16) ok hm func71 rfl rfl rfl fun b0 hb a S => c_region (s_box S rfl rfl rfl fun g1 a w S => s_alloc S Z100 rfl ⟨rfl, trivial⟩ rfl fun g2 a w S => c_end (c_region (bindX h0 fun t1 et1 h1 => s_callP S _ N87 rfl rfl (smithyref05_Constants.ok k t1 et1 _ _) fun ch1 m le1 a w S => s_alloc S Z118 rfl ⟨rfl, trivial⟩ rfl fun g3 a w S => s_store S rfl rfl rfl (s' := [.ints .u64 t1 24]) .h T118 rfl rfl fun w S => c_end (wp_seq_k fun K1 hK1 => ?_))))
 have j1 : ∀ m g13 g14 y1 a w, St 16 m b0 [(2, (.p g13)), (1, (.p g14))] [Res.cells g13 100 [.ints .u64 z25 25], Res.cells g14 100 [.ints .u64 y1 25]] a w → smithyref05_Turn.j1 y1 = some r → K1 a w := by
  intro m g13 g14 y1 a w S h0
  delta smithyref05_Turn.j1 at h0
  refine hK1 a w (c_region (s_loada S rfl .h1 T100 (s' := [.ints .u64 y1 25]) rfl rfl fun a S => s_store S rfl rfl rfl (s' := [.ints .u64 y1 25]) .h T100 rfl rfl fun w S => c_end (wp_ret ?_)))
  obtain rfl := Option.some.inj h0
  exact b_ret1 (d := (.agg [.ints .u64 y1 25])) S rfl (resD_cell rfl .h T100 rfl rfl) (S.rt hb)
 refine c_region (s_assign S rfl rfl fun a S => c_end (wp_block ?_))
 refine c_loop (fun q1 a w => ∃ m y4 g21 g22 g23 y5, St 16 m b0 [(4, (.i y4)), (3, (.p g21)), (2, (.p g22)), (1, (.p g23))] [Res.cells g21 118 [.ints .u64 t1 24], Res.cells g22 100 [.ints .u64 z25 25], Res.cells g23 100 [.ints .u64 y5 25]] a w ∧ smithyref05_Turn.l1 k t1 q1 y4 y5 = some r) ?_ ?_ (k := k) ⟨_, 0, g3, g2, g1, x1, (S.sb rfl (.c0 (.c0 (.c0 .n)))), h1⟩
 ·rintro a w ⟨m, y4, g21, g22, g23, y5, S, h0⟩
  exact (nomatch (show (none : Option ((List Int))) = some r from h0))
 ·clear S h1
  rintro q1 a w ⟨m, y4, g21, g22, g23, y5, S, h0⟩
  replace h0 : smithyref05_Turn.b1 k t1 (smithyref05_Turn.l1 k t1 q1) y4 y5 = some r := h0
  delta smithyref05_Turn.b1 at h0
  refine wp_seq (c_region (s_move S rfl rfl fun a S => s_bin S rfl rfl rfl rfl fun a S => c_end ?_))
  rcases ite_of h0 with ⟨c1, h1⟩ | ⟨c1, h1⟩
  ·refine c_condT S rfl c1 (wp_skip (x_thenN (wp_seq (wp_block (c_heldS S (.take 0 (.take 1 (.take 2 (.take 3 (.alts (.run 4 true (.alts (.run 5 false .done .nil)) .nil)))))) 5 [Res.cells g21 118 [.ints .u64 t1 24], Res.cells g22 100 [.ints .u64 z25 25], Res.cells g23 100 [.ints .u64 y5 25]] (.c0 (.c0 (.c0 .n))) ⟨Res.stay_cells, Res.stay_cells, Res.stay_cells, trivial⟩ [(4, (.i y4)), (3, (.p g21)), (1, (.p g23))] (subR rfl) (by kernel_rfl) (by kernel_rfl) fun w S CL hw le => ?_)))))
   refine h_loada S CL hw le (subR rfl) rfl .h2 T100 (s' := [.ints .u64 y5 25]) rfl rfl rfl trivial fun a S CL => h_move S CL hw le (subR rfl) rfl rfl rfl trivial fun a S CL => ?_
   obtain ⟨c2, h2⟩ := chk_of h1; clear h1
   refine h_iaddr S CL hw le (subR rfl) rfl rfl underlying118 T24 c2.1 c2.2 (mul1 _ _) rfl rfl trivial fun a S CL => h_loadi S CL hw le (subR rfl) (i := y4) rfl .h T24 .h rfl c2.1 c2.2 rfl rfl trivial fun a S CL => h_run' S rfl trivial (bindX h2 fun t4 et4 h3 => s_callP S _ N88 rfl rfl (smithyref05_Round.ok k y5 (rd t1 y4) t4 et4 _ _) fun ch2 m le1 a w S => ?_)
   replace le := le.trans le1
   replace hw := CL.again hw S (.c0 (.c0 (.c0 .n))) le
   refine h_back ⟨fun _ => hw, ?_⟩
   refine h_run' S rfl trivial (s_store S rfl rfl rfl (s' := [.ints .u64 t4 25]) .h2 T100 rfl rfl fun w S => ?_)
   refine h_back ⟨fun h => (nomatch h), ?_⟩
   refine h_done ?_; clear CL hw le
   refine x_blockN (x_thenN (c_region' (s_move S rfl rfl fun a S => s_bin S rfl rfl rfl rfl fun a S => s_assign S rfl rfl fun a S => c_end' (x_thenN ?_))))
   exact ⟨_, (wr .i64 (y4 + 1)), g21, g22, g23, t4, (S.sb rfl (.c0 (.c0 (.c0 .n)))), h3⟩
  ·refine c_condF S rfl c1 (wp_exit (x_thenX (x_thenX (x_blockX (x_thenN ?_)))))
   exact j1 _ g22 g23 y5 a w (S.sb rfl (.c1 (.c1 .n))) h1
abbrev smithyref05_Sum.Ty : Type := (List Int) → Option ((List Int))
def smithyref05_Sum.Ctr (s : smithyref05_Sum.Ty) : Prop := ∀ (x1 : List Int) (ch_0_0 : Option Addr) (ch_0_1 : Nat) (r : (List Int)), Ct (C := Unit) Tryd.prog 46 (s x1 = some r) [] [(.q yb ch_0_0 ch_0_1 x1)] (fun _ => (.a32 r)) fun _ => []
def smithyref05_Sum.j3 (y13 : List Int) : Option ((List Int)) := some y13
def smithyref05_Sum.b1 (y8 : List Int) (rec1 : Int → (List Int) → Option ((List Int))) (y16 : Int) (y17 : List Int) : Option ((List Int)) := if (decide (y16 < 32)) = true then (if (0 : Int) ≤ (wr .i64 (Int.tdiv y16 8)) ∧ (wr .i64 (Int.tdiv y16 8)) < 25 then (if (0 : Int) ≤ (wr .i64 (8 * (Int.tmod y16 8))) then (if (0 : Int) ≤ y16 ∧ y16 < 32 then (rec1 (wr .i64 (y16 + 1)) (y17.set (Int.toNat y16) (wr .u8 (Int.tmod (shr (rd y8 (wr .i64 (Int.tdiv y16 8))) (min (Int.toNat (wr .i64 (8 * (Int.tmod y16 8)))) 64)) 256)))) else none) else none) else none) else (smithyref05_Sum.j3 y17)
def smithyref05_Sum.l1 (y8 : List Int) : Nat → Int → (List Int) → Option ((List Int))
  | 0, _, _ => none
  | q + 1, y16, y17 => smithyref05_Sum.b1 y8 (smithyref05_Sum.l1 y8 q) y16 y17
def smithyref05_Sum.j2 (k : Nat) (y8 : List Int) : Option ((List Int)) := smithyref05_Sum.l1 y8 k 0 [0, 0, 0, 0, 0, 0, 0, 0, 0, 0, 0, 0, 0, 0, 0, 0, 0, 0, 0, 0, 0, 0, 0, 0, 0, 0, 0, 0, 0, 0, 0, 0]
def smithyref05_Sum.j4 (y22 : Int) (rec2 : Int → (List Int) → Option ((List Int))) (y24 : List Int) : Option ((List Int)) := rec2 (wr .i64 (y22 + 1)) y24
def smithyref05_Sum.b2 (k : Nat) (y1 : List Int) (rec2 : Int → (List Int) → Option ((List Int))) (y22 : Int) (y23 : List Int) : Option ((List Int)) := if (decide (y22 < ((y1.set (Int.toNat (wr .i64 (((y1).length : Int) - 1))) (bits .or .u8 (rd y1 (wr .i64 (((y1).length : Int) - 1))) 128)).length : Int))) = true then (if (0 : Int) ≤ (wr .i64 (Int.tdiv (Int.tmod y22 136) 8)) ∧ (wr .i64 (Int.tdiv (Int.tmod y22 136) 8)) < 25 then (if (0 : Int) ≤ y22 ∧ y22 < ((y1.set (Int.toNat (wr .i64 (((y1).length : Int) - 1))) (bits .or .u8 (rd y1 (wr .i64 (((y1).length : Int) - 1))) 128)).length : Int) then (if (0 : Int) ≤ (wr .i64 (8 * (Int.tmod (Int.tmod y22 136) 8))) then (if ((Int.tmod y22 136) == 135) = true then ((smithyref05_Turn.f k (y23.set (Int.toNat (wr .i64 (Int.tdiv (Int.tmod y22 136) 8))) (bits .xor .u64 (rd y23 (wr .i64 (Int.tdiv (Int.tmod y22 136) 8))) (shl .u64 (wr .u64 (rd (y1.set (Int.toNat (wr .i64 (((y1).length : Int) - 1))) (bits .or .u8 (rd y1 (wr .i64 (((y1).length : Int) - 1))) 128)) y22)) (min (Int.toNat (wr .i64 (8 * (Int.tmod (Int.tmod y22 136) 8)))) 64))))).bind fun t1 => (smithyref05_Sum.j4 y22 rec2 t1)) else (smithyref05_Sum.j4 y22 rec2 (y23.set (Int.toNat (wr .i64 (Int.tdiv (Int.tmod y22 136) 8))) (bits .xor .u64 (rd y23 (wr .i64 (Int.tdiv (Int.tmod y22 136) 8))) (shl .u64 (wr .u64 (rd (y1.set (Int.toNat (wr .i64 (((y1).length : Int) - 1))) (bits .or .u8 (rd y1 (wr .i64 (((y1).length : Int) - 1))) 128)) y22)) (min (Int.toNat (wr .i64 (8 * (Int.tmod (Int.tmod y22 136) 8)))) 64)))))) else none) else none) else none) else (smithyref05_Sum.j2 k y23)
def smithyref05_Sum.l2 (k : Nat) (y1 : List Int) : Nat → Int → (List Int) → Option ((List Int))
  | 0, _, _ => none
  | q + 1, y22, y23 => smithyref05_Sum.b2 k y1 (smithyref05_Sum.l2 k y1 q) y22 y23
def smithyref05_Sum.j1 (k : Nat) (y1 : List Int) : Option ((List Int)) := if (0 : Int) ≤ (wr .i64 (((y1).length : Int) - 1)) ∧ (wr .i64 (((y1).length : Int) - 1)) < ((y1).length : Int) then (smithyref05_Sum.l2 k y1 k 0 [0, 0, 0, 0, 0, 0, 0, 0, 0, 0, 0, 0, 0, 0, 0, 0, 0, 0, 0, 0, 0, 0, 0, 0, 0]) else none
def smithyref05_Sum.b3 (k : Nat) (rec3 : (List Int) → Option ((List Int))) (y26 : List Int) : Option ((List Int)) := if ((Int.tmod ((y26).length : Int) 136) != 0) = true then (if ((y26).length + ([0]).length) * 1 ≤ 140737488355328 then (rec3 (y26 ++ [0])) else none) else (smithyref05_Sum.j1 k y26)
def smithyref05_Sum.l3 (k : Nat) : Nat → (List Int) → Option ((List Int))
  | 0, _ => none
  | q + 1, y26 => smithyref05_Sum.b3 k (smithyref05_Sum.l3 k q) y26
def smithyref05_Sum.f (k : Nat) (x1 : List Int) : Option ((List Int)) := if ((([] : List Int)).length + (x1).length) * 1 ≤ 140737488355328 then (if ((([] : List Int) ++ x1).length + ([1]).length) * 1 ≤ 140737488355328 then (smithyref05_Sum.l3 k k ((([] : List Int) ++ x1) ++ [1])) else none) else none
theorem smithyref05_Sum.ok (k : Nat) : smithyref05_Sum.Ctr (smithyref05_Sum.f k) := by
 intro x1 ch_0_0 ch_0_1 r h0 mi w0 ok hm
 delta smithyref05_Sum.f at h0
 refine c_enterZ (n := 83) ok hm func46 rfl rfl rfl fun b0 hb a S => c_region (s_alloc S Z23 rfl ⟨rfl, trivial⟩ rfl fun g1 a w S => c_end (c_region (s_bldSl S (ty' := yb) (ds := []) (z := 0) (c0 := ()) (ys := ([] : List Int)) (cs := []) rfl underlying37 J5 Z5 rfl ⟨rfl, trivial⟩ rfl rfl rfl rfl rfl rfl fun g2 a w S => s_assign S rfl rfl fun a S => c_end (c_region (s_move S rfl rfl fun a S => s_move S rfl rfl fun a S => ?_)))))
 obtain ⟨c1, h1⟩ := chk_of h0; clear h0
 refine s_app S (k2 := ((x1).length)) (ys := x1) rfl (fun _ _ => .h) rfl rfl rfl (RdS.src (S.get 11 (.q yb ch_0_0 ch_0_1 x1) rfl).2.2.2.1 (by decide) S.frz) underlying37 J5 c1 rfl fun A1 cp1 a w S => s_assign S rfl rfl fun a S => c_end (c_region (s_move S rfl rfl fun a S => s_bldSl S (ty' := yb) (ds := [(0, (.v (.int .u8 1)))]) (z := 0) (c0 := ()) (ys := [1]) (cs := [()]) rfl underlying37 J5 Z5 rfl ⟨rfl, trivial⟩ rfl rfl rfl rfl rfl rfl fun g3 a w S => ?_))
 obtain ⟨c2, h2⟩ := chk_of h1; clear h1
 refine s_app S (k2 := 1) (ys := [1]) rfl (fun _ _ => .h1) rfl rfl (S.holds _ (Pull.mem .h).1).1 (Res.row.src (S.holds _ (Pull.mem .h).1)) underlying37 J5 c2 rfl fun A2 cp2 a w S => s_assign S rfl rfl fun a S => c_end (wp_seq_k fun K1 hK1 => ?_)
 have j1 : ∀ m A3 nn1 cp8 y1 g9 a w, St 83 m b0 [(3, (.s A3 nn1 cp8)), (2, (.p g9))] [Res.row yb 5 A3 nn1 cp8 y1, Res.cells g9 23 [.b32 z32]] a w → smithyref05_Sum.j1 k y1 = some r → K1 a w := by
  intro m A3 nn1 cp8 y1 g9 a w S h0
  delta smithyref05_Sum.j1 at h0
  refine hK1 a w (c_region (s_move S rfl rfl fun a S => s_move S rfl rfl fun a S => s_lenO S rfl .h underlying37 rfl fun a S => s_bin S rfl rfl rfl rfl fun a S => s_move S rfl rfl fun a S => s_move S rfl rfl fun a S => s_lenO S rfl .h underlying37 rfl fun a S => s_bin S rfl rfl rfl rfl fun a S => ?_))
  obtain ⟨c3, h1⟩ := chk_of h0; clear h0
  refine s_iaddrO S (ty' := yb) rfl .h rfl underlying37 T5 c3.1 c3.2 rfl fun g10 a hA1 S => s_ldR1 S (ty' := yb) (i := (wr .i64 (((y1).length : Int) - 1))) (off := 0) (v := (.int .u8 (rd y1 (wr .i64 (((y1).length : Int) - 1))))) rfl hA1 .h T5 c3.1 c3.2 rfl (fun _ => rfl) rfl fun a S => s_bin S rfl rfl rfl rfl fun a S => s_iaddrO S (ty' := yb) rfl .h rfl underlying37 T5 c3.1 c3.2 rfl fun g11 a hA2 S => s_stR S (ty' := yb) (i := (wr .i64 (((y1).length : Int) - 1))) (off := 0) (u := bits .or .u8 (rd y1 (wr .i64 (((y1).length : Int) - 1))) 128) (fun (c : Unit) => ()) rfl rfl rfl hA2 .h T5 c3.1 c3.2 rfl (by decide) rfl (fun _ => rfl) fun w S => c_end (c_region (s_build S (ds := []) (dv := (.agg [.ints .u64 z25 25])) rfl (fun _ => by kernel_rfl) ⟨rfl, trivial⟩ rfl fun a S => s_alloc S Z100 rfl ⟨rfl, trivial⟩ rfl fun g12 a w S => s_store S rfl rfl rfl (s' := [.ints .u64 z25 25]) .h T100 rfl rfl fun w S => c_end (wp_seq_k fun K2 hK2 => ?_)))
  have j2 : ∀ m g25 g26 y8 a w, St 83 m b0 [(4, (.p g25)), (2, (.p g26))] [Res.cells g25 100 [.ints .u64 y8 25], Res.cells g26 23 [.b32 z32]] a w → smithyref05_Sum.j2 k y8 = some r → K2 a w := by
   intro m g25 g26 y8 a w S h0
   delta smithyref05_Sum.j2 at h0
   refine hK2 a w (c_region (s_build S (ds := []) (dv := (.a32 z32)) rfl (fun _ => by kernel_rfl) ⟨rfl, trivial⟩ rfl fun a S => s_alloc S Z23 rfl ⟨rfl, trivial⟩ rfl fun g27 a w S => s_store S rfl rfl rfl (s' := [.b32 z32]) .h T23 rfl rfl fun w S => c_end (wp_seq_k fun K3 hK3 => ?_)))
   have j3 : ∀ m g37 g38 y13 a w, St 83 m b0 [(7, (.p g37)), (2, (.p g38))] [Res.cells g37 23 [.b32 y13], Res.cells g38 23 [.b32 z32]] a w → smithyref05_Sum.j3 y13 = some r → K3 a w := by
    intro m g37 g38 y13 a w S h0
    delta smithyref05_Sum.j3 at h0
    refine hK3 a w (c_region (s_loada S rfl .h T23 (s' := [.b32 y13]) rfl rfl fun a S => s_store S rfl rfl rfl (s' := [.b32 y13]) .h1 T23 rfl rfl fun w S => c_end (wp_ret ?_)))
    obtain rfl := Option.some.inj h0
    exact b_ret1 (d := (.a32 y13)) S rfl (resD_cell rfl .h1 T23 rfl rfl) (S.rt hb)
   refine c_region (s_assign S rfl rfl fun a S => c_end (wp_block ?_))
   refine c_loop (fun q1 a w => ∃ m y16 g45 g46 g47 y17, St 83 m b0 [(8, (.i y16)), (7, (.p g45)), (4, (.p g46)), (2, (.p g47))] [Res.cells g45 23 [.b32 y17], Res.cells g46 100 [.ints .u64 y8 25], Res.cells g47 23 [.b32 z32]] a w ∧ smithyref05_Sum.l1 y8 q1 y16 y17 = some r) ?_ ?_ (k := k) ⟨_, 0, g27, g25, g26, z32, (S.sb rfl (.c0 (.c0 (.c0 .n)))), h0⟩
   ·rintro a w ⟨m, y16, g45, g46, g47, y17, S, h0⟩
    exact (nomatch (show (none : Option ((List Int))) = some r from h0))
   ·clear S h0
    rintro q1 a w ⟨m, y16, g45, g46, g47, y17, S, h0⟩
    replace h0 : smithyref05_Sum.b1 y8 (smithyref05_Sum.l1 y8 q1) y16 y17 = some r := h0
    delta smithyref05_Sum.b1 at h0
    refine wp_seq (c_region (s_move S rfl rfl fun a S => s_bin S rfl rfl rfl rfl fun a S => c_end ?_))
    rcases ite_of h0 with ⟨c4, h1⟩ | ⟨c4, h1⟩
    ·refine c_condT S rfl c4 (wp_skip (x_thenN (wp_seq (wp_block (c_region' (s_move S rfl rfl fun a S => s_move S rfl rfl fun a S => s_quo S rfl rfl (by decide) rfl fun a S => ?_))))))
     obtain ⟨c5, h2⟩ := chk_of h1; clear h1
     refine s_iaddr S rfl rfl underlying100 T24 c5.1 c5.2 (mul1 _ _) rfl fun a S => s_loadi S (i := (wr .i64 (Int.tdiv y16 8))) rfl .h1 T24 .h rfl c5.1 c5.2 rfl fun a S => s_move S rfl rfl fun a S => s_rem S rfl rfl (by decide) rfl fun a S => s_bin S rfl rfl rfl rfl fun a S => ?_
     obtain ⟨c6, h3⟩ := chk_of h2; clear h2
     refine s_shr S (e := (min (Int.toNat (wr .i64 (8 * (Int.tmod y16 8)))) 64)) rfl rfl c6 rfl rfl fun a S => s_rem S rfl rfl (by decide) rfl fun a S => s_conv S rfl rfl underlying5 rfl fun a S => ?_
     obtain ⟨c7, h4⟩ := chk_of h3; clear h3
     refine s_iaddr S rfl rfl underlying23 T5 c7.1 c7.2 (mul1 _ _) rfl fun a S => s_storei S (i := y16) rfl rfl .h T5 .h rfl c7.1 c7.2 fun w S => c_end' (x_blockN (x_thenN (c_region' (s_move S rfl rfl fun a S => s_bin S rfl rfl rfl rfl fun a S => s_assign S rfl rfl fun a S => c_end' (x_thenN ?_)))))
     exact ⟨_, (wr .i64 (y16 + 1)), g45, g46, g47, (y17.set (Int.toNat y16) (wr .u8 (Int.tmod (shr (rd y8 (wr .i64 (Int.tdiv y16 8))) (min (Int.toNat (wr .i64 (8 * (Int.tmod y16 8)))) 64)) 256))), (S.sb rfl (.c0 (.c0 (.c0 .n)))), h4⟩
    ·refine c_condF S rfl c4 (wp_exit (x_thenX (x_thenX (x_blockX (x_thenN ?_)))))
     exact j3 _ g45 g47 y17 a w (S.sb rfl (.c0 (.c1 .n))) h1
  refine c_region (s_assign S rfl rfl fun a S => c_end (wp_block ?_))
  refine c_loop (fun q2 a w => ∃ m y22 g58 g59 y23, St 83 m b0 [(5, (.i y22)), (4, (.p g58)), (3, (.s A3 nn1 cp8)), (2, (.p g59))] [Res.cells g58 100 [.ints .u64 y23 25], Res.row yb 5 A3 nn1 cp8 (y1.set (Int.toNat (wr .i64 (((y1).length : Int) - 1))) (bits .or .u8 (rd y1 (wr .i64 (((y1).length : Int) - 1))) 128)), Res.cells g59 23 [.b32 z32]] a w ∧ smithyref05_Sum.l2 k y1 q2 y22 y23 = some r) ?_ ?_ (k := k) ⟨_, 0, g12, g9, z25, (S.sb rfl (.c0 (.c0 (.c0 .n)))), h1⟩
  ·rintro a w ⟨m, y22, g58, g59, y23, S, h0⟩
   exact (nomatch (show (none : Option ((List Int))) = some r from h0))
  ·clear S h1
   rintro q2 a w ⟨m, y22, g58, g59, y23, S, h0⟩
   replace h0 : smithyref05_Sum.b2 k y1 (smithyref05_Sum.l2 k y1 q2) y22 y23 = some r := h0
   delta smithyref05_Sum.b2 at h0
   refine wp_seq (c_region (s_move S rfl rfl fun a S => s_move S rfl rfl fun a S => s_lenO S rfl .h1 underlying37 rfl fun a S => s_bin S rfl rfl rfl rfl fun a S => c_end ?_))
   rcases ite_of h0 with ⟨c8, h1⟩ | ⟨c8, h1⟩
   ·refine c_condT S rfl c8 (wp_skip (x_thenN (wp_seq_k fun K4 hK4 => ?_)))
    have j4 : ∀ m g61 g62 y24 a w, St 83 m b0 [(5, (.i y22)), (4, (.p g61)), (3, (.s A3 nn1 cp8)), (2, (.p g62))] [Res.cells g61 100 [.ints .u64 y24 25], Res.row yb 5 A3 nn1 cp8 (y1.set (Int.toNat (wr .i64 (((y1).length : Int) - 1))) (bits .or .u8 (rd y1 (wr .i64 (((y1).length : Int) - 1))) 128)), Res.cells g62 23 [.b32 z32]] a w → smithyref05_Sum.j4 y22 (smithyref05_Sum.l2 k y1 q2) y24 = some r → K4 a w := by
     intro m g61 g62 y24 a w S h0
     delta smithyref05_Sum.j4 at h0
     refine hK4 a w (c_region' (s_move S rfl rfl fun a S => s_bin S rfl rfl rfl rfl fun a S => s_assign S rfl rfl fun a S => c_end' (x_thenN ?_)))
     exact ⟨_, (wr .i64 (y22 + 1)), g61, g62, y24, (S.sb rfl (.c0 (.c0 (.c0 .n)))), h0⟩
    refine wp_block (c_region (s_move S rfl rfl fun a S => s_rem S rfl rfl (by decide) rfl fun a S => s_assign S rfl rfl fun a S => c_end ?_))
    refine wp_seq (c_heldS S (.take 0 (.take 1 (.take 2 (.take 3 (.take 4 (.take 5 (.take 6 (.take 7 (.take 8 (.take 9 (.take 10 (.take 11 (.take 12 (.take 13 (.take 14 (.take 15 (.take 16 (.alts (.run 17 false .done .nil))))))))))))))))))) 17 [Res.cells g58 100 [.ints .u64 y23 25], Res.row yb 5 A3 nn1 cp8 (y1.set (Int.toNat (wr .i64 (((y1).length : Int) - 1))) (bits .or .u8 (rd y1 (wr .i64 (((y1).length : Int) - 1))) 128)), Res.cells g59 23 [.b32 z32]] (.c0 (.c0 (.c0 .n))) ⟨Res.stay_cells, Res.stay_row flat_int, Res.stay_cells, trivial⟩ [(6, (.i (Int.tmod y22 136))), (5, (.i y22)), (4, (.p g58)), (3, (.s A3 nn1 cp8))] (subR rfl) (by kernel_rfl) (by kernel_rfl) ?_); clear S; intro w S CL hw le
    refine h_move S CL hw le (subR rfl) rfl rfl rfl trivial fun a S CL => h_quo S CL hw le (subR rfl) rfl rfl (by decide) rfl rfl trivial fun a S CL => h_move S CL hw le (subR rfl) rfl rfl rfl trivial fun a S CL => h_quo S CL hw le (subR rfl) rfl rfl (by decide) rfl rfl trivial fun a S CL => ?_
    obtain ⟨c9, h2⟩ := chk_of h1; clear h1
    refine h_iaddr S CL hw le (subR rfl) rfl rfl underlying100 T24 c9.1 c9.2 (mul1 _ _) rfl rfl trivial fun a S CL => h_loadi S CL hw le (subR rfl) (i := (wr .i64 (Int.tdiv (Int.tmod y22 136) 8))) rfl .h T24 .h rfl c9.1 c9.2 rfl rfl trivial fun a S CL => h_move S CL hw le (subR rfl) rfl rfl rfl trivial fun a S CL => h_move S CL hw le (subR rfl) rfl rfl rfl trivial fun a S CL => ?_
    obtain ⟨c10, h3⟩ := chk_of h2; clear h2
    refine h_iaddrO S CL hw le (subR rfl) (ty' := yb) rfl .h1 rfl underlying37 T5 c10.1 c10.2 rfl rfl trivial fun g63 a hA3 S CL => h_ldR1 S CL hw le (subR rfl) (ty' := yb) (i := y22) (off := 0) (v := (.int .u8 (rd (y1.set (Int.toNat (wr .i64 (((y1).length : Int) - 1))) (bits .or .u8 (rd y1 (wr .i64 (((y1).length : Int) - 1))) 128)) y22))) rfl hA3 .h1 T5 c10.1 c10.2 rfl (fun _ => rfl) rfl rfl trivial fun a S CL => h_conv S CL hw le (subR rfl) rfl rfl underlying24 rfl rfl trivial fun a S CL => h_move S CL hw le (subR rfl) rfl rfl rfl trivial fun a S CL => h_rem S CL hw le (subR rfl) rfl rfl (by decide) rfl rfl trivial fun a S CL => h_bin S CL hw le (subR rfl) rfl rfl rfl rfl rfl trivial fun a S CL => ?_
    obtain ⟨c11, h4⟩ := chk_of h3; clear h3
    refine h_shl S CL hw le (subR rfl) (e := (min (Int.toNat (wr .i64 (8 * (Int.tmod (Int.tmod y22 136) 8)))) 64)) rfl rfl c11 rfl rfl rfl trivial fun a S CL => h_bin S CL hw le (subR rfl) rfl rfl rfl rfl rfl trivial fun a S CL => h_iaddr S CL hw le (subR rfl) rfl rfl underlying100 T24 c9.1 c9.2 (mul1 _ _) rfl rfl trivial fun a S CL => h_run' S rfl trivial (s_storei S (i := (wr .i64 (Int.tdiv (Int.tmod y22 136) 8))) rfl rfl .h T24 .h rfl c9.1 c9.2 fun w S => ?_)
    refine h_back ⟨fun h => (nomatch h), ?_⟩
    refine h_done ?_; clear CL hw le
    refine x_thenN (c_region (s_move S rfl rfl fun a S => s_bin S rfl rfl rfl rfl fun a S => c_end ?_))
    rcases ite_of h4 with ⟨c12, h5⟩ | ⟨c12, h5⟩
    ·refine c_condT S rfl c12 (c_region' (s_loada S rfl .h T100 (s' := [.ints .u64 (y23.set (Int.toNat (wr .i64 (Int.tdiv (Int.tmod y22 136) 8))) (bits .xor .u64 (rd y23 (wr .i64 (Int.tdiv (Int.tmod y22 136) 8))) (shl .u64 (wr .u64 (rd (y1.set (Int.toNat (wr .i64 (((y1).length : Int) - 1))) (bits .or .u8 (rd y1 (wr .i64 (((y1).length : Int) - 1))) 128)) y22)) (min (Int.toNat (wr .i64 (8 * (Int.tmod (Int.tmod y22 136) 8)))) 64)))) 25]) rfl rfl fun a S => bindX h5 fun t1 et1 h6 => s_callP S _ N71 rfl rfl (smithyref05_Turn.ok k (y23.set (Int.toNat (wr .i64 (Int.tdiv (Int.tmod y22 136) 8))) (bits .xor .u64 (rd y23 (wr .i64 (Int.tdiv (Int.tmod y22 136) 8))) (shl .u64 (wr .u64 (rd (y1.set (Int.toNat (wr .i64 (((y1).length : Int) - 1))) (bits .or .u8 (rd y1 (wr .i64 (((y1).length : Int) - 1))) 128)) y22)) (min (Int.toNat (wr .i64 (8 * (Int.tmod (Int.tmod y22 136) 8)))) 64)))) t1 et1 _ _) fun ch1 m le1 a w S => s_store S rfl rfl rfl (s' := [.ints .u64 t1 25]) .h T100 rfl rfl fun w S => c_end' (x_blockN (x_thenN ?_))))
     exact j4 _ g58 g59 t1 a w (S.sb rfl (.c0 (.c0 (.c0 .n)))) h6
    ·refine c_condF S rfl c12 (wp_skip (x_blockN (x_thenN ?_)))
     exact j4 _ g58 g59 (y23.set (Int.toNat (wr .i64 (Int.tdiv (Int.tmod y22 136) 8))) (bits .xor .u64 (rd y23 (wr .i64 (Int.tdiv (Int.tmod y22 136) 8))) (shl .u64 (wr .u64 (rd (y1.set (Int.toNat (wr .i64 (((y1).length : Int) - 1))) (bits .or .u8 (rd y1 (wr .i64 (((y1).length : Int) - 1))) 128)) y22)) (min (Int.toNat (wr .i64 (8 * (Int.tmod (Int.tmod y22 136) 8)))) 64)))) a w (S.sb rfl (.c0 (.c0 (.c0 .n)))) h5
   ·refine c_condF S rfl c8 (wp_exit (x_thenX (x_thenX (x_blockX (x_thenN ?_)))))
    exact j2 _ g58 g59 y23 a w (S.sb rfl (.c0 (.c1 .n))) h1
 refine wp_block ?_
 refine c_loop (fun q3 a w => ∃ m A4 nn3 cp13 y26 g68, St 83 m b0 [(3, (.s A4 nn3 cp13)), (2, (.p g68))] [Res.row yb 5 A4 nn3 cp13 y26, Res.cells g68 23 [.b32 z32]] a w ∧ smithyref05_Sum.l3 k q3 y26 = some r) ?_ ?_ (k := k) ⟨_, A2, ((0 + ((x1).length)) + 1), cp2, ((([] : List Int) ++ x1) ++ [1]), g1, (S.sb rfl (.c1 (.c1 .n))), h2⟩
 ·rintro a w ⟨m, A4, nn3, cp13, y26, g68, S, h0⟩
  exact (nomatch (show (none : Option ((List Int))) = some r from h0))
 ·clear S h2
  rintro q3 a w ⟨m, A4, nn3, cp13, y26, g68, S, h0⟩
  replace h0 : smithyref05_Sum.b3 k (smithyref05_Sum.l3 k q3) y26 = some r := h0
  delta smithyref05_Sum.b3 at h0
  refine wp_seq (c_region (s_move S rfl rfl fun a S => s_lenO S rfl .h underlying37 rfl fun a S => s_rem S rfl rfl (by decide) rfl fun a S => s_bin S rfl rfl rfl rfl fun a S => c_end ?_))
  rcases ite_of h0 with ⟨c13, h1⟩ | ⟨c13, h1⟩
  ·refine c_condT S rfl c13 (wp_skip (x_thenN (wp_block (c_region' (s_move S rfl rfl fun a S => s_bldSl S (ty' := yb) (ds := [(0, (.v (.int .u8 0)))]) (z := 0) (c0 := ()) (ys := [0]) (cs := [()]) rfl underlying37 J5 Z5 rfl ⟨rfl, trivial⟩ rfl rfl rfl rfl rfl rfl fun g69 a w S => ?_)))))
   obtain ⟨c14, h2⟩ := chk_of h1; clear h1
   refine s_app S (k2 := 1) (ys := [0]) rfl (fun _ _ => .h1) rfl rfl (S.holds _ (Pull.mem .h).1).1 (Res.row.src (S.holds _ (Pull.mem .h).1)) underlying37 J5 c14 rfl fun A5 cp14 a w S => s_assign S rfl rfl fun a S => c_end' (x_blockN (x_thenN ?_))
   exact ⟨_, A5, (nn3 + 1), cp14, (y26 ++ [0]), g68, (S.sb rfl (.c1 (.c1 .n))), h2⟩
  ·refine c_condF S rfl c13 (wp_exit (x_thenX (x_thenX (x_blockX (x_thenN ?_)))))
   exact j1 _ A4 nn3 cp13 y26 g68 a w (S.sb rfl (.c0 (.c0 .n))) h1
abbrev smithyref23_hash.Ty : Type := (List Int) → Option ((List Int))
def smithyref23_hash.Ctr (s : smithyref23_hash.Ty) : Prop := ∀ (x1 : List Int) (ch_0_0 : Option Addr) (ch_0_1 : Nat) (r : (List Int)), Ct (C := Unit) Tryd.prog 27 (s x1 = some r) [] [(.q yb ch_0_0 ch_0_1 x1)] (fun _ => (.a32 r)) fun _ => []
def smithyref23_hash.f (k : Nat) (x1 : List Int) : Option ((List Int)) := if (decide (1048576 < ((x1).length : Int))) = true then (some [0, 0, 0, 0, 0, 0, 0, 0, 0, 0, 0, 0, 0, 0, 0, 0, 0, 0, 0, 0, 0, 0, 0, 0, 0, 0, 0, 0, 0, 0, 0, 0]) else ((smithyref05_Sum.f k x1).bind fun t1 => (some t1))
theorem smithyref23_hash.ok (k : Nat) : smithyref23_hash.Ctr (smithyref23_hash.f k) := by
 intro x1 ch_0_0 ch_0_1 r h0 mi w0 ok hm
 delta smithyref23_hash.f at h0
 refine c_enterZ (n := 9) ok hm func27 rfl rfl rfl fun b0 hb a S => c_region (s_alloc S Z23 rfl ⟨rfl, trivial⟩ rfl fun g1 a w S => c_end (wp_seq (c_region (s_move S rfl rfl fun a S => s_lenS S rfl underlying37 rfl fun a S => s_bin S rfl rfl rfl rfl fun a S => c_end ?_))))
 rcases ite_of h0 with ⟨c1, h1⟩ | ⟨c1, h1⟩
 ·refine c_condT S rfl c1 (c_region (s_build S (ds := []) (dv := (.a32 z32)) rfl (fun _ => by kernel_rfl) ⟨rfl, trivial⟩ rfl fun a S => s_store S rfl rfl rfl (s' := [.b32 z32]) .h T23 rfl rfl fun w S => c_end (wp_ret (x_thenR ?_))))
  obtain rfl := Option.some.inj h1
  exact b_ret1 (d := (.a32 z32)) S rfl (resD_cell rfl .h T23 rfl rfl) (S.rt hb)
 ·refine c_condF S rfl c1 (wp_skip (x_thenN (c_region (s_move S rfl rfl fun a S => bindX h1 fun t1 et1 h2 => s_callP S _ N46 rfl rfl (smithyref05_Sum.ok k x1 ch_0_0 ch_0_1 t1 et1 _ _) fun ch1 m le1 a w S => s_store S rfl rfl rfl (s' := [.b32 t1]) .h T23 rfl rfl fun w S => c_end (wp_ret ?_)))))
  obtain rfl := Option.some.inj h2
  exact b_ret1 (d := (.a32 t1)) S rfl (resD_cell rfl .h T23 rfl rfl) (S.rt hb)
abbrev smithyref23_Root.Ty : Type := (List (List Int)) → Option ((List Int))
def smithyref23_Root.Ctr (s : smithyref23_Root.Ty) : Prop := ∀ (x1 : List (List Int)) (ch_0_0 : Option Addr) (ch_0_1 : Nat) (r : (List Int)), Ct (C := Unit) Tryd.prog 10 (s x1 = some r) [] [(.q (Ty.arr .u8 32) ch_0_0 ch_0_1 x1)] (fun _ => (.a32 r)) fun _ => []
def smithyref23_Root.j1 (k : Nat) (y1 : List (List Int)) : Option ((List Int)) := (smithyref23_list.f k y1).bind fun t1 => ((smithyref23_hash.f k t1).bind fun t2 => (some t2))
def smithyref23_Root.b1 (k : Nat) (x1 : List (List Int)) (rec1 : Int → (List (List Int)) → Option ((List Int))) (y4 : Int) (y5 : List (List Int)) : Option ((List Int)) := if (decide (y4 < ((x1).length : Int))) = true then (if (0 : Int) ≤ y4 ∧ y4 < ((x1).length : Int) then ((smithyref23_bytes.f k (gt x1 y4)).bind fun t5 => (if ((y5).length + ([t5]).length) * 24 ≤ 140737488355328 then (rec1 (wr .i64 (y4 + 1)) (y5 ++ [t5])) else none)) else none) else (smithyref23_Root.j1 k y5)
def smithyref23_Root.l1 (k : Nat) (x1 : List (List Int)) : Nat → Int → (List (List Int)) → Option ((List Int))
  | 0, _, _ => none
  | q + 1, y4, y5 => smithyref23_Root.b1 k x1 (smithyref23_Root.l1 k x1 q) y4 y5
def smithyref23_Root.f (k : Nat) (x1 : List (List Int)) : Option ((List Int)) := smithyref23_Root.l1 k x1 k 0 ([] : List (List Int))
theorem smithyref23_Root.ok (k : Nat) : smithyref23_Root.Ctr (smithyref23_Root.f k) := by
 intro x1 ch_0_0 ch_0_1 r h0 mi w0 ok hm
 delta smithyref23_Root.f at h0
 refine c_enterZ (n := 23) ok hm func10 rfl rfl rfl fun b0 hb a S => c_region (s_alloc S Z23 rfl ⟨rfl, trivial⟩ rfl fun g1 a w S => c_end (c_region (s_bldSl S (ty' := (Ty.slice yb)) (ds := []) (z := ([] : List Int)) (c0 := (none, 0)) (ys := ([] : List (List Int))) (cs := []) rfl underlying63 J37 Z37 rfl ⟨⟨Nat.le_refl _, Nat.zero_le _, RdS.nil _ _ _, RdS.mono _ _ _⟩, trivial⟩ rfl rfl rfl rfl rfl rfl fun g2 a w S => s_assign S rfl rfl fun a S => c_end (wp_seq_k fun K1 hK1 => ?_))))
 have j1 : ∀ m A1 nn1 cp1 y1 g8 a w, St 23 m b0 [(3, (.s A1 nn1 cp1)), (2, (.p g8))] [Res.row (Ty.slice yb) 37 A1 nn1 cp1 y1, Res.cells g8 23 [.b32 z32]] a w → smithyref23_Root.j1 k y1 = some r → K1 a w := by
  intro m A1 nn1 cp1 y1 g8 a w S h0
  delta smithyref23_Root.j1 at h0
  refine hK1 a w (c_region (s_move S rfl rfl fun a S => ?_))
  replace S := S.rowfro .h
  obtain ⟨m, le1, S, hro⟩ := S
  replace S := S.slotro (u := 20) rfl hro
  replace S := S.slotro (u := 3) rfl hro
  refine bindX h0 fun t1 et1 h1 => s_callR S (fun (ch : (Option Addr) × Nat × Nat) => ((.s ch.1 ch.2.1 ch.2.2) : D)) (fun (ch : (Option Addr) × Nat × Nat) => Res.row yb 5 ch.1 ch.2.1 ch.2.2 t1) N28 rfl rfl (smithyref23_list.ok k y1 A1 cp1 t1 et1 _ _) fun ch1 m le1 a w S => ?_
  replace S := S.rowfro .h
  obtain ⟨m, le1, S, hro⟩ := S
  replace S := S.slotro (u := 21) rfl hro
  refine bindX h1 fun t2 et2 h2 => s_callP S _ N27 rfl rfl (smithyref23_hash.ok k t1 ch1.1 ch1.2.2 t2 et2 _ _) fun ch2 m le1 a w S => s_store S rfl rfl rfl (s' := [.b32 t2]) .h T23 rfl rfl fun w S => c_end (wp_ret ?_)
  obtain rfl := Option.some.inj h2
  exact b_ret1 (d := (.a32 t2)) S rfl (resD_cell rfl .h T23 rfl rfl) (S.rt hb)
 refine c_region (s_move S rfl rfl fun a S => s_lenS S rfl underlying31 rfl fun a S => s_move S rfl rfl fun a S => c_end (wp_block ?_))
 refine c_loop (fun q1 a w => ∃ m y4 A2 nn3 cp5 y5 g13, St 23 m b0 [(8, (.i y4)), (7, (.i ((x1).length : Int))), (3, (.s A2 nn3 cp5)), (2, (.p g13)), (0, (.q (Ty.arr .u8 32) ch_0_0 ch_0_1 x1))] [Res.row (Ty.slice yb) 37 A2 nn3 cp5 y5, Res.cells g13 23 [.b32 z32]] a w ∧ smithyref23_Root.l1 k x1 q1 y4 y5 = some r) ?_ ?_ (k := k) ⟨_, 0, (ad g2), 0, 0, ([] : List (List Int)), g1, (S.sb rfl (.c0 (.c0 .n))), h0⟩
 ·rintro a w ⟨m, y4, A2, nn3, cp5, y5, g13, S, h0⟩
  exact (nomatch (show (none : Option ((List Int))) = some r from h0))
 ·clear S h0
  rintro q1 a w ⟨m, y4, A2, nn3, cp5, y5, g13, S, h0⟩
  replace h0 : smithyref23_Root.b1 k x1 (smithyref23_Root.l1 k x1 q1) y4 y5 = some r := h0
  delta smithyref23_Root.b1 at h0
  refine c_region (s_bin S rfl rfl rfl rfl fun a S => c_end (wp_seq ?_))
  rcases ite_of h0 with ⟨c1, h1⟩ | ⟨c1, h1⟩
  ·refine c_condT S rfl c1 (wp_skip (x_thenN (wp_seq (wp_block (c_region (s_move S rfl rfl fun a S => s_assign S rfl rfl fun a S => c_end (c_region' (s_move S rfl rfl fun a S => s_move S rfl rfl fun a S => s_move S rfl rfl fun a S => ?_))))))))
   obtain ⟨c2, h2⟩ := chk_of h1; clear h1
   refine s_iaddrS S rfl rfl rfl underlying31 T23 c2.1 c2.2 rfl fun p1 a S => s_slicePt S rfl underlying23 T5 (by decide) rfl fun a S => bindX h2 fun t5 et5 h3 => s_callP S _ N29 rfl rfl (smithyref23_bytes.ok k (gt x1 y4) (some p1) 32 t5 et5 _ _) fun ch5 m le1 a w S => s_bldSl S (ty' := (Ty.slice yb)) (ds := [(0, (.q yb ch5.1 ch5.2 t5))]) (z := ([] : List Int)) (c0 := (none, 0)) (ys := [t5]) (cs := [(ch5.1, ch5.2)]) rfl underlying63 J37 Z37 rfl ⟨⟨Nat.le_refl _, Nat.zero_le _, RdS.nil _ _ _, RdS.mono _ _ _⟩, trivial⟩ rfl rfl rfl rfl rfl rfl fun g14 a w S => ?_
   obtain ⟨c3, h4⟩ := chk_of h3; clear h3
   refine s_app S (k2 := 1) (ys := [t5]) rfl (fun _ _ => .h1) rfl rfl (S.holds _ (Pull.mem .h).1).1 (Res.row.src (S.holds _ (Pull.mem .h).1)) underlying63 J37 c3 rfl fun A3 cp6 a w S => s_assign S rfl rfl fun a S => c_end' (x_blockN (x_thenN (c_region' (s_bin S rfl rfl rfl rfl fun a S => s_move S rfl rfl fun a S => c_end' (x_thenN ?_)))))
   exact ⟨_, (wr .i64 (y4 + 1)), A3, (nn3 + 1), cp6, (y5 ++ [t5]), g13, (S.sb rfl (.c1 (.c1 .n))), h4⟩
  ·refine c_condF S rfl c1 (wp_exit (x_thenX (x_thenX (x_blockX (x_thenN ?_)))))
   exact j1 _ A2 nn3 cp5 y5 g13 a w (S.sb rfl (.c0 (.c0 .n))) h1
abbrev smithyref23_number.Ty : Type := (List Int) → Option ((List Int))
def smithyref23_number.Ctr (s : smithyref23_number.Ty) : Prop := ∀ (x1 : List Int) (r : (List Int)), Ct (C := ((Option Addr) × Nat)) Tryd.prog 31 (s x1 = some r) [] [(.a4 x1)] (fun ch => (.q yb ch.1 ch.2 r)) fun _ => []
def smithyref23_number.f (k : Nat) (x1 : List Int) : Option ((List Int)) := (smithyref07_Number.f k x1).bind fun t1 => ((smithyref23_bytes.f k t1).bind fun t2 => (some t2))
theorem smithyref23_number.ok (k : Nat) : smithyref23_number.Ctr (smithyref23_number.f k) := by
 intro x1 r h0 mi w0 ok hm
 delta smithyref23_number.f at h0
 refine c_enterZ (n := 6) ok hm func31 rfl rfl rfl fun b0 hb a S => c_region (s_box S rfl rfl rfl fun g1 a w S => s_assign S rfl rfl fun a S => c_end (c_region (s_loada S rfl .h T26 (s' := [.w4 x1]) rfl rfl fun a S => bindX h0 fun t1 et1 h1 => s_callR S (fun (ch : (Option Addr) × Nat × Nat) => ((.s ch.1 ch.2.1 ch.2.2) : D)) (fun (ch : (Option Addr) × Nat × Nat) => Res.row yb 5 ch.1 ch.2.1 ch.2.2 t1) N48 rfl rfl (smithyref07_Number.ok k x1 t1 et1 _ _) fun ch1 m le1 a w S => ?_)))
 replace S := S.rowfro .h
 obtain ⟨m, le1, S, hro⟩ := S
 replace S := S.slotro (u := 4) rfl hro
 refine bindX h1 fun t2 et2 h2 => s_callP S _ N29 rfl rfl (smithyref23_bytes.ok k t1 ch1.1 ch1.2.2 t2 et2 _ _) fun ch2 m le1 a w S => s_assign S rfl rfl fun a S => c_end (wp_ret ?_)
 obtain rfl := Option.some.inj h2
 exact b_ret1 (d := (.q yb ch2.1 ch2.2 t2)) S rfl rfl fun ok => S.retX (Hx := []) hb _ _ ((ch2.1, ch2.2) : (Option Addr) × Nat) .nil ok
abbrev smithyref23_count.Ty : Type := Int → Option ((List Int))
def smithyref23_count.Ctr (s : smithyref23_count.Ty) : Prop := ∀ (x1 : Int) (r : (List Int)), Ct (C := ((Option Addr) × Nat)) Tryd.prog 30 (s x1 = some r) [] [(.w x1)] (fun ch => (.q yb ch.1 ch.2 r)) fun _ => []
def smithyref23_count.f (k : Nat) (x1 : Int) : Option ((List Int)) := (smithyref23_number.f k [x1, 0, 0, 0]).bind fun t1 => (some t1)
theorem smithyref23_count.ok (k : Nat) : smithyref23_count.Ctr (smithyref23_count.f k) := by
 intro x1 r h0 mi w0 ok hm
 delta smithyref23_count.f at h0
 refine c_enterZ (n := 6) ok hm func30 rfl rfl rfl fun b0 hb a S => c_region (s_assign S rfl rfl fun a S => c_end (c_region (s_move S rfl rfl fun a S => s_build S (ds := [(0, (.w x1))]) (dv := (.a4 [x1, 0, 0, 0])) rfl (fun _ => by kernel_rfl) ⟨rfl, trivial⟩ rfl fun a S => bindX h0 fun t1 et1 h1 => s_callP S _ N31 rfl rfl (smithyref23_number.ok k [x1, 0, 0, 0] t1 et1 _ _) fun ch1 m le1 a w S => s_assign S rfl rfl fun a S => c_end (wp_ret ?_))))
 obtain rfl := Option.some.inj h1
 exact b_ret1 (d := (.q yb ch1.1 ch1.2 t1)) S rfl rfl fun ok => S.retX (Hx := []) hb _ _ ((ch1.1, ch1.2) : (Option Addr) × Nat) .nil ok
abbrev smithyref23_full.Ty : Type := (List Int) → Option ((List Int))
def smithyref23_full.Ctr (s : smithyref23_full.Ty) : Prop := ∀ (x1 : List Int) (r : (List Int)), Ct (C := ((Option Addr) × Nat)) Tryd.prog 32 (s x1 = some r) [] [(.a4 x1)] (fun ch => (.q yb ch.1 ch.2 r)) fun _ => []
def smithyref23_full.f (k : Nat) (x1 : List Int) : Option ((List Int)) := (smithyref01_Of.f k x1).bind fun t1 => ((smithyref01_D_Bytes.f k t1).bind fun t2 => ((smithyref23_bytes.f k (((t2).drop 0).take 32)).bind fun t3 => (some t3)))
theorem smithyref23_full.ok (k : Nat) : smithyref23_full.Ctr (smithyref23_full.f k) := by
 intro x1 r h0 mi w0 ok hm
 delta smithyref23_full.f at h0
 refine c_enterZ (n := 9) ok hm func32 rfl rfl rfl fun b0 hb a S => c_region (s_box S rfl rfl rfl fun g1 a w S => s_assign S rfl rfl fun a S => c_end (c_region (s_loada S rfl .h T26 (s' := [.w4 x1]) rfl rfl fun a S => bindX h0 fun t1 et1 h1 => s_callP S _ N49 rfl rfl (smithyref01_Of.ok k x1 t1 et1 _ _) fun ch1 m le1 a w S => bindX h1 fun t2 et2 h2 => s_callP S _ N50 rfl rfl (smithyref01_D_Bytes.ok k t1 t2 et2 _ _) fun ch2 m le1 a w S => s_alloc S Z22 rfl ⟨rfl, trivial⟩ rfl fun g2 a w S => s_store S rfl rfl rfl (s' := [.b32 t2]) .h T22 rfl rfl fun w S => c_end (c_region (s_sliceA S (i := 0) (j := 32) (o' := 0) (len := 32) (cap := 32) rfl underlying22 T5 (.inl ⟨rfl, rfl⟩) (.inl ⟨rfl, rfl⟩) (by decide) rfl rfl rfl rfl fun a S => ?_)))))
 replace S := S.freeze .h
 obtain ⟨m, le1, S⟩ := S
 replace S := (S.slup' (u := 7) (lo := 0) (c := 32) (ys := ((t2).drop 0).take 32) rfl (Pull.mem .h).1 .h (.inl rfl) (by decide) (by decide) rfl).2
 refine bindX h2 fun t3 et3 h3 => s_callP S _ N29 rfl rfl (smithyref23_bytes.ok k (((t2).drop 0).take 32) (ad g2) 32 t3 et3 _ _) fun ch3 m le1 a w S => s_assign S rfl rfl fun a S => c_end (wp_ret ?_)
 obtain rfl := Option.some.inj h3
 exact b_ret1 (d := (.q yb ch3.1 ch3.2 t3)) S rfl rfl fun ok => S.retX (Hx := []) hb _ _ ((ch3.1, ch3.2) : (Option Addr) × Nat) .nil ok
abbrev smithyref23_Hash.Ty : Type := L30 → Option ((List Int))
def smithyref23_Hash.Ctr (s : smithyref23_Hash.Ty) : Prop := ∀ (x1 : L30) (r : (List Int)), Ct (C := Unit) Tryd.prog 8 (s x1 = some r) [] [(.agg [.b32 x1.1, .w x1.2.1, .w x1.2.2.1, .w x1.2.2.2.1, .w x1.2.2.2.2.1, .w4 x1.2.2.2.2.2.1, .b20 x1.2.2.2.2.2.2.1, .w4 x1.2.2.2.2.2.2.2.1, .b32 x1.2.2.2.2.2.2.2.2.1, .b32 x1.2.2.2.2.2.2.2.2.2])] (fun _ => (.a32 r)) fun _ => []
def smithyref23_Hash.f (k : Nat) (x1 : L30) : Option ((List Int)) := (smithyref23_bytes.f k (((x1.1).drop 0).take 32)).bind fun t1 => ((smithyref23_count.f k x1.2.1).bind fun t2 => ((smithyref23_count.f k x1.2.2.1).bind fun t3 => ((smithyref23_count.f k x1.2.2.2.1).bind fun t4 => ((smithyref23_count.f k x1.2.2.2.2.1).bind fun t5 => ((smithyref23_number.f k x1.2.2.2.2.2.1).bind fun t6 => ((smithyref23_bytes.f k (((x1.2.2.2.2.2.2.1).drop 0).take 20)).bind fun t7 => ((smithyref23_full.f k x1.2.2.2.2.2.2.2.1).bind fun t8 => ((smithyref23_bytes.f k (((x1.2.2.2.2.2.2.2.2.1).drop 0).take 32)).bind fun t9 => ((smithyref23_bytes.f k (((x1.2.2.2.2.2.2.2.2.2).drop 0).take 32)).bind fun t10 => ((smithyref23_list.f k [t1, t2, t3, t4, t5, t6, t7, t8, t9, t10]).bind fun t11 => ((smithyref23_hash.f k t11).bind fun t12 => (some t12))))))))))))
theorem smithyref23_Hash.ok (k : Nat) : smithyref23_Hash.Ctr (smithyref23_Hash.f k) := by
 intro x1 r h0 mi w0 ok hm
 delta smithyref23_Hash.f at h0
 refine c_enterZ (n := 36) ok hm func8 rfl rfl rfl fun b0 hb a S => c_region (s_box S rfl rfl rfl fun g1 a w S => s_alloc S Z23 rfl ⟨rfl, trivial⟩ rfl fun g2 a w S => c_end ?_)
 replace S := S.freeze .h1
 obtain ⟨m, le1, S⟩ := S
 refine wp_seq (c_heldS S (.take 0 (.take 1 (.take 3 (.take 4 (.take 6 (.take 7 (.take 9 (.take 10 (.take 12 (.take 13 (.take 15 (.take 16 (.take 18 (.take 19 (.take 21 (.take 22 (.take 24 (.take 25 (.take 27 (.take 28 (.alts (.run 2 true (.alts (.run 5 true (.alts (.run 8 true (.alts (.run 11 true (.alts (.run 14 true (.alts (.run 17 true (.alts (.run 20 true (.alts (.run 23 true (.alts (.run 26 true (.alts (.run 29 true (.alts (.run 30 true (.alts (.run 31 true (.alts (.run 32 true (.alts (.run 33 false .done .nil)) .nil)) .nil)) .nil)) .nil)) .nil)) .nil)) .nil)) .nil)) .nil)) .nil)) .nil)) .nil)) .nil)))))))))))))))))))))) 33 [Res.cells g2 23 [.b32 z32], Res.fro g1 30 [.b32 x1.1, .w x1.2.1, .w x1.2.2.1, .w x1.2.2.2.1, .w x1.2.2.2.2.1, .w4 x1.2.2.2.2.2.1, .b20 x1.2.2.2.2.2.2.1, .w4 x1.2.2.2.2.2.2.2.1, .b32 x1.2.2.2.2.2.2.2.2.1, .b32 x1.2.2.2.2.2.2.2.2.2]] (.c0 (.c0 .n)) ⟨Res.stay_cells, Res.stay_fro, trivial⟩ [(1, (.p g1))] ⟨rfl, trivial⟩ (by kernel_rfl) (by kernel_rfl) ?_); clear S; intro w S CL hw le
 refine h_fieldAddr S CL hw le ⟨rfl, trivial⟩ rfl I30_0 T23 (by decide) rfl rfl rfl trivial fun a S CL => h_sliceA S CL hw le (subR rfl) (i := 0) (j := 32) (o' := 0) (len := 32) (cap := 32) rfl underlying23 T5 (.inl ⟨rfl, rfl⟩) (.inl ⟨rfl, rfl⟩) (by decide) rfl rfl rfl rfl rfl trivial fun a S CL => h_fieldAddr S CL hw le (subR rfl) rfl I30_1 T24 (by decide) rfl rfl rfl trivial fun a S CL => h_load1F S CL hw le (subR rfl) rfl .h1 T24 (v := (.int .u64 x1.2.1)) rfl rfl rfl trivial fun a S CL => h_fieldAddr S CL hw le (subR rfl) rfl I30_2 T24 (by decide) rfl rfl rfl trivial fun a S CL => h_load1F S CL hw le (subR rfl) rfl .h1 T24 (v := (.int .u64 x1.2.2.1)) rfl rfl rfl trivial fun a S CL => h_fieldAddr S CL hw le (subR rfl) rfl I30_3 T24 (by decide) rfl rfl rfl trivial fun a S CL => h_load1F S CL hw le (subR rfl) rfl .h1 T24 (v := (.int .u64 x1.2.2.2.1)) rfl rfl rfl trivial fun a S CL => h_fieldAddr S CL hw le (subR rfl) rfl I30_4 T24 (by decide) rfl rfl rfl trivial fun a S CL => h_load1F S CL hw le (subR rfl) rfl .h1 T24 (v := (.int .u64 x1.2.2.2.2.1)) rfl rfl rfl trivial fun a S CL => h_fieldAddr S CL hw le (subR rfl) rfl I30_5 T26 (by decide) rfl rfl rfl trivial fun a S CL => h_loadaF S CL hw le (subR rfl) rfl .h1 T26 (s' := [.w4 x1.2.2.2.2.2.1]) rfl rfl rfl trivial fun a S CL => h_fieldAddr S CL hw le (subR rfl) rfl I30_6 T28 (by decide) rfl rfl rfl trivial fun a S CL => h_sliceA S CL hw le (subR rfl) (i := 0) (j := 20) (o' := 40) (len := 20) (cap := 20) rfl underlying28 T5 (.inl ⟨rfl, rfl⟩) (.inl ⟨rfl, rfl⟩) (by decide) rfl rfl rfl rfl rfl trivial fun a S CL => h_fieldAddr S CL hw le (subR rfl) rfl I30_7 T26 (by decide) rfl rfl rfl trivial fun a S CL => h_loadaF S CL hw le (subR rfl) rfl .h1 T26 (s' := [.w4 x1.2.2.2.2.2.2.2.1]) rfl rfl rfl trivial fun a S CL => h_fieldAddr S CL hw le (subR rfl) rfl I30_8 T23 (by decide) rfl rfl rfl trivial fun a S CL => h_sliceA S CL hw le (subR rfl) (i := 0) (j := 32) (o' := 64) (len := 32) (cap := 32) rfl underlying23 T5 (.inl ⟨rfl, rfl⟩) (.inl ⟨rfl, rfl⟩) (by decide) rfl rfl rfl rfl rfl trivial fun a S CL => h_fieldAddr S CL hw le (subR rfl) rfl I30_9 T23 (by decide) rfl rfl rfl trivial fun a S CL => h_sliceA S CL hw le (subR rfl) (i := 0) (j := 32) (o' := 96) (len := 32) (cap := 32) rfl underlying23 T5 (.inl ⟨rfl, rfl⟩) (.inl ⟨rfl, rfl⟩) (by decide) rfl rfl rfl rfl rfl trivial fun a S CL => h_run' S rfl trivial ?_
 replace S := (S.slup' (u := 4) (lo := 0) (c := 32) (ys := ((x1.1).drop 0).take 32) rfl (Pull.mem .h1).1 .h (.inl rfl) (by decide) (by decide) rfl).2
 replace CL := CL.drop (lq' := [(31, (.s (some ⟨g1, 96, none⟩) 32 32)), (30, (.o g1 96)), (28, (.s (some ⟨g1, 64, none⟩) 32 32)), (27, (.o g1 64)), (25, (.a4 x1.2.2.2.2.2.2.2.1)), (24, (.o g1 60)), (22, (.s (some ⟨g1, 40, none⟩) 20 20)), (21, (.o g1 40)), (19, (.a4 x1.2.2.2.2.2.1)), (18, (.o g1 36)), (16, (.w x1.2.2.2.2.1)), (15, (.o g1 35)), (13, (.w x1.2.2.2.1)), (12, (.o g1 34)), (10, (.w x1.2.2.1)), (9, (.o g1 33)), (7, (.w x1.2.1)), (6, (.o g1 32)), (3, (.p g1)), (1, (.p g1))]) (subR rfl)
 refine bindX h0 fun t1 et1 h1 => s_callP S _ N29 rfl rfl (smithyref23_bytes.ok k (((x1.1).drop 0).take 32) (ad g1) 32 t1 et1 _ _) fun ch1 m le1 a w S => ?_
 replace le := le.trans le1
 replace hw := CL.again hw S (.c0 (.c0 .n)) le
 refine h_back ⟨fun _ => hw, ?_⟩
 refine h_run' S rfl trivial (bindX h1 fun t2 et2 h2 => s_callP S _ N30 rfl rfl (smithyref23_count.ok k x1.2.1 t2 et2 _ _) fun ch2 m le1 a w S => ?_)
 replace le := le.trans le1
 replace hw := CL.again hw S (.c0 (.c0 .n)) le
 refine h_back ⟨fun _ => hw, ?_⟩
 refine h_run' S rfl trivial (bindX h2 fun t3 et3 h3 => s_callP S _ N30 rfl rfl (smithyref23_count.ok k x1.2.2.1 t3 et3 _ _) fun ch3 m le1 a w S => ?_)
 replace le := le.trans le1
 replace hw := CL.again hw S (.c0 (.c0 .n)) le
 refine h_back ⟨fun _ => hw, ?_⟩
 refine h_run' S rfl trivial (bindX h3 fun t4 et4 h4 => s_callP S _ N30 rfl rfl (smithyref23_count.ok k x1.2.2.2.1 t4 et4 _ _) fun ch4 m le1 a w S => ?_)
 replace le := le.trans le1
 replace hw := CL.again hw S (.c0 (.c0 .n)) le
 refine h_back ⟨fun _ => hw, ?_⟩
 refine h_run' S rfl trivial (bindX h4 fun t5 et5 h5 => s_callP S _ N30 rfl rfl (smithyref23_count.ok k x1.2.2.2.2.1 t5 et5 _ _) fun ch5 m le1 a w S => ?_)
 replace le := le.trans le1
 replace hw := CL.again hw S (.c0 (.c0 .n)) le
 refine h_back ⟨fun _ => hw, ?_⟩
 refine h_run' S rfl trivial (bindX h5 fun t6 et6 h6 => s_callP S _ N31 rfl rfl (smithyref23_number.ok k x1.2.2.2.2.2.1 t6 et6 _ _) fun ch6 m le1 a w S => ?_)
 replace le := le.trans le1
 replace hw := CL.again hw S (.c0 (.c0 .n)) le
 refine h_back ⟨fun _ => hw, ?_⟩
 refine h_run' S rfl trivial ?_
 replace S := (S.slup' (u := 22) (lo := 0) (c := 20) (ys := ((x1.2.2.2.2.2.2.1).drop 0).take 20) rfl (Pull.mem .h1).1 (.there (.there (.there (.there (.there (.there .h rfl) rfl) rfl) rfl) rfl) rfl) (.inl rfl) (by decide) (by decide) rfl).2
 replace CL := CL.drop (lq' := [(31, (.s (some ⟨g1, 96, none⟩) 32 32)), (30, (.o g1 96)), (28, (.s (some ⟨g1, 64, none⟩) 32 32)), (27, (.o g1 64)), (25, (.a4 x1.2.2.2.2.2.2.2.1)), (24, (.o g1 60)), (21, (.o g1 40)), (19, (.a4 x1.2.2.2.2.2.1)), (18, (.o g1 36)), (16, (.w x1.2.2.2.2.1)), (15, (.o g1 35)), (13, (.w x1.2.2.2.1)), (12, (.o g1 34)), (10, (.w x1.2.2.1)), (9, (.o g1 33)), (7, (.w x1.2.1)), (6, (.o g1 32)), (3, (.p g1)), (1, (.p g1))]) (subR rfl)
 refine bindX h6 fun t7 et7 h7 => s_callP S _ N29 rfl rfl (smithyref23_bytes.ok k (((x1.2.2.2.2.2.2.1).drop 0).take 20) (some ⟨g1, 40, none⟩) 20 t7 et7 _ _) fun ch7 m le1 a w S => ?_
 replace le := le.trans le1
 replace hw := CL.again hw S (.c0 (.c0 .n)) le
 refine h_back ⟨fun _ => hw, ?_⟩
 refine h_run' S rfl trivial (bindX h7 fun t8 et8 h8 => s_callP S _ N32 rfl rfl (smithyref23_full.ok k x1.2.2.2.2.2.2.2.1 t8 et8 _ _) fun ch8 m le1 a w S => ?_)
 replace le := le.trans le1
 replace hw := CL.again hw S (.c0 (.c0 .n)) le
 refine h_back ⟨fun _ => hw, ?_⟩
 refine h_run' S rfl trivial ?_
 replace S := (S.slup' (u := 28) (lo := 0) (c := 32) (ys := ((x1.2.2.2.2.2.2.2.2.1).drop 0).take 32) rfl (Pull.mem .h1).1 (.there (.there (.there (.there (.there (.there (.there (.there .h rfl) rfl) rfl) rfl) rfl) rfl) rfl) rfl) (.inl rfl) (by decide) (by decide) rfl).2
 replace CL := CL.drop (lq' := [(31, (.s (some ⟨g1, 96, none⟩) 32 32)), (30, (.o g1 96)), (27, (.o g1 64)), (25, (.a4 x1.2.2.2.2.2.2.2.1)), (24, (.o g1 60)), (21, (.o g1 40)), (19, (.a4 x1.2.2.2.2.2.1)), (18, (.o g1 36)), (16, (.w x1.2.2.2.2.1)), (15, (.o g1 35)), (13, (.w x1.2.2.2.1)), (12, (.o g1 34)), (10, (.w x1.2.2.1)), (9, (.o g1 33)), (7, (.w x1.2.1)), (6, (.o g1 32)), (3, (.p g1)), (1, (.p g1))]) (subR rfl)
 refine bindX h8 fun t9 et9 h9 => s_callP S _ N29 rfl rfl (smithyref23_bytes.ok k (((x1.2.2.2.2.2.2.2.2.1).drop 0).take 32) (some ⟨g1, 64, none⟩) 32 t9 et9 _ _) fun ch9 m le1 a w S => ?_
 replace le := le.trans le1
 replace hw := CL.again hw S (.c0 (.c0 .n)) le
 refine h_back ⟨fun _ => hw, ?_⟩
 refine h_run' S rfl trivial ?_
 replace S := (S.slup' (u := 31) (lo := 0) (c := 32) (ys := ((x1.2.2.2.2.2.2.2.2.2).drop 0).take 32) rfl (Pull.mem .h1).1 (.there (.there (.there (.there (.there (.there (.there (.there (.there .h rfl) rfl) rfl) rfl) rfl) rfl) rfl) rfl) rfl) (.inl rfl) (by decide) (by decide) rfl).2
 replace CL := CL.drop (lq' := [(30, (.o g1 96)), (27, (.o g1 64)), (25, (.a4 x1.2.2.2.2.2.2.2.1)), (24, (.o g1 60)), (21, (.o g1 40)), (19, (.a4 x1.2.2.2.2.2.1)), (18, (.o g1 36)), (16, (.w x1.2.2.2.2.1)), (15, (.o g1 35)), (13, (.w x1.2.2.2.1)), (12, (.o g1 34)), (10, (.w x1.2.2.1)), (9, (.o g1 33)), (7, (.w x1.2.1)), (6, (.o g1 32)), (3, (.p g1)), (1, (.p g1))]) (subR rfl)
 refine bindX h9 fun t10 et10 h10 => s_callP S _ N29 rfl rfl (smithyref23_bytes.ok k (((x1.2.2.2.2.2.2.2.2.2).drop 0).take 32) (some ⟨g1, 96, none⟩) 32 t10 et10 _ _) fun ch10 m le1 a w S => ?_
 replace le := le.trans le1
 replace hw := CL.again hw S (.c0 (.c0 .n)) le
 refine h_back ⟨fun _ => hw, ?_⟩
 refine h_run' S rfl trivial (s_bldSl S (ty' := (Ty.slice yb)) (ds := [(0, (.q yb ch1.1 ch1.2 t1)), (1, (.q yb ch2.1 ch2.2 t2)), (2, (.q yb ch3.1 ch3.2 t3)), (3, (.q yb ch4.1 ch4.2 t4)), (4, (.q yb ch5.1 ch5.2 t5)), (5, (.q yb ch6.1 ch6.2 t6)), (6, (.q yb ch7.1 ch7.2 t7)), (7, (.q yb ch8.1 ch8.2 t8)), (8, (.q yb ch9.1 ch9.2 t9)), (9, (.q yb ch10.1 ch10.2 t10))]) (z := ([] : List Int)) (c0 := (none, 0)) (ys := [t1, t2, t3, t4, t5, t6, t7, t8, t9, t10]) (cs := [(ch1.1, ch1.2), (ch2.1, ch2.2), (ch3.1, ch3.2), (ch4.1, ch4.2), (ch5.1, ch5.2), (ch6.1, ch6.2), (ch7.1, ch7.2), (ch8.1, ch8.2), (ch9.1, ch9.2), (ch10.1, ch10.2)]) rfl underlying63 J37 Z37 rfl ⟨⟨Nat.le_refl _, Nat.zero_le _, RdS.nil _ _ _, RdS.mono _ _ _⟩, trivial⟩ rfl rfl rfl rfl rfl rfl fun g3 a w S => ?_)
 replace hw := CL.again hw S (.c1 (.c1 .n)) le
 refine h_back ⟨fun _ => hw, ?_⟩
 refine h_run' S rfl trivial ?_
 replace S := S.rowfro .h
 obtain ⟨m, le1, S, hro⟩ := S
 replace le := le.trans le1
 replace S := S.slotro (u := 33) rfl hro
 refine bindX h10 fun t11 et11 h11 => s_callR S (fun (ch : (Option Addr) × Nat × Nat) => ((.s ch.1 ch.2.1 ch.2.2) : D)) (fun (ch : (Option Addr) × Nat × Nat) => Res.row yb 5 ch.1 ch.2.1 ch.2.2 t11) N28 rfl rfl (smithyref23_list.ok k [t1, t2, t3, t4, t5, t6, t7, t8, t9, t10] (ad g3) 10 t11 et11 _ _) fun ch11 m le1 a w S => ?_
 replace le := le.trans le1
 replace hw := CL.again hw S (.c1 (.c1 .n)) le
 refine h_back ⟨fun _ => hw, ?_⟩
 refine h_run' S rfl trivial ?_
 replace S := S.rowfro .h
 obtain ⟨m, le1, S, hro⟩ := S
 replace le := le.trans le1
 replace S := S.slotro (u := 34) rfl hro
 refine bindX h11 fun t12 et12 h12 => s_callP S _ N27 rfl rfl (smithyref23_hash.ok k t11 ch11.1 ch11.2.2 t12 et12 _ _) fun ch12 m le1 a w S => ?_
 replace le := le.trans le1
 replace hw := CL.again hw S (.c0 (.c0 .n)) le
 refine h_back ⟨fun _ => hw, ?_⟩
 refine h_run' S rfl trivial (s_store S rfl rfl rfl (s' := [.b32 t12]) .h T23 rfl rfl fun w S => ?_)
 refine h_back ⟨fun h => (nomatch h), ?_⟩
 refine h_done ?_; clear CL hw le
 refine x_thenN (wp_ret ?_)
 obtain rfl := Option.some.inj h12
 exact b_ret1 (d := (.a32 t12)) S rfl (resD_cell rfl .h T23 rfl rfl) (S.rt hb)
abbrev smithyref02_Of.Ty : Type := (List Int) → Option ((List Int))
def smithyref02_Of.Ctr (s : smithyref02_Of.Ty) : Prop := ∀ (x1 : List Int) (r : (List Int)), Ct (C := ((Option Addr) × Nat × Nat)) Tryd.prog 58 (s x1 = some r) [] [(.a4 x1)] (fun ch => (.s ch.1 ch.2.1 ch.2.2)) fun ch => [Res.row yi 3 ch.1 ch.2.1 ch.2.2 r]
def smithyref02_Of.j1 (y1 : List Int) : Option ((List Int)) := some y1
def smithyref02_Of.b1 (t1 : (List Int)) (rec1 : Int → (List Int) → Option ((List Int))) (y4 : Int) (y5 : List Int) : Option ((List Int)) := if (decide (y4 < 32)) = true then (if (0 : Int) ≤ y4 ∧ y4 < 32 then (if ((y5).length + ([rd t1 y4]).length) * 8 ≤ 140737488355328 then (rec1 (wr .i64 (y4 + 1)) (y5 ++ [rd t1 y4])) else none) else none) else (smithyref02_Of.j1 y5)
def smithyref02_Of.l1 (t1 : (List Int)) : Nat → Int → (List Int) → Option ((List Int))
  | 0, _, _ => none
  | q + 1, y4, y5 => smithyref02_Of.b1 t1 (smithyref02_Of.l1 t1 q) y4 y5
def smithyref02_Of.f (k : Nat) (x1 : List Int) : Option ((List Int)) := (smithyref01_Of.f k x1).bind fun t1 => (smithyref02_Of.l1 t1 k 0 ([] : List Int))
theorem smithyref02_Of.ok (k : Nat) : smithyref02_Of.Ctr (smithyref02_Of.f k) := by
 intro x1 r h0 mi w0 ok hm
 delta smithyref02_Of.f at h0
 refine c_enterZ (n := 20) ok hm func58 rfl rfl rfl fun b0 hb a S => c_region (s_box S rfl rfl rfl fun g1 a w S => s_assign S rfl rfl fun a S => c_end (c_region (s_loada S rfl .h T26 (s' := [.w4 x1]) rfl rfl fun a S => bindX h0 fun t1 et1 h1 => s_callP S _ N49 rfl rfl (smithyref01_Of.ok k x1 t1 et1 _ _) fun ch1 m le1 a w S => s_alloc S Z81 rfl ⟨rfl, trivial⟩ rfl fun g2 a w S => s_store S rfl rfl rfl (s' := [.ints .i64 t1 32]) .h T81 rfl rfl fun w S => c_end (c_region (s_bldSl S (ty' := yi) (ds := []) (z := 0) (c0 := ()) (ys := ([] : List Int)) (cs := []) rfl underlying89 J3 Z3 rfl ⟨rfl, trivial⟩ rfl rfl rfl rfl rfl rfl fun g3 a w S => s_assign S rfl rfl fun a S => c_end (wp_seq_k fun K1 hK1 => ?_))))))
 have j1 : ∀ m A1 nn1 cp1 y1 a w, St 20 m b0 [(4, (.s A1 nn1 cp1))] [Res.row yi 3 A1 nn1 cp1 y1] a w → smithyref02_Of.j1 y1 = some r → K1 a w := by
  intro m A1 nn1 cp1 y1 a w S h0
  delta smithyref02_Of.j1 at h0
  refine hK1 a w (c_region (s_move S rfl rfl fun a S => s_assign S rfl rfl fun a S => c_end (wp_ret ?_)))
  obtain rfl := Option.some.inj h0
  exact b_ret1 (d := (.s A1 nn1 cp1)) S rfl rfl fun ok => S.retX (Hx := []) hb _ _ ((A1, nn1, cp1) : (Option Addr) × Nat × Nat) (.c0 .n) ok
 refine c_region (s_assign S rfl rfl fun a S => c_end (wp_block ?_))
 refine c_loop (fun q1 a w => ∃ m y4 A2 nn3 cp5 y5 g13, St 20 m b0 [(5, (.i y4)), (4, (.s A2 nn3 cp5)), (3, (.p g13))] [Res.row yi 3 A2 nn3 cp5 y5, Res.cells g13 81 [.ints .i64 t1 32]] a w ∧ smithyref02_Of.l1 t1 q1 y4 y5 = some r) ?_ ?_ (k := k) ⟨_, 0, (ad g3), 0, 0, ([] : List Int), g2, (S.sb rfl (.c0 (.c0 .n))), h1⟩
 ·rintro a w ⟨m, y4, A2, nn3, cp5, y5, g13, S, h0⟩
  exact (nomatch (show (none : Option ((List Int))) = some r from h0))
 ·clear S h1
  rintro q1 a w ⟨m, y4, A2, nn3, cp5, y5, g13, S, h0⟩
  replace h0 : smithyref02_Of.b1 t1 (smithyref02_Of.l1 t1 q1) y4 y5 = some r := h0
  delta smithyref02_Of.b1 at h0
  refine wp_seq (c_region (s_move S rfl rfl fun a S => s_bin S rfl rfl rfl rfl fun a S => c_end ?_))
  rcases ite_of h0 with ⟨c1, h1⟩ | ⟨c1, h1⟩
  ·refine c_condT S rfl c1 (wp_skip (x_thenN (wp_seq (wp_block (c_region' (s_move S rfl rfl fun a S => s_move S rfl rfl fun a S => ?_))))))
   obtain ⟨c2, h2⟩ := chk_of h1; clear h1
   refine s_iaddr S rfl rfl underlying81 T3 c2.1 c2.2 (mul1 _ _) rfl fun a S => s_loadi S (i := y4) rfl .h1 T3 .h rfl c2.1 c2.2 rfl fun a S => s_bldSl S (ty' := yi) (ds := [(0, (.i (rd t1 y4)))]) (z := 0) (c0 := ()) (ys := [rd t1 y4]) (cs := [()]) rfl underlying89 J3 Z3 rfl ⟨rfl, trivial⟩ rfl rfl rfl rfl rfl rfl fun g14 a w S => ?_
   obtain ⟨c3, h3⟩ := chk_of h2; clear h2
   refine s_app S (k2 := 1) (ys := [rd t1 y4]) rfl (fun _ _ => .h1) rfl rfl (S.holds _ (Pull.mem .h).1).1 (Res.row.src (S.holds _ (Pull.mem .h).1)) underlying89 J3 c3 rfl fun A3 cp6 a w S => s_assign S rfl rfl fun a S => c_end' (x_blockN (x_thenN (c_region' (s_move S rfl rfl fun a S => s_bin S rfl rfl rfl rfl fun a S => s_assign S rfl rfl fun a S => c_end' (x_thenN ?_)))))
   exact ⟨_, (wr .i64 (y4 + 1)), A3, (nn3 + 1), cp6, (y5 ++ [rd t1 y4]), g13, (S.sb rfl (.c1 (.c1 .n))), h3⟩
  ·refine c_condF S rfl c1 (wp_exit (x_thenX (x_thenX (x_blockX (x_thenN ?_)))))
   exact j1 _ A2 nn3 cp5 y5 a w (S.sub ⟨rfl, trivial⟩ (.c0 .n)) h1
abbrev smithyref02_at.Ty : Type := (List Int) → Int → Option Int
def smithyref02_at.Ctr (s : smithyref02_at.Ty) : Prop := ∀ (x1 : List Int) (x2 : Int) (ch_0_0 : Option Addr) (ch_0_1 : Nat) (r : Int), Ct (C := Unit) Tryd.prog 79 (s x1 x2 = some r) [] [(.q yi ch_0_0 ch_0_1 x1), (.i x2)] (fun _ => (.i r)) fun _ => []
def smithyref02_at.f (x1 : List Int) (x2 : Int) : Option Int := if (decide (x2 < ((x1).length : Int))) = true then (if (0 : Int) ≤ x2 ∧ x2 < ((x1).length : Int) then (some (rd x1 x2)) else none) else (some 0)
theorem smithyref02_at.ok : smithyref02_at.Ctr (smithyref02_at.f) := by
 intro x1 x2 ch_0_0 ch_0_1 r h0 mi w0 ok hm
 delta smithyref02_at.f at h0
 refine c_enterZ (n := 13) ok hm func79 rfl rfl rfl fun b0 hb a S => c_region (s_assign S rfl rfl fun a S => c_end (wp_seq (c_region (s_move S rfl rfl fun a S => s_move S rfl rfl fun a S => s_lenS S rfl underlying89 rfl fun a S => s_bin S rfl rfl rfl rfl fun a S => c_end ?_))))
 rcases ite_of h0 with ⟨c1, h1⟩ | ⟨c1, h1⟩
 ·refine c_condT S rfl c1 (c_region (s_move S rfl rfl fun a S => s_move S rfl rfl fun a S => ?_))
  obtain ⟨c2, h2⟩ := chk_of h1; clear h1
  refine s_iaddrS S rfl rfl rfl underlying89 T3 c2.1 c2.2 rfl fun p1 a S => s_ld1 S (v := (.int .i64 (rd x1 x2))) rfl T3 (fun _ => rfl) rfl fun a S => s_assign S rfl rfl fun a S => c_end (wp_ret (x_thenR ?_))
  obtain rfl := Option.some.inj h2
  exact b_ret1 (d := (.i (rd x1 x2))) S rfl rfl (S.rt hb)
 ·refine c_condF S rfl c1 (wp_skip (x_thenN (c_region (s_assign S rfl rfl fun a S => c_end (wp_ret ?_)))))
  obtain rfl := Option.some.inj h1
  exact b_ret1 (d := (.i 0)) S rfl rfl (S.rt hb)
abbrev smithyref02_Times.Ty : Type := (List Int) → (List Int) → Option ((List Int))
def smithyref02_Times.Ctr (s : smithyref02_Times.Ty) : Prop := ∀ (x1 : List Int) (x2 : List Int) (ch_0_0 : Option Addr) (ch_0_1 : Nat) (ch_1_0 : Option Addr) (ch_1_1 : Nat) (r : (List Int)), Ct (C := ((Option Addr) × Nat × Nat)) Tryd.prog 77 (s x1 x2 = some r) [] [(.q yi ch_0_0 ch_0_1 x1), (.q yi ch_1_0 ch_1_1 x2)] (fun ch => (.s ch.1 ch.2.1 ch.2.2)) fun ch => [Res.row yi 3 ch.1 ch.2.1 ch.2.2 r]
def smithyref02_Times.j1 (y1 : List Int) : Option ((List Int)) := some y1
def smithyref02_Times.j2 (y24 : Int) (rec1 : Int → (List Int) → Option ((List Int))) (y35 : List Int) : Option ((List Int)) := rec1 (wr .i64 (y24 + 1)) y35
def smithyref02_Times.j3 (x1 : List Int) (x2 : List Int) (y24 : Int) (rec1 : Int → (List Int) → Option ((List Int))) (y41 : Int) (y42 : Int) (y43 : List Int) (rec2 : Int → Int → (List Int) → Option ((List Int))) (y44 : Bool) : Option ((List Int)) := if y44 = true then (if (0 : Int) ≤ (wr .i64 (y24 + y41)) ∧ (wr .i64 (y24 + y41)) < ((y43).length : Int) then (if (0 : Int) ≤ y24 ∧ y24 < ((x1).length : Int) then ((smithyref02_at.f x2 y41).bind fun t1 => (rec2 (wr .i64 (y41 + 1)) (wr .i64 (Int.tdiv (wr .i64 ((wr .i64 ((rd y43 (wr .i64 (y24 + y41))) + (wr .i64 ((rd x1 y24) * t1)))) + y42)) 256)) (y43.set (Int.toNat (wr .i64 (y24 + y41))) (Int.tmod (wr .i64 ((wr .i64 ((rd y43 (wr .i64 (y24 + y41))) + (wr .i64 ((rd x1 y24) * t1)))) + y42)) 256)))) else none) else none) else (smithyref02_Times.j2 y24 rec1 y43)
def smithyref02_Times.b2 (x1 : List Int) (x2 : List Int) (y24 : Int) (rec1 : Int → (List Int) → Option ((List Int))) (rec2 : Int → Int → (List Int) → Option ((List Int))) (y41 : Int) (y42 : Int) (y43 : List Int) : Option ((List Int)) := if (decide (y41 < ((x2).length : Int))) = true then (smithyref02_Times.j3 x1 x2 y24 rec1 y41 y42 y43 rec2 true) else (smithyref02_Times.j3 x1 x2 y24 rec1 y41 y42 y43 rec2 (decide (0 < y42)))
def smithyref02_Times.l2 (x1 : List Int) (x2 : List Int) (y24 : Int) (rec1 : Int → (List Int) → Option ((List Int))) : Nat → Int → Int → (List Int) → Option ((List Int))
  | 0, _, _, _ => none
  | q + 1, y41, y42, y43 => smithyref02_Times.b2 x1 x2 y24 rec1 (smithyref02_Times.l2 x1 x2 y24 rec1 q) y41 y42 y43
def smithyref02_Times.b1 (k : Nat) (x1 : List Int) (x2 : List Int) (rec1 : Int → (List Int) → Option ((List Int))) (y24 : Int) (y25 : List Int) : Option ((List Int)) := if (decide (y24 < ((x1).length : Int))) = true then (smithyref02_Times.l2 x1 x2 y24 rec1 k 0 0 y25) else (smithyref02_Times.j1 y25)
def smithyref02_Times.l1 (k : Nat) (x1 : List Int) (x2 : List Int) : Nat → Int → (List Int) → Option ((List Int))
  | 0, _, _ => none
  | q + 1, y24, y25 => smithyref02_Times.b1 k x1 x2 (smithyref02_Times.l1 k x1 x2 q) y24 y25
def smithyref02_Times.f (k : Nat) (x1 : List Int) (x2 : List Int) : Option ((List Int)) := if (0 : Int) ≤ (wr .i64 ((wr .i64 (((x1).length : Int) + ((x2).length : Int))) + 1)) ∧ 8 * Int.toNat (wr .i64 ((wr .i64 (((x1).length : Int) + ((x2).length : Int))) + 1)) ≤ 281474976710656 then (smithyref02_Times.l1 k x1 x2 k 0 (List.replicate (Int.toNat (wr .i64 ((wr .i64 (((x1).length : Int) + ((x2).length : Int))) + 1))) (0 : Int))) else none
theorem smithyref02_Times.ok (k : Nat) : smithyref02_Times.Ctr (smithyref02_Times.f k) := by
 intro x1 x2 ch_0_0 ch_0_1 ch_1_0 ch_1_1 r h0 mi w0 ok hm
 delta smithyref02_Times.f at h0
 refine c_enterZ (n := 60) ok hm func77 rfl rfl rfl fun b0 hb a S => c_region (s_assign S rfl rfl fun a S => c_end (c_region (s_move S rfl rfl fun a S => s_lenS S rfl underlying89 rfl fun a S => s_move S rfl rfl fun a S => s_lenS S rfl underlying89 rfl fun a S => s_bin S rfl rfl rfl rfl fun a S => s_bin S rfl rfl rfl rfl fun a S => ?_)))
 obtain ⟨c1, h1⟩ := chk_of h0; clear h0
 refine s_make S (ty' := yi) (z := 0) (c0 := ()) rfl rfl underlying89 J3 Z3 rfl ⟨rfl, trivial⟩ c1.1 c1.2 rfl fun g1 a w S => s_assign S rfl rfl fun a S => c_end (wp_seq_k fun K1 hK1 => ?_)
 have j1 : ∀ m y1 a w, St 60 m b0 [(5, (.s (ad g1) (Int.toNat (wr .i64 ((wr .i64 (((x1).length : Int) + ((x2).length : Int))) + 1))) (Int.toNat (wr .i64 ((wr .i64 (((x1).length : Int) + ((x2).length : Int))) + 1)))))] [Res.row yi 3 (ad g1) (Int.toNat (wr .i64 ((wr .i64 (((x1).length : Int) + ((x2).length : Int))) + 1))) (Int.toNat (wr .i64 ((wr .i64 (((x1).length : Int) + ((x2).length : Int))) + 1))) y1] a w → smithyref02_Times.j1 y1 = some r → K1 a w := by
  intro m y1 a w S h0
  delta smithyref02_Times.j1 at h0
  refine hK1 a w (c_region (s_move S rfl rfl fun a S => s_assign S rfl rfl fun a S => c_end (wp_ret ?_)))
  obtain rfl := Option.some.inj h0
  exact b_ret1 (d := (.s (ad g1) (Int.toNat (wr .i64 ((wr .i64 (((x1).length : Int) + ((x2).length : Int))) + 1))) (Int.toNat (wr .i64 ((wr .i64 (((x1).length : Int) + ((x2).length : Int))) + 1))))) S rfl rfl fun ok => S.retX (Hx := []) hb _ _ (((ad g1), Int.toNat (wr .i64 ((wr .i64 (((x1).length : Int) + ((x2).length : Int))) + 1)), Int.toNat (wr .i64 ((wr .i64 (((x1).length : Int) + ((x2).length : Int))) + 1))) : (Option Addr) × Nat × Nat) (.c0 .n) ok
 refine c_region (s_move S rfl rfl fun a S => s_lenS S rfl underlying89 rfl fun a S => s_move S rfl rfl fun a S => c_end (wp_block ?_))
 refine c_loop (fun q1 a w => ∃ m y24 y25, St 60 m b0 [(19, (.i y24)), (18, (.i ((x1).length : Int))), (5, (.s (ad g1) (Int.toNat (wr .i64 ((wr .i64 (((x1).length : Int) + ((x2).length : Int))) + 1))) (Int.toNat (wr .i64 ((wr .i64 (((x1).length : Int) + ((x2).length : Int))) + 1))))), (0, (.q yi ch_0_0 ch_0_1 x1)), (1, (.q yi ch_1_0 ch_1_1 x2))] [Res.row yi 3 (ad g1) (Int.toNat (wr .i64 ((wr .i64 (((x1).length : Int) + ((x2).length : Int))) + 1))) (Int.toNat (wr .i64 ((wr .i64 (((x1).length : Int) + ((x2).length : Int))) + 1))) y25] a w ∧ smithyref02_Times.l1 k x1 x2 q1 y24 y25 = some r) ?_ ?_ (k := k) ⟨_, 0, (List.replicate (Int.toNat (wr .i64 ((wr .i64 (((x1).length : Int) + ((x2).length : Int))) + 1))) (0 : Int)), (S.sb rfl (.c0 .n)), h1⟩
 ·rintro a w ⟨m, y24, y25, S, h0⟩
  exact (nomatch (show (none : Option ((List Int))) = some r from h0))
 ·clear S h1
  rintro q1 a w ⟨m, y24, y25, S, h0⟩
  replace h0 : smithyref02_Times.b1 k x1 x2 (smithyref02_Times.l1 k x1 x2 q1) y24 y25 = some r := h0
  delta smithyref02_Times.b1 at h0
  refine c_region (s_bin S rfl rfl rfl rfl fun a S => c_end (wp_seq ?_))
  rcases ite_of h0 with ⟨c2, h1⟩ | ⟨c2, h1⟩
  ·refine c_condT S rfl c2 (wp_skip (x_thenN (wp_seq_k fun K2 hK2 => ?_)))
   have j2 : ∀ m y35 a w, St 60 m b0 [(19, (.i y24)), (18, (.i ((x1).length : Int))), (5, (.s (ad g1) (Int.toNat (wr .i64 ((wr .i64 (((x1).length : Int) + ((x2).length : Int))) + 1))) (Int.toNat (wr .i64 ((wr .i64 (((x1).length : Int) + ((x2).length : Int))) + 1))))), (0, (.q yi ch_0_0 ch_0_1 x1)), (1, (.q yi ch_1_0 ch_1_1 x2))] [Res.row yi 3 (ad g1) (Int.toNat (wr .i64 ((wr .i64 (((x1).length : Int) + ((x2).length : Int))) + 1))) (Int.toNat (wr .i64 ((wr .i64 (((x1).length : Int) + ((x2).length : Int))) + 1))) y35] a w → smithyref02_Times.j2 y24 (smithyref02_Times.l1 k x1 x2 q1) y35 = some r → K2 a w := by
    intro m y35 a w S h0
    delta smithyref02_Times.j2 at h0
    refine hK2 a w (c_region' (s_bin S rfl rfl rfl rfl fun a S => s_move S rfl rfl fun a S => c_end' (x_thenN ?_)))
    exact ⟨_, (wr .i64 (y24 + 1)), y35, (S.sb rfl (.c0 .n)), h0⟩
   refine wp_block (c_region (s_move S rfl rfl fun a S => s_assign S rfl rfl fun a S => c_end (c_region (s_assign S rfl rfl fun a S => c_end (c_region (s_assign S rfl rfl fun a S => c_end (wp_block ?_)))))))
   refine c_loop (fun q2 a w => ∃ m y41 y42 y43, St 60 m b0 [(8, (.i y41)), (7, (.i y42)), (6, (.i y24)), (19, (.i y24)), (18, (.i ((x1).length : Int))), (5, (.s (ad g1) (Int.toNat (wr .i64 ((wr .i64 (((x1).length : Int) + ((x2).length : Int))) + 1))) (Int.toNat (wr .i64 ((wr .i64 (((x1).length : Int) + ((x2).length : Int))) + 1))))), (0, (.q yi ch_0_0 ch_0_1 x1)), (1, (.q yi ch_1_0 ch_1_1 x2))] [Res.row yi 3 (ad g1) (Int.toNat (wr .i64 ((wr .i64 (((x1).length : Int) + ((x2).length : Int))) + 1))) (Int.toNat (wr .i64 ((wr .i64 (((x1).length : Int) + ((x2).length : Int))) + 1))) y43] a w ∧ smithyref02_Times.l2 x1 x2 y24 (smithyref02_Times.l1 k x1 x2 q1) q2 y41 y42 y43 = some r) ?_ ?_ (k := k) ⟨_, 0, 0, y25, (S.sb rfl (.c0 .n)), h1⟩
   ·rintro a w ⟨m, y41, y42, y43, S, h0⟩
    exact (nomatch (show (none : Option ((List Int))) = some r from h0))
   ·clear S h1
    rintro q2 a w ⟨m, y41, y42, y43, S, h0⟩
    replace h0 : smithyref02_Times.b2 x1 x2 y24 (smithyref02_Times.l1 k x1 x2 q1) (smithyref02_Times.l2 x1 x2 y24 (smithyref02_Times.l1 k x1 x2 q1) q2) y41 y42 y43 = some r := h0
    delta smithyref02_Times.b2 at h0
    refine wp_seq (wp_seq_k fun K3 hK3 => ?_)
    have j3 : ∀ m y44 a w, St 60 m b0 [(29, (.b y44)), (8, (.i y41)), (7, (.i y42)), (6, (.i y24)), (19, (.i y24)), (18, (.i ((x1).length : Int))), (5, (.s (ad g1) (Int.toNat (wr .i64 ((wr .i64 (((x1).length : Int) + ((x2).length : Int))) + 1))) (Int.toNat (wr .i64 ((wr .i64 (((x1).length : Int) + ((x2).length : Int))) + 1))))), (0, (.q yi ch_0_0 ch_0_1 x1)), (1, (.q yi ch_1_0 ch_1_1 x2))] [Res.row yi 3 (ad g1) (Int.toNat (wr .i64 ((wr .i64 (((x1).length : Int) + ((x2).length : Int))) + 1))) (Int.toNat (wr .i64 ((wr .i64 (((x1).length : Int) + ((x2).length : Int))) + 1))) y43] a w → smithyref02_Times.j3 x1 x2 y24 (smithyref02_Times.l1 k x1 x2 q1) y41 y42 y43 (smithyref02_Times.l2 x1 x2 y24 (smithyref02_Times.l1 k x1 x2 q1) q2) y44 = some r → K3 a w := by
     intro m y44 a w S h0
     delta smithyref02_Times.j3 at h0
     refine hK3 a w ?_
     rcases ite_of h0 with ⟨c3, h1⟩ | ⟨c3, h1⟩
     ·refine c_condT S rfl c3 (wp_skip (x_thenN (wp_seq (wp_block ?_))))
      refine wp_seq (c_heldS S (.take 0 (.take 1 (.take 2 (.take 3 (.take 4 (.take 5 (.take 6 (.take 7 (.take 8 (.take 9 (.take 10 (.take 11 (.take 15 (.alts (.run 12 true (.take 13 (.take 14 (.take 16 (.take 17 .done)))) .nil))))))))))))))) 18 [Res.row yi 3 (ad g1) (Int.toNat (wr .i64 ((wr .i64 (((x1).length : Int) + ((x2).length : Int))) + 1))) (Int.toNat (wr .i64 ((wr .i64 (((x1).length : Int) + ((x2).length : Int))) + 1))) y43] (.c0 .n) ⟨Res.stay_row flat_int, trivial⟩ [(8, (.i y41)), (7, (.i y42)), (6, (.i y24)), (5, (.s (ad g1) (Int.toNat (wr .i64 ((wr .i64 (((x1).length : Int) + ((x2).length : Int))) + 1))) (Int.toNat (wr .i64 ((wr .i64 (((x1).length : Int) + ((x2).length : Int))) + 1))))), (0, (.q yi ch_0_0 ch_0_1 x1)), (1, (.q yi ch_1_0 ch_1_1 x2))] (subR rfl) (by kernel_rfl) (by kernel_rfl) ?_); clear S; intro w S CL hw le
      refine h_move S CL hw le (subR rfl) rfl rfl rfl trivial fun a S CL => h_move S CL hw le (subR rfl) rfl rfl rfl trivial fun a S CL => h_move S CL hw le (subR rfl) rfl rfl rfl trivial fun a S CL => h_bin S CL hw le (subR rfl) rfl rfl rfl rfl rfl trivial fun a S CL => ?_
      obtain ⟨c4, h2⟩ := chk_of h1; clear h1
      refine h_iaddrO S CL hw le (subR rfl) (ty' := yi) rfl .h rfl underlying89 T3 c4.1 c4.2 rfl rfl trivial fun g6 a hA1 S CL => h_ldR1 S CL hw le (subR rfl) (ty' := yi) (i := (wr .i64 (y24 + y41))) (off := 0) (v := (.int .i64 (rd y43 (wr .i64 (y24 + y41))))) rfl hA1 .h T3 c4.1 c4.2 rfl (fun _ => rfl) rfl rfl trivial fun a S CL => h_move S CL hw le (subR rfl) rfl rfl rfl trivial fun a S CL => h_move S CL hw le (subR rfl) rfl rfl rfl trivial fun a S CL => ?_
      obtain ⟨c5, h3⟩ := chk_of h2; clear h2
      refine h_iaddrS S CL hw le (subR rfl) rfl rfl rfl underlying89 T3 c5.1 c5.2 rfl rfl trivial fun p1 a S CL => h_ld1 S CL hw le (subR rfl) (v := (.int .i64 (rd x1 y24))) rfl T3 (fun _ => rfl) rfl rfl trivial fun a S CL => h_move S CL hw le (subR rfl) rfl rfl rfl trivial fun a S CL => h_move S CL hw le (subR rfl) rfl rfl rfl trivial fun a S CL => h_move S CL hw le (subR rfl) rfl rfl rfl trivial fun a S CL => h_run' S rfl trivial (bindX h3 fun t1 et1 h4 => s_callP S _ N79 rfl rfl (smithyref02_at.ok x2 y41 ch_1_0 ch_1_1 t1 et1 _ _) fun ch1 m le1 a w S => ?_)
      replace le := le.trans le1
      replace hw := CL.again hw S (.c0 .n) le
      refine h_back ⟨fun _ => hw, ?_⟩
      replace CL := CL.add (t := 44) (d := (.i t1)) S rfl rfl
      refine h_bin S CL hw le (subR rfl) rfl rfl rfl rfl rfl trivial fun a S CL => h_bin S CL hw le (subR rfl) rfl rfl rfl rfl rfl trivial fun a S CL => h_bin S CL hw le (subR rfl) rfl rfl rfl rfl rfl trivial fun a S CL => h_assign S CL hw le (subR rfl) rfl rfl rfl trivial fun a S CL => ?_
      refine h_done ?_; clear CL hw le
      refine x_thenN (c_region (s_move S rfl rfl fun a S => s_move S rfl rfl fun a S => s_move S rfl rfl fun a S => s_bin S rfl rfl rfl rfl fun a S => s_move S rfl rfl fun a S => s_rem S rfl rfl (by decide) rfl fun a S => s_iaddrO S (ty' := yi) rfl .h rfl underlying89 T3 c4.1 c4.2 rfl fun g7 a hA2 S => s_stR S (ty' := yi) (i := (wr .i64 (y24 + y41))) (off := 0) (u := Int.tmod (wr .i64 ((wr .i64 ((rd y43 (wr .i64 (y24 + y41))) + (wr .i64 ((rd x1 y24) * t1)))) + y42)) 256) (fun (c : Unit) => ()) rfl rfl rfl hA2 .h T3 c4.1 c4.2 rfl (by decide) rfl (fun _ => rfl) fun w S => c_end (c_region' (s_move S rfl rfl fun a S => s_quo S rfl rfl (by decide) rfl fun a S => s_assign S rfl rfl fun a S => c_end' (x_blockN (x_thenN (c_region' (s_move S rfl rfl fun a S => s_bin S rfl rfl rfl rfl fun a S => s_assign S rfl rfl fun a S => c_end' (x_thenN ?_)))))))))
      exact ⟨_, (wr .i64 (y41 + 1)), (wr .i64 (Int.tdiv (wr .i64 ((wr .i64 ((rd y43 (wr .i64 (y24 + y41))) + (wr .i64 ((rd x1 y24) * t1)))) + y42)) 256)), (y43.set (Int.toNat (wr .i64 (y24 + y41))) (Int.tmod (wr .i64 ((wr .i64 ((rd y43 (wr .i64 (y24 + y41))) + (wr .i64 ((rd x1 y24) * t1)))) + y42)) 256)), (S.sb rfl (.c0 .n)), h4⟩
     ·refine c_condF S rfl c3 (wp_exit (x_thenX (x_thenX (x_blockX (x_blockN (x_thenN ?_))))))
      exact j2 _ y43 a w (S.sb rfl (.c0 .n)) h1
    refine c_region' (s_move S rfl rfl fun a S => s_move S rfl rfl fun a S => s_lenS S rfl underlying89 rfl fun a S => s_bin S rfl rfl rfl rfl fun a S => s_move S rfl rfl fun a S => ?_)
    rcases ite_of h0 with ⟨c6, h1⟩ | ⟨c6, h1⟩
    ·refine s_gF S (b := (decide (y41 < ((x2).length : Int)))) rfl rfl c6 rfl fun a S => s_gF S (b := (decide (y41 < ((x2).length : Int)))) rfl rfl c6 rfl fun a S => s_pick S (b := true) (hc_of rfl c6) rfl rfl fun a S => c_end' (x_thenN ?_)
     exact j3 _ true a w (S.sb rfl (.c0 .n)) h1
    ·refine s_gT S (b := (decide (y41 < ((x2).length : Int)))) rfl rfl c6 (s_move S rfl rfl fun a S => s_gT S (b := (decide (y41 < ((x2).length : Int)))) rfl rfl c6 (s_bin S rfl rfl rfl rfl fun a S => s_pick S (b := false) (hc_of rfl c6) rfl rfl fun a S => c_end' (x_thenN ?_)))
     exact j3 _ (decide (0 < y42)) a w (S.sb rfl (.c0 .n)) h1
  ·refine c_condF S rfl c2 (wp_exit (x_thenX (x_thenX (x_blockX (x_thenN ?_)))))
   exact j1 _ y25 a w (S.sub ⟨rfl, trivial⟩ (.c0 .n)) h1
abbrev smithyref02_Zero.Ty : Type := (List Int) → Option Bool
def smithyref02_Zero.Ctr (s : smithyref02_Zero.Ty) : Prop := ∀ (x1 : List Int) (ch_0_0 : Option Addr) (ch_0_1 : Nat) (r : Bool), Ct (C := Unit) Tryd.prog 80 (s x1 = some r) [] [(.q yi ch_0_0 ch_0_1 x1)] (fun _ => (.b r)) fun _ => []
def smithyref02_Zero.j1 : Option Bool := some true
def smithyref02_Zero.b1 (x1 : List Int) (rec1 : Int → Option Bool) (y1 : Int) : Option Bool := if (decide (y1 < ((x1).length : Int))) = true then (if (0 : Int) ≤ y1 ∧ y1 < ((x1).length : Int) then (if ((rd x1 y1) != 0) = true then (some false) else (rec1 (wr .i64 (y1 + 1)))) else none) else smithyref02_Zero.j1
def smithyref02_Zero.l1 (x1 : List Int) : Nat → Int → Option Bool
  | 0, _ => none
  | q + 1, y1 => smithyref02_Zero.b1 x1 (smithyref02_Zero.l1 x1 q) y1
def smithyref02_Zero.f (k : Nat) (x1 : List Int) : Option Bool := smithyref02_Zero.l1 x1 k 0
theorem smithyref02_Zero.ok (k : Nat) : smithyref02_Zero.Ctr (smithyref02_Zero.f k) := by
 intro x1 ch_0_0 ch_0_1 r h0 mi w0 ok hm
 delta smithyref02_Zero.f at h0
 refine c_enterZ (n := 15) ok hm func80 rfl rfl rfl fun b0 hb a S => c_region (s_assign S rfl rfl fun a S => c_end (wp_seq_k fun K1 hK1 => ?_))
 have j1 : ∀ m a w, St 15 m b0 [] [] a w → smithyref02_Zero.j1 = some r → K1 a w := by
  intro m a w S h0
  delta smithyref02_Zero.j1 at h0
  refine hK1 a w (c_region (s_assign S rfl rfl fun a S => c_end (wp_ret ?_)))
  obtain rfl := Option.some.inj h0
  exact b_ret1 (d := (.b true)) S rfl rfl (S.rt hb)
 refine c_region (s_move S rfl rfl fun a S => s_lenS S rfl underlying89 rfl fun a S => s_move S rfl rfl fun a S => c_end (wp_block ?_))
 refine c_loop (fun q1 a w => ∃ m y1, St 15 m b0 [(6, (.i y1)), (5, (.i ((x1).length : Int))), (0, (.q yi ch_0_0 ch_0_1 x1))] [] a w ∧ smithyref02_Zero.l1 x1 q1 y1 = some r) ?_ ?_ (k := k) ⟨_, 0, (S.sb rfl .nil), h0⟩
 ·rintro a w ⟨m, y1, S, h0⟩
  exact (nomatch (show (none : Option Bool) = some r from h0))
 ·clear S h0
  rintro q1 a w ⟨m, y1, S, h0⟩
  replace h0 : smithyref02_Zero.b1 x1 (smithyref02_Zero.l1 x1 q1) y1 = some r := h0
  delta smithyref02_Zero.b1 at h0
  refine c_region (s_bin S rfl rfl rfl rfl fun a S => c_end (wp_seq ?_))
  rcases ite_of h0 with ⟨c1, h1⟩ | ⟨c1, h1⟩
  ·refine c_condT S rfl c1 (wp_skip (x_thenN (wp_seq (wp_block (c_region (s_move S rfl rfl fun a S => s_assign S rfl rfl fun a S => c_end (c_region (s_move S rfl rfl fun a S => s_move S rfl rfl fun a S => ?_))))))))
   obtain ⟨c2, h2⟩ := chk_of h1; clear h1
   refine s_iaddrS S rfl rfl rfl underlying89 T3 c2.1 c2.2 rfl fun p1 a S => s_ld1 S (v := (.int .i64 (rd x1 y1))) rfl T3 (fun _ => rfl) rfl fun a S => s_bin S rfl rfl rfl rfl fun a S => c_end ?_
   rcases ite_of h2 with ⟨c3, h3⟩ | ⟨c3, h3⟩
   ·refine c_condT S rfl c3 (c_region (s_assign S rfl rfl fun a S => c_end (wp_ret (x_blockR (x_thenR (x_thenR (x_blockR (x_thenR ?_))))))))
    obtain rfl := Option.some.inj h3
    exact b_ret1 (d := (.b false)) S rfl rfl (S.rt hb)
   ·refine c_condF S rfl c3 (wp_skip (x_blockN (x_thenN (c_region' (s_bin S rfl rfl rfl rfl fun a S => s_move S rfl rfl fun a S => c_end' (x_thenN ?_))))))
    exact ⟨_, (wr .i64 (y1 + 1)), (S.sb rfl .nil), h3⟩
  ·refine c_condF S rfl c1 (wp_exit (x_thenX (x_thenX (x_blockX (x_thenN ?_)))))
   exact j1 _ a w (S.sub trivial .nil) h1
abbrev smithyref02_Less.Ty : Type := (List Int) → (List Int) → Option Bool
def smithyref02_Less.Ctr (s : smithyref02_Less.Ty) : Prop := ∀ (x1 : List Int) (x2 : List Int) (ch_0_0 : Option Addr) (ch_0_1 : Nat) (ch_1_0 : Option Addr) (ch_1_1 : Nat) (r : Bool), Ct (C := Unit) Tryd.prog 60 (s x1 x2 = some r) [] [(.q yi ch_0_0 ch_0_1 x1), (.q yi ch_1_0 ch_1_1 x2)] (fun _ => (.b r)) fun _ => []
def smithyref02_Less.j1 : Option Bool := some false
def smithyref02_Less.b1 (x1 : List Int) (x2 : List Int) (rec1 : Int → Option Bool) (y1 : Int) : Option Bool := if (decide (0 ≤ y1)) = true then ((smithyref02_at.f x1 y1).bind fun t1 => ((smithyref02_at.f x2 y1).bind fun t2 => (if (t1 != t2) = true then ((smithyref02_at.f x1 y1).bind fun t3 => ((smithyref02_at.f x2 y1).bind fun t4 => (some (decide (t3 < t4))))) else (rec1 (wr .i64 (y1 - 1)))))) else smithyref02_Less.j1
def smithyref02_Less.l1 (x1 : List Int) (x2 : List Int) : Nat → Int → Option Bool
  | 0, _ => none
  | q + 1, y1 => smithyref02_Less.b1 x1 x2 (smithyref02_Less.l1 x1 x2 q) y1
def smithyref02_Less.f (k : Nat) (x1 : List Int) (x2 : List Int) : Option Bool := smithyref02_Less.l1 x1 x2 k (wr .i64 ((imax ((x1).length : Int) ((x2).length : Int)) - 1))
theorem smithyref02_Less.ok (k : Nat) : smithyref02_Less.Ctr (smithyref02_Less.f k) := by
 intro x1 x2 ch_0_0 ch_0_1 ch_1_0 ch_1_1 r h0 mi w0 ok hm
 delta smithyref02_Less.f at h0
 refine c_enterZ (n := 30) ok hm func60 rfl rfl rfl fun b0 hb a S => c_region (s_assign S rfl rfl fun a S => c_end (wp_seq_k fun K1 hK1 => ?_))
 have j1 : ∀ m a w, St 30 m b0 [] [] a w → smithyref02_Less.j1 = some r → K1 a w := by
  intro m a w S h0
  delta smithyref02_Less.j1 at h0
  refine hK1 a w (c_region (s_assign S rfl rfl fun a S => c_end (wp_ret ?_)))
  obtain rfl := Option.some.inj h0
  exact b_ret1 (d := (.b false)) S rfl rfl (S.rt hb)
 refine c_region (s_move S rfl rfl fun a S => s_lenS S rfl underlying89 rfl fun a S => s_move S rfl rfl fun a S => s_lenS S rfl underlying89 rfl fun a S => s_max2 S rfl rfl rfl fun a S => s_bin S rfl rfl rfl rfl fun a S => s_assign S rfl rfl fun a S => c_end (wp_block ?_))
 refine c_loop (fun q1 a w => ∃ m y1, St 30 m b0 [(5, (.i y1)), (0, (.q yi ch_0_0 ch_0_1 x1)), (1, (.q yi ch_1_0 ch_1_1 x2))] [] a w ∧ smithyref02_Less.l1 x1 x2 q1 y1 = some r) ?_ ?_ (k := k) ⟨_, (wr .i64 ((imax ((x1).length : Int) ((x2).length : Int)) - 1)), (S.sb rfl .nil), h0⟩
 ·rintro a w ⟨m, y1, S, h0⟩
  exact (nomatch (show (none : Option Bool) = some r from h0))
 ·clear S h0
  rintro q1 a w ⟨m, y1, S, h0⟩
  replace h0 : smithyref02_Less.b1 x1 x2 (smithyref02_Less.l1 x1 x2 q1) y1 = some r := h0
  delta smithyref02_Less.b1 at h0
  refine wp_seq (c_region (s_move S rfl rfl fun a S => s_bin S rfl rfl rfl rfl fun a S => c_end ?_))
  rcases ite_of h0 with ⟨c1, h1⟩ | ⟨c1, h1⟩
  ·refine c_condT S rfl c1 (wp_skip (x_thenN (wp_seq (wp_block (c_region (s_move S rfl rfl fun a S => s_move S rfl rfl fun a S => bindX h1 fun t1 et1 h2 => s_callP S _ N79 rfl rfl (smithyref02_at.ok x1 y1 ch_0_0 ch_0_1 t1 et1 _ _) fun ch1 m le1 a w S => s_move S rfl rfl fun a S => s_move S rfl rfl fun a S => bindX h2 fun t2 et2 h3 => s_callP S _ N79 rfl rfl (smithyref02_at.ok x2 y1 ch_1_0 ch_1_1 t2 et2 _ _) fun ch2 m le1 a w S => s_bin S rfl rfl rfl rfl fun a S => c_end ?_))))))
   rcases ite_of h3 with ⟨c2, h4⟩ | ⟨c2, h4⟩
   ·refine c_condT S rfl c2 (c_region (s_move S rfl rfl fun a S => s_move S rfl rfl fun a S => bindX h4 fun t3 et3 h5 => s_callP S _ N79 rfl rfl (smithyref02_at.ok x1 y1 ch_0_0 ch_0_1 t3 et3 _ _) fun ch3 m le1 a w S => s_move S rfl rfl fun a S => s_move S rfl rfl fun a S => bindX h5 fun t4 et4 h6 => s_callP S _ N79 rfl rfl (smithyref02_at.ok x2 y1 ch_1_0 ch_1_1 t4 et4 _ _) fun ch4 m le1 a w S => s_bin S rfl rfl rfl rfl fun a S => s_assign S rfl rfl fun a S => c_end (wp_ret (x_blockR (x_thenR (x_thenR (x_blockR (x_thenR ?_))))))))
    obtain rfl := Option.some.inj h6
    exact b_ret1 (d := (.b (decide (t3 < t4)))) S rfl rfl (S.rt hb)
   ·refine c_condF S rfl c2 (wp_skip (x_blockN (x_thenN (c_region' (s_move S rfl rfl fun a S => s_bin S rfl rfl rfl rfl fun a S => s_assign S rfl rfl fun a S => c_end' (x_thenN ?_))))))
    exact ⟨_, (wr .i64 (y1 - 1)), (S.sb rfl .nil), h4⟩
  ·refine c_condF S rfl c1 (wp_exit (x_thenX (x_thenX (x_blockX (x_thenN ?_)))))
   exact j1 _ a w (S.sub trivial .nil) h1
abbrev smithyref02_Minus.Ty : Type := (List Int) → (List Int) → Option ((List Int))
def smithyref02_Minus.Ctr (s : smithyref02_Minus.Ty) : Prop := ∀ (x1 : List Int) (x2 : List Int) (ch_0_0 : Option Addr) (ch_0_1 : Nat) (ch_1_0 : Option Addr) (ch_1_1 : Nat) (r : (List Int)), Ct (C := ((Option Addr) × Nat × Nat)) Tryd.prog 61 (s x1 x2 = some r) [] [(.q yi ch_0_0 ch_0_1 x1), (.q yi ch_1_0 ch_1_1 x2)] (fun ch => (.s ch.1 ch.2.1 ch.2.2)) fun ch => [Res.row yi 3 ch.1 ch.2.1 ch.2.2 r]
def smithyref02_Minus.j1 (y1 : List Int) : Option ((List Int)) := some y1
def smithyref02_Minus.j2 (y9 : Int) (y11 : List Int) (rec1 : Int → Int → (List Int) → Option ((List Int))) (y12 : Int) (y13 : Int) : Option ((List Int)) := if ((y11).length + ([y13]).length) * 8 ≤ 140737488355328 then (rec1 (wr .i64 (y9 + 1)) y12 (y11 ++ [y13])) else none
def smithyref02_Minus.b1 (x1 : List Int) (x2 : List Int) (rec1 : Int → Int → (List Int) → Option ((List Int))) (y9 : Int) (y10 : Int) (y11 : List Int) : Option ((List Int)) := if (decide (y9 < ((x1).length : Int))) = true then (if (0 : Int) ≤ y9 ∧ y9 < ((x1).length : Int) then ((smithyref02_at.f x2 y9).bind fun t1 => (if (decide ((wr .i64 ((wr .i64 ((rd x1 y9) - t1)) - y10)) < 0)) = true then (smithyref02_Minus.j2 y9 y11 rec1 1 (wr .i64 ((wr .i64 ((wr .i64 ((rd x1 y9) - t1)) - y10)) + 256))) else (smithyref02_Minus.j2 y9 y11 rec1 0 (wr .i64 ((wr .i64 ((rd x1 y9) - t1)) - y10))))) else none) else (smithyref02_Minus.j1 y11)
def smithyref02_Minus.l1 (x1 : List Int) (x2 : List Int) : Nat → Int → Int → (List Int) → Option ((List Int))
  | 0, _, _, _ => none
  | q + 1, y9, y10, y11 => smithyref02_Minus.b1 x1 x2 (smithyref02_Minus.l1 x1 x2 q) y9 y10 y11
def smithyref02_Minus.f (k : Nat) (x1 : List Int) (x2 : List Int) : Option ((List Int)) := smithyref02_Minus.l1 x1 x2 k 0 0 ([] : List Int)
theorem smithyref02_Minus.ok (k : Nat) : smithyref02_Minus.Ctr (smithyref02_Minus.f k) := by
 intro x1 x2 ch_0_0 ch_0_1 ch_1_0 ch_1_1 r h0 mi w0 ok hm
 delta smithyref02_Minus.f at h0
 refine c_enterZ (n := 35) ok hm func61 rfl rfl rfl fun b0 hb a S => c_region (s_assign S rfl rfl fun a S => c_end (c_region (s_bldSl S (ty' := yi) (ds := []) (z := 0) (c0 := ()) (ys := ([] : List Int)) (cs := []) rfl underlying89 J3 Z3 rfl ⟨rfl, trivial⟩ rfl rfl rfl rfl rfl rfl fun g1 a w S => s_assign S rfl rfl fun a S => c_end (c_region (s_assign S rfl rfl fun a S => c_end (wp_seq_k fun K1 hK1 => ?_))))))
 have j1 : ∀ m A1 nn1 cp1 y1 a w, St 35 m b0 [(5, (.s A1 nn1 cp1))] [Res.row yi 3 A1 nn1 cp1 y1] a w → smithyref02_Minus.j1 y1 = some r → K1 a w := by
  intro m A1 nn1 cp1 y1 a w S h0
  delta smithyref02_Minus.j1 at h0
  refine hK1 a w (c_region (s_move S rfl rfl fun a S => s_assign S rfl rfl fun a S => c_end (wp_ret ?_)))
  obtain rfl := Option.some.inj h0
  exact b_ret1 (d := (.s A1 nn1 cp1)) S rfl rfl fun ok => S.retX (Hx := []) hb _ _ ((A1, nn1, cp1) : (Option Addr) × Nat × Nat) (.c0 .n) ok
 refine c_region (s_move S rfl rfl fun a S => s_lenS S rfl underlying89 rfl fun a S => s_move S rfl rfl fun a S => c_end (wp_block ?_))
 refine c_loop (fun q1 a w => ∃ m y9 y10 A2 nn3 cp5 y11, St 35 m b0 [(12, (.i y9)), (11, (.i ((x1).length : Int))), (6, (.i y10)), (5, (.s A2 nn3 cp5)), (0, (.q yi ch_0_0 ch_0_1 x1)), (1, (.q yi ch_1_0 ch_1_1 x2))] [Res.row yi 3 A2 nn3 cp5 y11] a w ∧ smithyref02_Minus.l1 x1 x2 q1 y9 y10 y11 = some r) ?_ ?_ (k := k) ⟨_, 0, 0, (ad g1), 0, 0, ([] : List Int), (S.sb rfl (.c0 .n)), h0⟩
 ·rintro a w ⟨m, y9, y10, A2, nn3, cp5, y11, S, h0⟩
  exact (nomatch (show (none : Option ((List Int))) = some r from h0))
 ·clear S h0
  rintro q1 a w ⟨m, y9, y10, A2, nn3, cp5, y11, S, h0⟩
  replace h0 : smithyref02_Minus.b1 x1 x2 (smithyref02_Minus.l1 x1 x2 q1) y9 y10 y11 = some r := h0
  delta smithyref02_Minus.b1 at h0
  refine c_region (s_bin S rfl rfl rfl rfl fun a S => c_end (wp_seq ?_))
  rcases ite_of h0 with ⟨c1, h1⟩ | ⟨c1, h1⟩
  ·refine c_condT S rfl c1 (wp_skip (x_thenN (wp_seq (wp_block (c_region (s_move S rfl rfl fun a S => s_assign S rfl rfl fun a S => c_end ?_))))))
   refine wp_seq (c_heldS S (.take 0 (.take 1 (.take 2 (.take 3 (.take 4 (.take 5 (.take 8 (.alts (.run 6 true (.take 7 (.take 9 (.take 10 .done))) .nil))))))))) 11 [Res.row yi 3 A2 nn3 cp5 y11] (.c0 .n) ⟨Res.stay_row flat_int, trivial⟩ [(7, (.i y9)), (6, (.i y10)), (0, (.q yi ch_0_0 ch_0_1 x1)), (1, (.q yi ch_1_0 ch_1_1 x2))] (subR rfl) (by kernel_rfl) (by kernel_rfl) ?_); clear S; intro w S CL hw le
   refine h_move S CL hw le (subR rfl) rfl rfl rfl trivial fun a S CL => h_move S CL hw le (subR rfl) rfl rfl rfl trivial fun a S CL => ?_
   obtain ⟨c2, h2⟩ := chk_of h1; clear h1
   refine h_iaddrS S CL hw le (subR rfl) rfl rfl rfl underlying89 T3 c2.1 c2.2 rfl rfl trivial fun p1 a S CL => h_ld1 S CL hw le (subR rfl) (v := (.int .i64 (rd x1 y9))) rfl T3 (fun _ => rfl) rfl rfl trivial fun a S CL => h_move S CL hw le (subR rfl) rfl rfl rfl trivial fun a S CL => h_move S CL hw le (subR rfl) rfl rfl rfl trivial fun a S CL => h_move S CL hw le (subR rfl) rfl rfl rfl trivial fun a S CL => h_run' S rfl trivial (bindX h2 fun t1 et1 h3 => s_callP S _ N79 rfl rfl (smithyref02_at.ok x2 y9 ch_1_0 ch_1_1 t1 et1 _ _) fun ch1 m le1 a w S => ?_)
   replace le := le.trans le1
   replace hw := CL.again hw S (.c0 .n) le
   refine h_back ⟨fun _ => hw, ?_⟩
   replace CL := CL.add (t := 21) (d := (.i t1)) S rfl rfl
   refine h_bin S CL hw le (subR rfl) rfl rfl rfl rfl rfl trivial fun a S CL => h_bin S CL hw le (subR rfl) rfl rfl rfl rfl rfl trivial fun a S CL => h_assign S CL hw le (subR rfl) rfl rfl rfl trivial fun a S CL => ?_
   refine h_done ?_; clear CL hw le
   refine x_thenN (c_region (s_assign S rfl rfl fun a S => c_end (wp_seq_k fun K2 hK2 => ?_)))
   have j2 : ∀ m y12 y13 a w, St 35 m b0 [(6, (.i y12)), (8, (.i y13)), (12, (.i y9)), (11, (.i ((x1).length : Int))), (5, (.s A2 nn3 cp5)), (0, (.q yi ch_0_0 ch_0_1 x1)), (1, (.q yi ch_1_0 ch_1_1 x2))] [Res.row yi 3 A2 nn3 cp5 y11] a w → smithyref02_Minus.j2 y9 y11 (smithyref02_Minus.l1 x1 x2 q1) y12 y13 = some r → K2 a w := by
    intro m y12 y13 a w S h0
    delta smithyref02_Minus.j2 at h0
    refine hK2 a w (c_region' (s_move S rfl rfl fun a S => s_move S rfl rfl fun a S => s_bldSl S (ty' := yi) (ds := [(0, (.i y13))]) (z := 0) (c0 := ()) (ys := [y13]) (cs := [()]) rfl underlying89 J3 Z3 rfl ⟨rfl, trivial⟩ rfl rfl rfl rfl rfl rfl fun g4 a w S => ?_))
    obtain ⟨c3, h1⟩ := chk_of h0; clear h0
    refine s_app S (k2 := 1) (ys := [y13]) rfl (fun _ _ => .h1) rfl rfl (S.holds _ (Pull.mem .h).1).1 (Res.row.src (S.holds _ (Pull.mem .h).1)) underlying89 J3 c3 rfl fun A3 cp6 a w S => s_assign S rfl rfl fun a S => c_end' (x_blockN (x_thenN (c_region' (s_bin S rfl rfl rfl rfl fun a S => s_move S rfl rfl fun a S => c_end' (x_thenN ?_)))))
    exact ⟨_, (wr .i64 (y9 + 1)), y12, A3, (nn3 + 1), cp6, (y11 ++ [y13]), (S.sb rfl (.c1 .n)), h1⟩
   refine c_region (s_move S rfl rfl fun a S => s_bin S rfl rfl rfl rfl fun a S => c_end ?_)
   rcases ite_of h3 with ⟨c4, h4⟩ | ⟨c4, h4⟩
   ·refine c_condT S rfl c4 (c_region (s_move S rfl rfl fun a S => s_bin S rfl rfl rfl rfl fun a S => s_assign S rfl rfl fun a S => c_end (c_region' (s_assign S rfl rfl fun a S => c_end' (x_thenN ?_)))))
    exact j2 _ 1 (wr .i64 ((wr .i64 ((wr .i64 ((rd x1 y9) - t1)) - y10)) + 256)) a w (S.sb rfl (.c0 .n)) h4
   ·refine c_condF S rfl c4 (wp_skip (x_thenN ?_))
    exact j2 _ 0 (wr .i64 ((wr .i64 ((rd x1 y9) - t1)) - y10)) a w (S.sb rfl (.c0 .n)) h4
  ·refine c_condF S rfl c1 (wp_exit (x_thenX (x_thenX (x_blockX (x_thenN ?_)))))
   exact j1 _ A2 nn3 cp5 y11 a w (S.sub ⟨rfl, trivial⟩ (.c0 .n)) h1
abbrev smithyref02_Div.Ty : Type := (List Int) → (List Int) → Option ((List Int) × (List Int))
def smithyref02_Div.Ctr (s : smithyref02_Div.Ty) : Prop := ∀ (x1 : List Int) (x2 : List Int) (ch_0_0 : Option Addr) (ch_0_1 : Nat) (ch_1_0 : Option Addr) (ch_1_1 : Nat) (r : (List Int) × (List Int)), Ct (C := ((Option Addr) × Nat × Nat × (Option Addr) × Nat)) Tryd.prog 78 (s x1 x2 = some r) [] [(.q yi ch_0_0 ch_0_1 x1), (.q yi ch_1_0 ch_1_1 x2)] (fun ch => (.tup [(false, [.s ch.1 ch.2.1 ch.2.2.1]), (false, [.q yi ch.2.2.2.1 ch.2.2.2.2 r.2])])) fun ch => [Res.row yi 3 ch.1 ch.2.1 ch.2.2.1 r.1]
def smithyref02_Div.j1 (y1 : List Int) (y2 : List Int) : Option ((List Int) × (List Int)) := some (y2, y1)
def smithyref02_Div.j2 (y33 : Int) (rec1 : (List Int) → Int → (List Int) → Option ((List Int) × (List Int))) (y46 : List Int) (y47 : List Int) : Option ((List Int) × (List Int)) := rec1 y46 (wr .i64 (y33 - 1)) y47
def smithyref02_Div.j4 (y33 : Int) (rec1 : (List Int) → Int → (List Int) → Option ((List Int) × (List Int))) (y53 : List Int) (y57 : List Int) (rec2 : (List Int) → Option ((List Int) × (List Int))) (y58 : Bool) : Option ((List Int) × (List Int)) := if y58 = true then (if (0 : Int) ≤ 0 ∧ (0 : Int) ≤ (wr .i64 (((y57).length : Int) - 1)) ∧ (wr .i64 (((y57).length : Int) - 1)) ≤ ((y57).length : Int) then (rec2 (y57.take (Int.toNat (wr .i64 (((y57).length : Int) - 1))))) else none) else (smithyref02_Div.j2 y33 rec1 y57 y53)
def smithyref02_Div.b2 (y33 : Int) (rec1 : (List Int) → Int → (List Int) → Option ((List Int) × (List Int))) (y53 : List Int) (rec2 : (List Int) → Option ((List Int) × (List Int))) (y57 : List Int) : Option ((List Int) × (List Int)) := if (decide (0 < ((y57).length : Int))) = true then (if (0 : Int) ≤ (wr .i64 (((y57).length : Int) - 1)) ∧ (wr .i64 (((y57).length : Int) - 1)) < ((y57).length : Int) then (smithyref02_Div.j4 y33 rec1 y53 y57 rec2 ((rd y57 (wr .i64 (((y57).length : Int) - 1))) == 0)) else none) else (smithyref02_Div.j4 y33 rec1 y53 y57 rec2 false)
def smithyref02_Div.l2 (y33 : Int) (rec1 : (List Int) → Int → (List Int) → Option ((List Int) × (List Int))) (y53 : List Int) : Nat → (List Int) → Option ((List Int) × (List Int))
  | 0, _ => none
  | q + 1, y57 => smithyref02_Div.b2 y33 rec1 y53 (smithyref02_Div.l2 y33 rec1 y53 q) y57
def smithyref02_Div.j3 (k : Nat) (y33 : Int) (rec1 : (List Int) → Int → (List Int) → Option ((List Int) × (List Int))) (y52 : List Int) (y53 : List Int) : Option ((List Int) × (List Int)) := smithyref02_Div.l2 y33 rec1 y53 k y52
def smithyref02_Div.b3 (k : Nat) (x2 : List Int) (y33 : Int) (rec1 : (List Int) → Int → (List Int) → Option ((List Int) × (List Int))) (rec3 : (List Int) → (List Int) → Option ((List Int) × (List Int))) (y61 : List Int) (y62 : List Int) : Option ((List Int) × (List Int)) := (smithyref02_Less.f k y61 x2).bind fun t11 => (if (!t11) = true then ((smithyref02_Minus.f k y61 x2).bind fun t12 => (if (0 : Int) ≤ y33 ∧ y33 < ((y62).length : Int) then (rec3 t12 (y62.set (Int.toNat y33) (wr .i64 ((rd y62 y33) + 1)))) else none)) else (smithyref02_Div.j3 k y33 rec1 y61 y62))
def smithyref02_Div.l3 (k : Nat) (x2 : List Int) (y33 : Int) (rec1 : (List Int) → Int → (List Int) → Option ((List Int) × (List Int))) : Nat → (List Int) → (List Int) → Option ((List Int) × (List Int))
  | 0, _, _ => none
  | q + 1, y61, y62 => smithyref02_Div.b3 k x2 y33 rec1 (smithyref02_Div.l3 k x2 y33 rec1 q) y61 y62
def smithyref02_Div.b1 (k : Nat) (x1 : List Int) (x2 : List Int) (rec1 : (List Int) → Int → (List Int) → Option ((List Int) × (List Int))) (y32 : List Int) (y33 : Int) (y34 : List Int) : Option ((List Int) × (List Int)) := if (decide (0 ≤ y33)) = true then (if (0 : Int) ≤ y33 ∧ y33 < ((x1).length : Int) then (if (([rd x1 y33]).length + (y32).length) * 8 ≤ 140737488355328 then (smithyref02_Div.l3 k x2 y33 rec1 k ([rd x1 y33] ++ y32) y34) else none) else none) else (smithyref02_Div.j1 y32 y34)
def smithyref02_Div.l1 (k : Nat) (x1 : List Int) (x2 : List Int) : Nat → (List Int) → Int → (List Int) → Option ((List Int) × (List Int))
  | 0, _, _, _ => none
  | q + 1, y32, y33, y34 => smithyref02_Div.b1 k x1 x2 (smithyref02_Div.l1 k x1 x2 q) y32 y33 y34
def smithyref02_Div.f (k : Nat) (x1 : List Int) (x2 : List Int) : Option ((List Int) × (List Int)) := if (0 : Int) ≤ ((x1).length : Int) ∧ 8 * Int.toNat ((x1).length : Int) ≤ 281474976710656 then ((smithyref02_Zero.f k x2).bind fun t1 => (if t1 = true then (some (List.replicate (Int.toNat ((x1).length : Int)) (0 : Int), ([] : List Int))) else (smithyref02_Div.l1 k x1 x2 k ([] : List Int) (wr .i64 (((x1).length : Int) - 1)) (List.replicate (Int.toNat ((x1).length : Int)) (0 : Int))))) else none
theorem smithyref02_Div.ok (k : Nat) : smithyref02_Div.Ctr (smithyref02_Div.f k) := by
 intro x1 x2 ch_0_0 ch_0_1 ch_1_0 ch_1_1 r h0 mi w0 ok hm
 delta smithyref02_Div.f at h0
 refine c_enterZ (n := 66) ok hm func78 rfl rfl rfl fun b0 hb a S => c_region (s_assign S rfl rfl fun a S => s_assign S rfl rfl fun a S => c_end (c_region (s_move S rfl rfl fun a S => s_lenS S rfl underlying89 rfl fun a S => ?_)))
 obtain ⟨c1, h1⟩ := chk_of h0; clear h0
 refine s_make S (ty' := yi) (z := 0) (c0 := ()) rfl rfl underlying89 J3 Z3 rfl ⟨rfl, trivial⟩ c1.1 c1.2 rfl fun g1 a w S => s_assign S rfl rfl fun a S => c_end (c_region (s_bldSl S (ty' := yi) (ds := []) (z := 0) (c0 := ()) (ys := ([] : List Int)) (cs := []) rfl underlying89 J3 Z3 rfl ⟨rfl, trivial⟩ rfl rfl rfl rfl rfl rfl fun g2 a w S => s_assign S rfl rfl fun a S => c_end (wp_seq (c_region (s_move S rfl rfl fun a S => bindX h1 fun t1 et1 h2 => s_callP S _ N80 rfl rfl (smithyref02_Zero.ok k x2 ch_1_0 ch_1_1 t1 et1 _ _) fun ch1 m le1 a w S => c_end ?_)))))
 rcases ite_of h2 with ⟨c2, h3⟩ | ⟨c2, h3⟩
 ·refine c_condT S rfl c2 (c_region (s_move S rfl rfl fun a S => s_move S rfl rfl fun a S => s_assign S rfl rfl fun a S => s_assign S rfl rfl fun a S => c_end (wp_ret (x_thenR ?_))))
  replace S := S.rowfro .h
  obtain ⟨m, le1, S, hro⟩ := S
  replace S := S.slotro (u := 5) rfl hro
  replace S := S.slotro (u := 17) rfl hro
  replace S := S.slotro (u := 7) rfl hro
  replace S := S.slotro (u := 13) rfl hro
  obtain rfl := Option.some.inj h3
  exact b_ret2 (d1 := (.s (ad g1) (Int.toNat ((x1).length : Int)) (Int.toNat ((x1).length : Int)))) (d2 := (.q yi (ad g2) 0 ([] : List Int))) S rfl rfl rfl fun ok1 ok2 => S.retX (Hx := []) hb _ _ (((ad g1), Int.toNat ((x1).length : Int), Int.toNat ((x1).length : Int), (ad g2), 0) : (Option Addr) × Nat × Nat × (Option Addr) × Nat) (.c0 .n) ⟨⟨ok1, trivial⟩, ⟨ok2, trivial⟩, trivial⟩
 ·refine c_condF S rfl c2 (wp_skip (x_thenN (wp_seq_k fun K1 hK1 => ?_)))
  have j1 : ∀ m A1 cp1 y1 y2 a w, St 66 m b0 [(7, (.q yi A1 cp1 y1)), (6, (.s (ad g1) (Int.toNat ((x1).length : Int)) (Int.toNat ((x1).length : Int))))] [Res.row yi 3 (ad g1) (Int.toNat ((x1).length : Int)) (Int.toNat ((x1).length : Int)) y2] a w → smithyref02_Div.j1 y1 y2 = some r → K1 a w := by
   intro m A1 cp1 y1 y2 a w S h0
   delta smithyref02_Div.j1 at h0
   refine hK1 a w (c_region (s_move S rfl rfl fun a S => s_move S rfl rfl fun a S => s_assign S rfl rfl fun a S => s_assign S rfl rfl fun a S => c_end (wp_ret ?_)))
   obtain rfl := Option.some.inj h0
   exact b_ret2 (d1 := (.s (ad g1) (Int.toNat ((x1).length : Int)) (Int.toNat ((x1).length : Int)))) (d2 := (.q yi A1 cp1 y1)) S rfl rfl rfl fun ok1 ok2 => S.retX (Hx := []) hb _ _ (((ad g1), Int.toNat ((x1).length : Int), Int.toNat ((x1).length : Int), A1, cp1) : (Option Addr) × Nat × Nat × (Option Addr) × Nat) (.c0 .n) ⟨⟨ok1, trivial⟩, ⟨ok2, trivial⟩, trivial⟩
  refine c_region (s_move S rfl rfl fun a S => s_lenS S rfl underlying89 rfl fun a S => s_bin S rfl rfl rfl rfl fun a S => s_assign S rfl rfl fun a S => c_end (wp_block ?_))
  replace S := S.rowfro .h
  obtain ⟨m, le1, S, hro⟩ := S
  replace S := S.slotro (u := 7) rfl hro
  replace S := S.slotro (u := 13) rfl hro
  refine c_loop (fun q1 a w => ∃ m A2 cp23 y32 y33 y34, St 66 m b0 [(7, (.q yi A2 cp23 y32)), (8, (.i y33)), (6, (.s (ad g1) (Int.toNat ((x1).length : Int)) (Int.toNat ((x1).length : Int)))), (0, (.q yi ch_0_0 ch_0_1 x1)), (1, (.q yi ch_1_0 ch_1_1 x2))] [Res.row yi 3 (ad g1) (Int.toNat ((x1).length : Int)) (Int.toNat ((x1).length : Int)) y34] a w ∧ smithyref02_Div.l1 k x1 x2 q1 y32 y33 y34 = some r) ?_ ?_ (k := k) ⟨_, (ad g2), 0, ([] : List Int), (wr .i64 (((x1).length : Int) - 1)), (List.replicate (Int.toNat ((x1).length : Int)) (0 : Int)), (S.sb rfl (.c0 .n)), h3⟩
  ·rintro a w ⟨m, A2, cp23, y32, y33, y34, S, h0⟩
   exact (nomatch (show (none : Option ((List Int) × (List Int))) = some r from h0))
  ·clear S h3
   rintro q1 a w ⟨m, A2, cp23, y32, y33, y34, S, h0⟩
   replace h0 : smithyref02_Div.b1 k x1 x2 (smithyref02_Div.l1 k x1 x2 q1) y32 y33 y34 = some r := h0
   delta smithyref02_Div.b1 at h0
   refine wp_seq (c_region (s_move S rfl rfl fun a S => s_bin S rfl rfl rfl rfl fun a S => c_end ?_))
   rcases ite_of h0 with ⟨c3, h1⟩ | ⟨c3, h1⟩
   ·refine c_condT S rfl c3 (wp_skip (x_thenN (wp_seq_k fun K2 hK2 => ?_)))
    have j2 : ∀ m A3 cp33 y46 y47 a w, St 66 m b0 [(7, (.q yi A3 cp33 y46)), (8, (.i y33)), (6, (.s (ad g1) (Int.toNat ((x1).length : Int)) (Int.toNat ((x1).length : Int)))), (0, (.q yi ch_0_0 ch_0_1 x1)), (1, (.q yi ch_1_0 ch_1_1 x2))] [Res.row yi 3 (ad g1) (Int.toNat ((x1).length : Int)) (Int.toNat ((x1).length : Int)) y47] a w → smithyref02_Div.j2 y33 (smithyref02_Div.l1 k x1 x2 q1) y46 y47 = some r → K2 a w := by
     intro m A3 cp33 y46 y47 a w S h0
     delta smithyref02_Div.j2 at h0
     refine hK2 a w (c_region' (s_move S rfl rfl fun a S => s_bin S rfl rfl rfl rfl fun a S => s_assign S rfl rfl fun a S => c_end' (x_thenN ?_)))
     exact ⟨_, A3, cp33, y46, (wr .i64 (y33 - 1)), y47, (S.sb rfl (.c0 .n)), h0⟩
    refine wp_block (c_region (s_move S rfl rfl fun a S => s_move S rfl rfl fun a S => ?_))
    obtain ⟨c4, h2⟩ := chk_of h1; clear h1
    refine s_iaddrS S rfl rfl rfl underlying89 T3 c4.1 c4.2 rfl fun p1 a S => s_ld1 S (v := (.int .i64 (rd x1 y33))) rfl T3 (fun _ => rfl) rfl fun a S => s_bldSl S (ty' := yi) (ds := [(0, (.i (rd x1 y33)))]) (z := 0) (c0 := ()) (ys := [rd x1 y33]) (cs := [()]) rfl underlying89 J3 Z3 rfl ⟨rfl, trivial⟩ rfl rfl rfl rfl rfl rfl fun g3 a w S => s_assign S rfl rfl fun a S => c_end (c_region (s_move S rfl rfl fun a S => s_move S rfl rfl fun a S => ?_))
    obtain ⟨c5, h3⟩ := chk_of h2; clear h2
    refine s_app S (k2 := ((y32).length)) (ys := y32) rfl (fun _ _ => .h) rfl rfl rfl (RdS.src (S.get 31 (.q yi A2 cp23 y32) rfl).2.2.2.1 (by decide) S.frz) underlying89 J3 c5 rfl fun A4 cp34 a w S => s_assign S rfl rfl fun a S => c_end (c_region (s_move S rfl rfl fun a S => s_assign S rfl rfl fun a S => c_end (wp_seq_k fun K3 hK3 => ?_)))
    have j3 : ∀ m A5 cp38 y52 y53 a w, St 66 m b0 [(7, (.q yi A5 cp38 y52)), (8, (.i y33)), (6, (.s (ad g1) (Int.toNat ((x1).length : Int)) (Int.toNat ((x1).length : Int)))), (0, (.q yi ch_0_0 ch_0_1 x1)), (1, (.q yi ch_1_0 ch_1_1 x2))] [Res.row yi 3 (ad g1) (Int.toNat ((x1).length : Int)) (Int.toNat ((x1).length : Int)) y53] a w → smithyref02_Div.j3 k y33 (smithyref02_Div.l1 k x1 x2 q1) y52 y53 = some r → K3 a w := by
     intro m A5 cp38 y52 y53 a w S h0
     delta smithyref02_Div.j3 at h0
     refine hK3 a w (wp_block ?_)
     refine c_loop (fun q2 a w => ∃ m A6 cp42 y57, St 66 m b0 [(7, (.q yi A6 cp42 y57)), (8, (.i y33)), (6, (.s (ad g1) (Int.toNat ((x1).length : Int)) (Int.toNat ((x1).length : Int)))), (0, (.q yi ch_0_0 ch_0_1 x1)), (1, (.q yi ch_1_0 ch_1_1 x2))] [Res.row yi 3 (ad g1) (Int.toNat ((x1).length : Int)) (Int.toNat ((x1).length : Int)) y53] a w ∧ smithyref02_Div.l2 y33 (smithyref02_Div.l1 k x1 x2 q1) y53 q2 y57 = some r) ?_ ?_ (k := k) ⟨_, A5, cp38, y52, (S.sb rfl (.c0 .n)), h0⟩
     ·rintro a w ⟨m, A6, cp42, y57, S, h0⟩
      exact (nomatch (show (none : Option ((List Int) × (List Int))) = some r from h0))
     ·clear S h0
      rintro q2 a w ⟨m, A6, cp42, y57, S, h0⟩
      replace h0 : smithyref02_Div.b2 y33 (smithyref02_Div.l1 k x1 x2 q1) y53 (smithyref02_Div.l2 y33 (smithyref02_Div.l1 k x1 x2 q1) y53 q2) y57 = some r := h0
      delta smithyref02_Div.b2 at h0
      refine wp_seq (wp_seq_k fun K4 hK4 => ?_)
      have j4 : ∀ m y58 a w, St 66 m b0 [(58, (.b y58)), (7, (.q yi A6 cp42 y57)), (8, (.i y33)), (6, (.s (ad g1) (Int.toNat ((x1).length : Int)) (Int.toNat ((x1).length : Int)))), (0, (.q yi ch_0_0 ch_0_1 x1)), (1, (.q yi ch_1_0 ch_1_1 x2))] [Res.row yi 3 (ad g1) (Int.toNat ((x1).length : Int)) (Int.toNat ((x1).length : Int)) y53] a w → smithyref02_Div.j4 y33 (smithyref02_Div.l1 k x1 x2 q1) y53 y57 (smithyref02_Div.l2 y33 (smithyref02_Div.l1 k x1 x2 q1) y53 q2) y58 = some r → K4 a w := by
       intro m y58 a w S h0
       delta smithyref02_Div.j4 at h0
       refine hK4 a w ?_
       rcases ite_of h0 with ⟨c6, h1⟩ | ⟨c6, h1⟩
       ·refine c_condT S rfl c6 (wp_skip (x_thenN (wp_block (c_region' (s_move S rfl rfl fun a S => s_move S rfl rfl fun a S => s_lenS S rfl underlying89 rfl fun a S => s_bin S rfl rfl rfl rfl fun a S => ?_)))))
        obtain ⟨c7, h2⟩ := chk_of h1; clear h1
        refine s_cutS S (i := 0) (j := (wr .i64 (((y57).length : Int) - 1))) (ys := y57.take (Int.toNat (wr .i64 (((y57).length : Int) - 1)))) rfl rfl underlying89 T3 (.inl ⟨rfl, rfl⟩) (.inr ⟨_, _, rfl, rfl⟩) c7 rfl (cut_pre rfl) fun A7 cp43 a S => s_assign S rfl rfl fun a S => c_end' (x_blockN (x_thenN ?_))
        exact ⟨_, A7, cp43, (y57.take (Int.toNat (wr .i64 (((y57).length : Int) - 1)))), (S.sb rfl (.c0 .n)), h2⟩
       ·refine c_condF S rfl c6 (wp_exit (x_thenX (x_thenX (x_blockX (x_blockN (x_thenN ?_))))))
        exact j2 _ A6 cp42 y57 y53 a w (S.sb rfl (.c0 .n)) h1
      refine c_region' (s_move S rfl rfl fun a S => s_lenS S rfl underlying89 rfl fun a S => s_bin S rfl rfl rfl rfl fun a S => s_move S rfl rfl fun a S => ?_)
      rcases ite_of h0 with ⟨c8, h1⟩ | ⟨c8, h1⟩
      ·refine s_gT S (b := (decide (0 < ((y57).length : Int)))) rfl rfl c8 (s_move S rfl rfl fun a S => s_gT S (b := (decide (0 < ((y57).length : Int)))) rfl rfl c8 (s_move S rfl rfl fun a S => s_gT S (b := (decide (0 < ((y57).length : Int)))) rfl rfl c8 (s_lenS S rfl underlying89 rfl fun a S => s_gT S (b := (decide (0 < ((y57).length : Int)))) rfl rfl c8 (s_bin S rfl rfl rfl rfl fun a S => s_gT S (b := (decide (0 < ((y57).length : Int)))) rfl rfl c8 ?_))))
       obtain ⟨c9, h2⟩ := chk_of h1; clear h1
       refine s_iaddrS S rfl rfl rfl underlying89 T3 c9.1 c9.2 rfl fun p3 a S => s_gT S (b := (decide (0 < ((y57).length : Int)))) rfl rfl c8 (s_ld1 S (v := (.int .i64 (rd y57 (wr .i64 (((y57).length : Int) - 1))))) rfl T3 (fun _ => rfl) rfl fun a S => s_gT S (b := (decide (0 < ((y57).length : Int)))) rfl rfl c8 (s_bin S rfl rfl rfl rfl fun a S => s_pick S (b := true) (hc_of rfl c8) rfl rfl fun a S => c_end' (x_thenN ?_)))
       exact j4 _ ((rd y57 (wr .i64 (((y57).length : Int) - 1))) == 0) a w (S.sb rfl (.c0 .n)) h2
      ·refine s_gF S (b := (decide (0 < ((y57).length : Int)))) rfl rfl c8 rfl fun a S => s_gF S (b := (decide (0 < ((y57).length : Int)))) rfl rfl c8 rfl fun a S => s_gF S (b := (decide (0 < ((y57).length : Int)))) rfl rfl c8 rfl fun a S => s_gF S (b := (decide (0 < ((y57).length : Int)))) rfl rfl c8 rfl fun a S => s_gF S (b := (decide (0 < ((y57).length : Int)))) rfl rfl c8 rfl fun a S => s_gF S (b := (decide (0 < ((y57).length : Int)))) rfl rfl c8 rfl fun a S => s_gF S (b := (decide (0 < ((y57).length : Int)))) rfl rfl c8 rfl fun a S => s_pick S (b := false) (hc_of rfl c8) rfl rfl fun a S => c_end' (x_thenN ?_)
       exact j4 _ false a w (S.sb rfl (.c0 .n)) h1
    refine wp_block ?_
    refine c_loop (fun q3 a w => ∃ m A8 nn1 cp46 y61 y62, St 66 m b0 [(7, (.s A8 nn1 cp46)), (8, (.i y33)), (6, (.s (ad g1) (Int.toNat ((x1).length : Int)) (Int.toNat ((x1).length : Int)))), (0, (.q yi ch_0_0 ch_0_1 x1)), (1, (.q yi ch_1_0 ch_1_1 x2))] [Res.row yi 3 A8 nn1 cp46 y61, Res.row yi 3 (ad g1) (Int.toNat ((x1).length : Int)) (Int.toNat ((x1).length : Int)) y62] a w ∧ smithyref02_Div.l3 k x2 y33 (smithyref02_Div.l1 k x1 x2 q1) q3 y61 y62 = some r) ?_ ?_ (k := k) ⟨_, A4, (1 + ((y32).length)), cp34, ([rd x1 y33] ++ y32), y34, (S.sb rfl (.c0 (.c0 .n))), h3⟩
    ·rintro a w ⟨m, A8, nn1, cp46, y61, y62, S, h0⟩
     exact (nomatch (show (none : Option ((List Int) × (List Int))) = some r from h0))
    ·clear S h3
     rintro q3 a w ⟨m, A8, nn1, cp46, y61, y62, S, h0⟩
     replace h0 : smithyref02_Div.b3 k x2 y33 (smithyref02_Div.l1 k x1 x2 q1) (smithyref02_Div.l3 k x2 y33 (smithyref02_Div.l1 k x1 x2 q1) q3) y61 y62 = some r := h0
     delta smithyref02_Div.b3 at h0
     refine wp_seq (c_region (s_move S rfl rfl fun a S => s_move S rfl rfl fun a S => ?_))
     replace S := S.rowfro .h
     obtain ⟨m, le1, S, hro⟩ := S
     replace S := S.slotro (u := 34) rfl hro
     replace S := S.slotro (u := 7) rfl hro
     refine bindX h0 fun t11 et11 h1 => s_callP S _ N60 rfl rfl (smithyref02_Less.ok k y61 x2 A8 cp46 ch_1_0 ch_1_1 t11 et11 _ _) fun ch6 m le1 a w S => s_not S rfl rfl fun a S => c_end ?_
     rcases ite_of h1 with ⟨c10, h2⟩ | ⟨c10, h2⟩
     ·refine c_condT S rfl c10 (wp_skip (x_thenN (wp_block (c_region (s_move S rfl rfl fun a S => s_move S rfl rfl fun a S => bindX h2 fun t12 et12 h3 => s_callR S (fun (ch : (Option Addr) × Nat × Nat) => ((.s ch.1 ch.2.1 ch.2.2) : D)) (fun (ch : (Option Addr) × Nat × Nat) => Res.row yi 3 ch.1 ch.2.1 ch.2.2 t12) N61 rfl rfl (smithyref02_Minus.ok k y61 x2 A8 cp46 ch_1_0 ch_1_1 t12 et12 _ _) fun ch7 m le1 a w S => s_assign S rfl rfl fun a S => c_end (c_region' (s_move S rfl rfl fun a S => s_move S rfl rfl fun a S => ?_)))))))
      obtain ⟨c11, h4⟩ := chk_of h3; clear h3
      refine s_iaddrO S (ty' := yi) rfl .h1 rfl underlying89 T3 c11.1 c11.2 rfl fun g8 a hA1 S => s_ldR1 S (ty' := yi) (i := y33) (off := 0) (v := (.int .i64 (rd y62 y33))) rfl hA1 .h1 T3 c11.1 c11.2 rfl (fun _ => rfl) rfl fun a S => s_bin S rfl rfl rfl rfl fun a S => s_iaddrO S (ty' := yi) rfl .h1 rfl underlying89 T3 c11.1 c11.2 rfl fun g9 a hA2 S => s_stR S (ty' := yi) (i := y33) (off := 0) (u := wr .i64 ((rd y62 y33) + 1)) (fun (c : Unit) => ()) rfl rfl rfl hA2 .h1 T3 c11.1 c11.2 rfl (by decide) rfl (fun _ => rfl) fun w S => c_end' (x_blockN (x_thenN ?_))
      exact ⟨_, ch7.1, ch7.2.1, ch7.2.2, t12, (y62.set (Int.toNat y33) (wr .i64 ((rd y62 y33) + 1))), (S.sb rfl (.c0 (.c0 .n))), h4⟩
     ·refine c_condF S rfl c10 (wp_exit (x_thenX (x_thenX (x_blockX (x_thenN ?_)))))
      exact j3 _ A8 cp46 y61 y62 a w (S.sb rfl (.c0 .n)) h2
   ·refine c_condF S rfl c3 (wp_exit (x_thenX (x_thenX (x_blockX (x_thenN ?_)))))
    exact j1 _ A2 cp23 y32 y34 a w (S.sb rfl (.c0 .n)) h1
abbrev smithyref02_N_High.Ty : Type := (List Int) → Option ((List Int))
def smithyref02_N_High.Ctr (s : smithyref02_N_High.Ty) : Prop := ∀ (x1 : List Int) (ch_0_0 : Option Addr) (ch_0_1 : Nat) (r : (List Int)), Ct (C := ((Option Addr) × Nat)) Tryd.prog 81 (s x1 = some r) [] [(.q yi ch_0_0 ch_0_1 x1)] (fun ch => (.q yi ch.1 ch.2 r)) fun _ => []
def smithyref02_N_High.f (x1 : List Int) : Option ((List Int)) := if (decide (((x1).length : Int) ≤ 32)) = true then (some ([] : List Int)) else (if (0 : Int) ≤ 32 ∧ (32 : Int) ≤ ((x1).length : Int) ∧ ((x1).length : Int) ≤ ((x1).length : Int) then (some (x1.drop (Int.toNat 32))) else none)
theorem smithyref02_N_High.ok : smithyref02_N_High.Ctr (smithyref02_N_High.f) := by
 intro x1 ch_0_0 ch_0_1 r h0 mi w0 ok hm
 delta smithyref02_N_High.f at h0
 refine c_enterZ (n := 9) ok hm func81 rfl rfl rfl fun b0 hb a S => c_region (s_assign S rfl rfl fun a S => c_end (wp_seq (c_region (s_move S rfl rfl fun a S => s_lenS S rfl underlying89 rfl fun a S => s_bin S rfl rfl rfl rfl fun a S => c_end ?_))))
 rcases ite_of h0 with ⟨c1, h1⟩ | ⟨c1, h1⟩
 ·refine c_condT S rfl c1 (c_region (s_bldSl S (ty' := yi) (ds := []) (z := 0) (c0 := ()) (ys := ([] : List Int)) (cs := []) rfl underlying89 J3 Z3 rfl ⟨rfl, trivial⟩ rfl rfl rfl rfl rfl rfl fun g1 a w S => s_assign S rfl rfl fun a S => c_end (wp_ret (x_thenR ?_))))
  replace S := S.rowfro .h
  obtain ⟨m, le1, S, hro⟩ := S
  replace S := S.slotro (u := 2) rfl hro
  replace S := S.slotro (u := 6) rfl hro
  obtain rfl := Option.some.inj h1
  exact b_ret1 (d := (.q yi (ad g1) 0 ([] : List Int))) S rfl rfl fun ok => S.retX (Hx := []) hb _ _ (((ad g1), 0) : (Option Addr) × Nat) .nil ok
 ·refine c_condF S rfl c1 (wp_skip (x_thenN (c_region (s_move S rfl rfl fun a S => ?_))))
  obtain ⟨c2, h2⟩ := chk_of h1; clear h1
  refine s_cutS S (i := 32) (j := ((x1).length : Int)) (ys := x1.drop (Int.toNat 32)) rfl rfl underlying89 T3 (.inr ⟨_, _, rfl, rfl⟩) (.inl ⟨rfl, rfl⟩) c2 rfl (cut_end rfl) fun A1 cp1 a S => s_assign S rfl rfl fun a S => c_end (wp_ret ?_)
  obtain rfl := Option.some.inj h2
  exact b_ret1 (d := (.q yi A1 cp1 (x1.drop (Int.toNat 32)))) S rfl rfl fun ok => S.retX (Hx := []) hb _ _ ((A1, cp1) : (Option Addr) × Nat) .nil ok
end GW
