import Derived.Test.YtkohappfcfimmaaDoorProg
import Derived.Test.YtkohappfcfimmaaDoorGB
set_option linter.unusedVariables false
set_option linter.unusedSimpArgs false
set_option maxRecDepth 10000
set_option maxHeartbeats 4000000
namespace GW
open Go Go.RowKit Go.Proofs Go.Proofs.Tryd
noncomputable section
abbrev smithyref05_up.Ty : Type := Int → Int → Option Int
def smithyref05_up.Ctr (s : smithyref05_up.Ty) : Prop := ∀ (x1 : Int) (x2 : Int) (r : Int), Ct (C := Unit) Tryd.prog 42 (s x1 x2 = some r) [] [(.w x1), (.i x2)] (fun _ => (.w r)) fun _ => []
def smithyref05_up.f (x1 : Int) (x2 : Int) : Option Int := if ((Int.tmod x2 64) == 0) = true then (some x1) else (if (0 : Int) ≤ (Int.tmod x2 64) then (if (0 : Int) ≤ (wr .i64 (64 - (Int.tmod x2 64))) then (some (bits .or .u64 (shl .u64 x1 (min (Int.toNat (Int.tmod x2 64)) 64)) (shr x1 (min (Int.toNat (wr .i64 (64 - (Int.tmod x2 64)))) 64)))) else none) else none)
theorem smithyref05_up.ok : smithyref05_up.Ctr (smithyref05_up.f) := by
 intro x1 x2 r h0 mi w0 ok hm
 delta smithyref05_up.f at h0
 refine c_enterZ (n := 18) ok hm func42 rfl rfl rfl fun b0 hb a S => c_region (s_assign S rfl rfl fun a S => c_end (c_region (s_move S rfl rfl fun a S => s_rem S rfl rfl (by decide) rfl fun a S => s_assign S rfl rfl fun a S => c_end (wp_seq (c_region (s_move S rfl rfl fun a S => s_bin S rfl rfl rfl rfl fun a S => c_end ?_))))))
 rcases ite_of h0 with ⟨c1, h1⟩ | ⟨c1, h1⟩
 ·refine c_condT S rfl c1 (c_region (s_move S rfl rfl fun a S => s_assign S rfl rfl fun a S => c_end (wp_ret (x_thenR ?_))))
  obtain rfl := Option.some.inj h1
  exact b_ret1 (d := (.w x1)) S rfl rfl (S.rt hb)
 ·refine c_condF S rfl c1 (wp_skip (x_thenN ?_))
  refine wp_seq (c_heldS S (.take 0 (.take 1 (.take 2 (.take 3 (.take 4 (.take 5 (.take 6 (.take 7 (.take 8 .done))))))))) 9 [] .nil trivial [(1, (.i (Int.tmod x2 64))), (0, (.w x1))] (subR rfl) (by kernel_rfl) (by kernel_rfl) ?_); clear S; intro w S CL hw le
  refine h_move S CL hw le (subR rfl) rfl rfl rfl trivial fun a S CL => h_move S CL hw le (subR rfl) rfl rfl rfl trivial fun a S CL => ?_
  obtain ⟨c2, h2⟩ := chk_of h1; clear h1
  refine h_shl S CL hw le (subR rfl) (e := (min (Int.toNat (Int.tmod x2 64)) 64)) rfl rfl c2 rfl rfl rfl trivial fun a S CL => h_move S CL hw le (subR rfl) rfl rfl rfl trivial fun a S CL => h_move S CL hw le (subR rfl) rfl rfl rfl trivial fun a S CL => h_bin S CL hw le (subR rfl) rfl rfl rfl rfl rfl trivial fun a S CL => ?_
  obtain ⟨c3, h3⟩ := chk_of h2; clear h2
  refine h_shr S CL hw le (subR rfl) (e := (min (Int.toNat (wr .i64 (64 - (Int.tmod x2 64)))) 64)) rfl rfl c3 rfl rfl rfl trivial fun a S CL => h_bin S CL hw le (subR rfl) rfl rfl rfl rfl rfl trivial fun a S CL => h_assign S CL hw le (subR rfl) rfl rfl rfl trivial fun a S CL => ?_
  refine h_done ?_; clear CL hw le
  refine x_thenN (wp_ret ?_)
  obtain rfl := Option.some.inj h3
  exact b_ret1 (d := (.w (bits .or .u64 (shl .u64 x1 (min (Int.toNat (Int.tmod x2 64)) 64)) (shr x1 (min (Int.toNat (wr .i64 (64 - (Int.tmod x2 64)))) 64))))) S rfl rfl (S.rt hb)
abbrev smithyref05_Round.Ty : Type := (List Int) → Int → Option ((List Int))
def smithyref05_Round.Ctr (s : smithyref05_Round.Ty) : Prop := ∀ (x1 : List Int) (x2 : Int) (r : (List Int)), Ct (C := Unit) Tryd.prog 39 (s x1 x2 = some r) [] [(.agg [.ints .u64 x1 25]), (.w x2)] (fun _ => (.agg [.ints .u64 r 25])) fun _ => []
def smithyref05_Round.j4 (x2 : Int) (y40 : List Int) : Option ((List Int)) := some (y40.set (Int.toNat 0) (bits .xor .u64 (rd y40 0) x2))
def smithyref05_Round.j5 (y53 : Int) (rec1 : Int → (List Int) → Option ((List Int))) (y59 : List Int) : Option ((List Int)) := rec1 (wr .i64 (y53 + 1)) y59
def smithyref05_Round.b2 (y25 : List Int) (y53 : Int) (rec1 : Int → (List Int) → Option ((List Int))) (rec2 : Int → (List Int) → Option ((List Int))) (y62 : Int) (y63 : List Int) : Option ((List Int)) := if (decide (y62 < 5)) = true then (if (0 : Int) ≤ (wr .i64 (y53 + (wr .i64 (5 * y62)))) ∧ (wr .i64 (y53 + (wr .i64 (5 * y62)))) < 25 then (if (0 : Int) ≤ (wr .i64 ((Int.tmod (wr .i64 (y53 + 1)) 5) + (wr .i64 (5 * y62)))) ∧ (wr .i64 ((Int.tmod (wr .i64 (y53 + 1)) 5) + (wr .i64 (5 * y62)))) < 25 then (if (0 : Int) ≤ (wr .i64 ((Int.tmod (wr .i64 (y53 + 2)) 5) + (wr .i64 (5 * y62)))) ∧ (wr .i64 ((Int.tmod (wr .i64 (y53 + 2)) 5) + (wr .i64 (5 * y62)))) < 25 then (rec2 (wr .i64 (y62 + 1)) (y63.set (Int.toNat (wr .i64 (y53 + (wr .i64 (5 * y62))))) (bits .xor .u64 (rd y25 (wr .i64 (y53 + (wr .i64 (5 * y62))))) (bits .and .u64 (wr .u64 (18446744073709551615 - (rd y25 (wr .i64 ((Int.tmod (wr .i64 (y53 + 1)) 5) + (wr .i64 (5 * y62))))))) (rd y25 (wr .i64 ((Int.tmod (wr .i64 (y53 + 2)) 5) + (wr .i64 (5 * y62))))))))) else none) else none) else none) else (smithyref05_Round.j5 y53 rec1 y63)
def smithyref05_Round.l2 (y25 : List Int) (y53 : Int) (rec1 : Int → (List Int) → Option ((List Int))) : Nat → Int → (List Int) → Option ((List Int))
  | 0, _, _ => none
  | q + 1, y62, y63 => smithyref05_Round.b2 y25 y53 rec1 (smithyref05_Round.l2 y25 y53 rec1 q) y62 y63
def smithyref05_Round.b1 (k : Nat) (x2 : Int) (y25 : List Int) (rec1 : Int → (List Int) → Option ((List Int))) (y53 : Int) (y54 : List Int) : Option ((List Int)) := if (decide (y53 < 5)) = true then (smithyref05_Round.l2 y25 y53 rec1 k 0 y54) else (smithyref05_Round.j4 x2 y54)
def smithyref05_Round.l1 (k : Nat) (x2 : Int) (y25 : List Int) : Nat → Int → (List Int) → Option ((List Int))
  | 0, _, _ => none
  | q + 1, y53, y54 => smithyref05_Round.b1 k x2 y25 (smithyref05_Round.l1 k x2 y25 q) y53 y54
def smithyref05_Round.j3 (k : Nat) (x2 : Int) (y25 : List Int) : Option ((List Int)) := smithyref05_Round.l1 k x2 y25 k 0 [0, 0, 0, 0, 0, 0, 0, 0, 0, 0, 0, 0, 0, 0, 0, 0, 0, 0, 0, 0, 0, 0, 0, 0, 0]
def smithyref05_Round.b3 (k : Nat) (x2 : Int) (y16 : List Int) (rec3 : Int → Int → Int → (List Int) → Option ((List Int))) (y68 : Int) (y69 : Int) (y70 : Int) (y71 : List Int) : Option ((List Int)) := if (decide (y68 < 24)) = true then (if (0 : Int) ≤ (wr .i64 (y70 + (wr .i64 (5 * y69)))) ∧ (wr .i64 (y70 + (wr .i64 (5 * y69)))) < 25 then ((smithyref05_up.f (rd y16 (wr .i64 (y70 + (wr .i64 (5 * y69))))) (wr .i64 (Int.tdiv (wr .i64 ((wr .i64 (y68 + 1)) * (wr .i64 (y68 + 2)))) 2))).bind fun t1 => (if (0 : Int) ≤ (wr .i64 (y69 + (wr .i64 (5 * (Int.tmod (wr .i64 ((wr .i64 (2 * y70)) + (wr .i64 (3 * y69)))) 5))))) ∧ (wr .i64 (y69 + (wr .i64 (5 * (Int.tmod (wr .i64 ((wr .i64 (2 * y70)) + (wr .i64 (3 * y69)))) 5))))) < 25 then (rec3 (wr .i64 (y68 + 1)) (Int.tmod (wr .i64 ((wr .i64 (2 * y70)) + (wr .i64 (3 * y69)))) 5) y69 (y71.set (Int.toNat (wr .i64 (y69 + (wr .i64 (5 * (Int.tmod (wr .i64 ((wr .i64 (2 * y70)) + (wr .i64 (3 * y69)))) 5)))))) t1)) else none)) else none) else (smithyref05_Round.j3 k x2 y71)
def smithyref05_Round.l3 (k : Nat) (x2 : Int) (y16 : List Int) : Nat → Int → Int → Int → (List Int) → Option ((List Int))
  | 0, _, _, _, _ => none
  | q + 1, y68, y69, y70, y71 => smithyref05_Round.b3 k x2 y16 (smithyref05_Round.l3 k x2 y16 q) y68 y69 y70 y71
def smithyref05_Round.j2 (k : Nat) (x2 : Int) (y16 : List Int) : Option ((List Int)) := smithyref05_Round.l3 k x2 y16 k 0 0 1 ([0, 0, 0, 0, 0, 0, 0, 0, 0, 0, 0, 0, 0, 0, 0, 0, 0, 0, 0, 0, 0, 0, 0, 0, 0].set (Int.toNat 0) (rd y16 0))
def smithyref05_Round.j6 (y84 : Int) (rec4 : Int → (List Int) → Option ((List Int))) (y90 : List Int) : Option ((List Int)) := rec4 (wr .i64 (y84 + 1)) y90
def smithyref05_Round.b5 (x1 : List Int) (y1 : List Int) (y84 : Int) (rec4 : Int → (List Int) → Option ((List Int))) (rec5 : Int → (List Int) → Option ((List Int))) (y93 : Int) (y94 : List Int) : Option ((List Int)) := if (decide (y93 < 5)) = true then (if (0 : Int) ≤ (wr .i64 (y84 + (wr .i64 (5 * y93)))) ∧ (wr .i64 (y84 + (wr .i64 (5 * y93)))) < 25 then (if (0 : Int) ≤ (Int.tmod (wr .i64 (y84 + 4)) 5) ∧ (Int.tmod (wr .i64 (y84 + 4)) 5) < 5 then (if (0 : Int) ≤ (Int.tmod (wr .i64 (y84 + 1)) 5) ∧ (Int.tmod (wr .i64 (y84 + 1)) 5) < 5 then ((smithyref05_up.f (rd y1 (Int.tmod (wr .i64 (y84 + 1)) 5)) 1).bind fun t4 => (rec5 (wr .i64 (y93 + 1)) (y94.set (Int.toNat (wr .i64 (y84 + (wr .i64 (5 * y93))))) (bits .xor .u64 (bits .xor .u64 (rd x1 (wr .i64 (y84 + (wr .i64 (5 * y93))))) (rd y1 (Int.tmod (wr .i64 (y84 + 4)) 5))) t4)))) else none) else none) else none) else (smithyref05_Round.j6 y84 rec4 y94)
def smithyref05_Round.l5 (x1 : List Int) (y1 : List Int) (y84 : Int) (rec4 : Int → (List Int) → Option ((List Int))) : Nat → Int → (List Int) → Option ((List Int))
  | 0, _, _ => none
  | q + 1, y93, y94 => smithyref05_Round.b5 x1 y1 y84 rec4 (smithyref05_Round.l5 x1 y1 y84 rec4 q) y93 y94
def smithyref05_Round.b4 (k : Nat) (x1 : List Int) (x2 : Int) (y1 : List Int) (rec4 : Int → (List Int) → Option ((List Int))) (y84 : Int) (y85 : List Int) : Option ((List Int)) := if (decide (y84 < 5)) = true then (smithyref05_Round.l5 x1 y1 y84 rec4 k 0 y85) else (smithyref05_Round.j2 k x2 y85)
def smithyref05_Round.l4 (k : Nat) (x1 : List Int) (x2 : Int) (y1 : List Int) : Nat → Int → (List Int) → Option ((List Int))
  | 0, _, _ => none
  | q + 1, y84, y85 => smithyref05_Round.b4 k x1 x2 y1 (smithyref05_Round.l4 k x1 x2 y1 q) y84 y85
def smithyref05_Round.j1 (k : Nat) (x1 : List Int) (x2 : Int) (y1 : List Int) : Option ((List Int)) := smithyref05_Round.l4 k x1 x2 y1 k 0 [0, 0, 0, 0, 0, 0, 0, 0, 0, 0, 0, 0, 0, 0, 0, 0, 0, 0, 0, 0, 0, 0, 0, 0, 0]
def smithyref05_Round.j7 (y107 : Int) (rec6 : Int → (List Int) → Option ((List Int))) (y113 : List Int) : Option ((List Int)) := rec6 (wr .i64 (y107 + 1)) y113
def smithyref05_Round.b7 (x1 : List Int) (y107 : Int) (rec6 : Int → (List Int) → Option ((List Int))) (rec7 : Int → (List Int) → Option ((List Int))) (y116 : Int) (y117 : List Int) : Option ((List Int)) := if (decide (y116 < 5)) = true then (if (0 : Int) ≤ y107 ∧ y107 < 5 then (if (0 : Int) ≤ (wr .i64 (y107 + (wr .i64 (5 * y116)))) ∧ (wr .i64 (y107 + (wr .i64 (5 * y116)))) < 25 then (rec7 (wr .i64 (y116 + 1)) (y117.set (Int.toNat y107) (bits .xor .u64 (rd y117 y107) (rd x1 (wr .i64 (y107 + (wr .i64 (5 * y116)))))))) else none) else none) else (smithyref05_Round.j7 y107 rec6 y117)
def smithyref05_Round.l7 (x1 : List Int) (y107 : Int) (rec6 : Int → (List Int) → Option ((List Int))) : Nat → Int → (List Int) → Option ((List Int))
  | 0, _, _ => none
  | q + 1, y116, y117 => smithyref05_Round.b7 x1 y107 rec6 (smithyref05_Round.l7 x1 y107 rec6 q) y116 y117
def smithyref05_Round.b6 (k : Nat) (x1 : List Int) (x2 : Int) (rec6 : Int → (List Int) → Option ((List Int))) (y107 : Int) (y108 : List Int) : Option ((List Int)) := if (decide (y107 < 5)) = true then (smithyref05_Round.l7 x1 y107 rec6 k 0 y108) else (smithyref05_Round.j1 k x1 x2 y108)
def smithyref05_Round.l6 (k : Nat) (x1 : List Int) (x2 : Int) : Nat → Int → (List Int) → Option ((List Int))
  | 0, _, _ => none
  | q + 1, y107, y108 => smithyref05_Round.b6 k x1 x2 (smithyref05_Round.l6 k x1 x2 q) y107 y108
def smithyref05_Round.f (k : Nat) (x1 : List Int) (x2 : Int) : Option ((List Int)) := smithyref05_Round.l6 k x1 x2 k 0 [0, 0, 0, 0, 0]
theorem smithyref05_Round.ok (k : Nat) : smithyref05_Round.Ctr (smithyref05_Round.f k) := by
 intro x1 x2 r h0 mi w0 ok hm
 delta smithyref05_Round.f at h0
 refine c_enterZ (n := 157) ok hm func39 rfl rfl rfl fun b0 hb a S => c_region (s_box S rfl rfl rfl fun g1 a w S => s_alloc S Z80 rfl ⟨rfl, trivial⟩ rfl fun g2 a w S => c_end (c_region (s_build S (ds := []) (dv := (.agg [.ints .u64 [0, 0, 0, 0, 0] 5])) rfl (fun _ => by kernel_rfl) ⟨rfl, trivial⟩ rfl fun a S => s_alloc S Z89 rfl ⟨rfl, trivial⟩ rfl fun g3 a w S => s_store S rfl rfl rfl (s' := [.ints .u64 [0, 0, 0, 0, 0] 5]) .h T89 rfl rfl fun w S => c_end (wp_seq_k fun K1 hK1 => ?_))))
 have j1 : ∀ m g37 g38 g39 y1 a w, St 157 m b0 [(5, (.p g37)), (4, (.p g38)), (2, (.p g39)), (1, (.w x2))] [Res.cells g37 89 [.ints .u64 y1 5], Res.cells g38 80 [.ints .u64 z25 25], Res.cells g39 80 [.ints .u64 x1 25]] a w → smithyref05_Round.j1 k x1 x2 y1 = some r → K1 a w := by
  intro m g37 g38 g39 y1 a w S h0
  delta smithyref05_Round.j1 at h0
  refine hK1 a w (c_region (s_build S (ds := []) (dv := (.agg [.ints .u64 z25 25])) rfl (fun _ => by kernel_rfl) ⟨rfl, trivial⟩ rfl fun a S => s_alloc S Z80 rfl ⟨rfl, trivial⟩ rfl fun g40 a w S => s_store S rfl rfl rfl (s' := [.ints .u64 z25 25]) .h T80 rfl rfl fun w S => c_end (wp_seq_k fun K2 hK2 => ?_)))
  have j2 : ∀ m g85 g86 y16 a w, St 157 m b0 [(8, (.p g85)), (4, (.p g86)), (1, (.w x2))] [Res.cells g85 80 [.ints .u64 y16 25], Res.cells g86 80 [.ints .u64 z25 25]] a w → smithyref05_Round.j2 k x2 y16 = some r → K2 a w := by
   intro m g85 g86 y16 a w S h0
   delta smithyref05_Round.j2 at h0
   refine hK2 a w (c_region (s_build S (ds := []) (dv := (.agg [.ints .u64 z25 25])) rfl (fun _ => by kernel_rfl) ⟨rfl, trivial⟩ rfl fun a S => s_alloc S Z80 rfl ⟨rfl, trivial⟩ rfl fun g87 a w S => s_store S rfl rfl rfl (s' := [.ints .u64 z25 25]) .h T80 rfl rfl fun w S => c_end (c_region (s_iaddr S (o' := 0) rfl rfl underlying80 T51 (by decide) (by decide) rfl rfl fun a S => s_loadi S (i := 0) rfl .h1 T51 .h rfl (by decide) (by decide) rfl fun a S => s_iaddr S (o' := 0) rfl rfl underlying80 T51 (by decide) (by decide) rfl rfl fun a S => s_storei S (i := 0) rfl rfl .h T51 .h rfl (by decide) (by decide) fun w S => c_end (c_region (s_assign S rfl rfl fun a S => c_end (c_region (s_assign S rfl rfl fun a S => c_end (wp_seq_k fun K3 hK3 => ?_)))))))))
   have j3 : ∀ m g97 g98 y25 a w, St 157 m b0 [(11, (.p g97)), (4, (.p g98)), (1, (.w x2))] [Res.cells g97 80 [.ints .u64 y25 25], Res.cells g98 80 [.ints .u64 z25 25]] a w → smithyref05_Round.j3 k x2 y25 = some r → K3 a w := by
    intro m g97 g98 y25 a w S h0
    delta smithyref05_Round.j3 at h0
    refine hK3 a w (c_region (s_build S (ds := []) (dv := (.agg [.ints .u64 z25 25])) rfl (fun _ => by kernel_rfl) ⟨rfl, trivial⟩ rfl fun a S => s_alloc S Z80 rfl ⟨rfl, trivial⟩ rfl fun g99 a w S => s_store S rfl rfl rfl (s' := [.ints .u64 z25 25]) .h T80 rfl rfl fun w S => c_end (wp_seq_k fun K4 hK4 => ?_)))
    have j4 : ∀ m g133 g134 y40 a w, St 157 m b0 [(16, (.p g133)), (4, (.p g134)), (1, (.w x2))] [Res.cells g133 80 [.ints .u64 y40 25], Res.cells g134 80 [.ints .u64 z25 25]] a w → smithyref05_Round.j4 x2 y40 = some r → K4 a w := by
     intro m g133 g134 y40 a w S h0
     delta smithyref05_Round.j4 at h0
     refine hK4 a w (c_region (s_iaddr S (o' := 0) rfl rfl underlying80 T51 (by decide) (by decide) rfl rfl fun a S => s_loadi S (i := 0) rfl .h T51 .h rfl (by decide) (by decide) rfl fun a S => s_move S rfl rfl fun a S => s_bin S rfl rfl rfl rfl fun a S => s_iaddr S (o' := 0) rfl rfl underlying80 T51 (by decide) (by decide) rfl rfl fun a S => s_storei S (i := 0) rfl rfl .h T51 .h rfl (by decide) (by decide) fun w S => c_end (c_region (s_loada S rfl .h T80 (s' := [.ints .u64 (y40.set (Int.toNat 0) (bits .xor .u64 (rd y40 0) x2)) 25]) rfl rfl fun a S => s_store S rfl rfl rfl (s' := [.ints .u64 (y40.set (Int.toNat 0) (bits .xor .u64 (rd y40 0) x2)) 25]) .h1 T80 rfl rfl fun w S => c_end (wp_ret ?_)))))
     obtain rfl := Option.some.inj h0
     exact b_ret1 (d := (.agg [.ints .u64 (y40.set (Int.toNat 0) (bits .xor .u64 (rd y40 0) x2)) 25])) S rfl (resD_cell rfl .h1 T80 rfl rfl) (S.rt hb)
    refine c_region (s_assign S rfl rfl fun a S => c_end (wp_block ?_))
    refine c_loop (fun q1 a w => ∃ m y53 g165 g166 g167 y54, St 157 m b0 [(17, (.i y53)), (16, (.p g165)), (11, (.p g166)), (4, (.p g167)), (1, (.w x2))] [Res.cells g165 80 [.ints .u64 y54 25], Res.cells g166 80 [.ints .u64 y25 25], Res.cells g167 80 [.ints .u64 z25 25]] a w ∧ smithyref05_Round.l1 k x2 y25 q1 y53 y54 = some r) ?_ ?_ (k := k) ⟨_, 0, g99, g97, g98, z25, (S.sb rfl (.c0 (.c0 (.c0 .n)))), h0⟩
    ·rintro a w ⟨m, y53, g165, g166, g167, y54, S, h0⟩
     exact (nomatch (show (none : Option ((List Int))) = some r from h0))
    ·clear S h0
     rintro q1 a w ⟨m, y53, g165, g166, g167, y54, S, h0⟩
     replace h0 : smithyref05_Round.b1 k x2 y25 (smithyref05_Round.l1 k x2 y25 q1) y53 y54 = some r := h0
     delta smithyref05_Round.b1 at h0
     refine wp_seq (c_region (s_move S rfl rfl fun a S => s_bin S rfl rfl rfl rfl fun a S => c_end ?_))
     rcases ite_of h0 with ⟨c1, h1⟩ | ⟨c1, h1⟩
     ·refine c_condT S rfl c1 (wp_skip (x_thenN (wp_seq_k fun K5 hK5 => ?_)))
      have j5 : ∀ m g177 g178 g179 y59 a w, St 157 m b0 [(17, (.i y53)), (16, (.p g177)), (11, (.p g178)), (4, (.p g179)), (1, (.w x2))] [Res.cells g177 80 [.ints .u64 y59 25], Res.cells g178 80 [.ints .u64 y25 25], Res.cells g179 80 [.ints .u64 z25 25]] a w → smithyref05_Round.j5 y53 (smithyref05_Round.l1 k x2 y25 q1) y59 = some r → K5 a w := by
       intro m g177 g178 g179 y59 a w S h0
       delta smithyref05_Round.j5 at h0
       refine hK5 a w (c_region' (s_move S rfl rfl fun a S => s_bin S rfl rfl rfl rfl fun a S => s_assign S rfl rfl fun a S => c_end' (x_thenN ?_)))
       exact ⟨_, (wr .i64 (y53 + 1)), g177, g178, g179, y59, (S.sb rfl (.c0 (.c0 (.c0 .n)))), h0⟩
      refine wp_block (c_region (s_assign S rfl rfl fun a S => c_end (wp_block ?_)))
      refine c_loop (fun q2 a w => ∃ m y62 g186 g187 g188 y63, St 157 m b0 [(18, (.i y62)), (17, (.i y53)), (16, (.p g186)), (11, (.p g187)), (4, (.p g188)), (1, (.w x2))] [Res.cells g186 80 [.ints .u64 y63 25], Res.cells g187 80 [.ints .u64 y25 25], Res.cells g188 80 [.ints .u64 z25 25]] a w ∧ smithyref05_Round.l2 y25 y53 (smithyref05_Round.l1 k x2 y25 q1) q2 y62 y63 = some r) ?_ ?_ (k := k) ⟨_, 0, g165, g166, g167, y54, (S.sb rfl (.c0 (.c0 (.c0 .n)))), h1⟩
      ·rintro a w ⟨m, y62, g186, g187, g188, y63, S, h0⟩
       exact (nomatch (show (none : Option ((List Int))) = some r from h0))
      ·clear S h1
       rintro q2 a w ⟨m, y62, g186, g187, g188, y63, S, h0⟩
       replace h0 : smithyref05_Round.b2 y25 y53 (smithyref05_Round.l1 k x2 y25 q1) (smithyref05_Round.l2 y25 y53 (smithyref05_Round.l1 k x2 y25 q1) q2) y62 y63 = some r := h0
       delta smithyref05_Round.b2 at h0
       refine wp_seq (c_region (s_move S rfl rfl fun a S => s_bin S rfl rfl rfl rfl fun a S => c_end ?_))
       rcases ite_of h0 with ⟨c2, h1⟩ | ⟨c2, h1⟩
       ·refine c_condT S rfl c2 (wp_skip (x_thenN (wp_seq (wp_block (c_heldS S (.take 0 (.take 1 (.take 2 (.take 3 (.take 4 (.take 5 (.take 6 (.take 7 (.take 8 (.take 9 (.take 10 (.take 11 (.take 12 (.take 13 (.take 14 (.take 15 (.take 16 (.take 17 (.take 18 (.take 19 (.take 20 (.take 21 (.take 22 (.take 23 (.take 24 (.take 25 (.take 26 (.take 27 (.take 28 (.take 29 (.alts (.run 30 false .done .nil)))))))))))))))))))))))))))))))) 30 [Res.cells g186 80 [.ints .u64 y63 25], Res.cells g187 80 [.ints .u64 y25 25], Res.cells g188 80 [.ints .u64 z25 25]] (.c0 (.c0 (.c0 .n))) ⟨Res.stay_cells, Res.stay_cells, Res.stay_cells, trivial⟩ [(18, (.i y62)), (17, (.i y53)), (16, (.p g186)), (11, (.p g187))] (subR rfl) (by kernel_rfl) (by kernel_rfl) fun w S CL hw le => ?_)))))
        refine h_move S CL hw le (subR rfl) rfl rfl rfl trivial fun a S CL => h_move S CL hw le (subR rfl) rfl rfl rfl trivial fun a S CL => h_bin S CL hw le (subR rfl) rfl rfl rfl rfl rfl trivial fun a S CL => h_bin S CL hw le (subR rfl) rfl rfl rfl rfl rfl trivial fun a S CL => h_move S CL hw le (subR rfl) rfl rfl rfl trivial fun a S CL => h_move S CL hw le (subR rfl) rfl rfl rfl trivial fun a S CL => h_bin S CL hw le (subR rfl) rfl rfl rfl rfl rfl trivial fun a S CL => h_bin S CL hw le (subR rfl) rfl rfl rfl rfl rfl trivial fun a S CL => ?_
        obtain ⟨c3, h2⟩ := chk_of h1; clear h1
        refine h_iaddr S CL hw le (subR rfl) rfl rfl underlying80 T51 c3.1 c3.2 (mul1 _ _) rfl rfl trivial fun a S CL => h_loadi S CL hw le (subR rfl) (i := (wr .i64 (y53 + (wr .i64 (5 * y62))))) rfl .h1 T51 .h rfl c3.1 c3.2 rfl rfl trivial fun a S CL => h_move S CL hw le (subR rfl) rfl rfl rfl trivial fun a S CL => h_bin S CL hw le (subR rfl) rfl rfl rfl rfl rfl trivial fun a S CL => h_rem S CL hw le (subR rfl) rfl rfl (by decide) rfl rfl trivial fun a S CL => h_move S CL hw le (subR rfl) rfl rfl rfl trivial fun a S CL => h_bin S CL hw le (subR rfl) rfl rfl rfl rfl rfl trivial fun a S CL => h_bin S CL hw le (subR rfl) rfl rfl rfl rfl rfl trivial fun a S CL => ?_
        obtain ⟨c4, h3⟩ := chk_of h2; clear h2
        refine h_iaddr S CL hw le (subR rfl) rfl rfl underlying80 T51 c4.1 c4.2 (mul1 _ _) rfl rfl trivial fun a S CL => h_loadi S CL hw le (subR rfl) (i := (wr .i64 ((Int.tmod (wr .i64 (y53 + 1)) 5) + (wr .i64 (5 * y62))))) rfl .h1 T51 .h rfl c4.1 c4.2 rfl rfl trivial fun a S CL => h_bin S CL hw le (subR rfl) rfl rfl rfl rfl rfl trivial fun a S CL => h_move S CL hw le (subR rfl) rfl rfl rfl trivial fun a S CL => h_bin S CL hw le (subR rfl) rfl rfl rfl rfl rfl trivial fun a S CL => h_rem S CL hw le (subR rfl) rfl rfl (by decide) rfl rfl trivial fun a S CL => h_move S CL hw le (subR rfl) rfl rfl rfl trivial fun a S CL => h_bin S CL hw le (subR rfl) rfl rfl rfl rfl rfl trivial fun a S CL => h_bin S CL hw le (subR rfl) rfl rfl rfl rfl rfl trivial fun a S CL => ?_
        obtain ⟨c5, h4⟩ := chk_of h3; clear h3
        refine h_iaddr S CL hw le (subR rfl) rfl rfl underlying80 T51 c5.1 c5.2 (mul1 _ _) rfl rfl trivial fun a S CL => h_loadi S CL hw le (subR rfl) (i := (wr .i64 ((Int.tmod (wr .i64 (y53 + 2)) 5) + (wr .i64 (5 * y62))))) rfl .h1 T51 .h rfl c5.1 c5.2 rfl rfl trivial fun a S CL => h_bin S CL hw le (subR rfl) rfl rfl rfl rfl rfl trivial fun a S CL => h_bin S CL hw le (subR rfl) rfl rfl rfl rfl rfl trivial fun a S CL => h_iaddr S CL hw le (subR rfl) rfl rfl underlying80 T51 c3.1 c3.2 (mul1 _ _) rfl rfl trivial fun a S CL => h_run' S rfl trivial (s_storei S (i := (wr .i64 (y53 + (wr .i64 (5 * y62))))) rfl rfl .h T51 .h rfl c3.1 c3.2 fun w S => ?_)
        refine h_back ⟨fun h => (nomatch h), ?_⟩
        refine h_done ?_; clear CL hw le
        refine x_blockN (x_thenN (c_region' (s_move S rfl rfl fun a S => s_bin S rfl rfl rfl rfl fun a S => s_assign S rfl rfl fun a S => c_end' (x_thenN ?_))))
        exact ⟨_, (wr .i64 (y62 + 1)), g186, g187, g188, (y63.set (Int.toNat (wr .i64 (y53 + (wr .i64 (5 * y62))))) (bits .xor .u64 (rd y25 (wr .i64 (y53 + (wr .i64 (5 * y62))))) (bits .and .u64 (wr .u64 (18446744073709551615 - (rd y25 (wr .i64 ((Int.tmod (wr .i64 (y53 + 1)) 5) + (wr .i64 (5 * y62))))))) (rd y25 (wr .i64 ((Int.tmod (wr .i64 (y53 + 2)) 5) + (wr .i64 (5 * y62)))))))), (S.sb rfl (.c0 (.c0 (.c0 .n)))), h4⟩
       ·refine c_condF S rfl c2 (wp_exit (x_thenX (x_thenX (x_blockX (x_blockN (x_thenN ?_))))))
        exact j5 _ g186 g187 g188 y63 a w (S.sb rfl (.c0 (.c0 (.c0 .n)))) h1
     ·refine c_condF S rfl c1 (wp_exit (x_thenX (x_thenX (x_blockX (x_thenN ?_)))))
      exact j4 _ g165 g167 y54 a w (S.sb rfl (.c0 (.c1 .n))) h1
   refine c_region (s_assign S rfl rfl fun a S => c_end (wp_block ?_))
   refine c_loop (fun q3 a w => ∃ m y68 y69 y70 g195 g196 g197 y71, St 157 m b0 [(14, (.i y68)), (13, (.i y69)), (12, (.i y70)), (11, (.p g195)), (8, (.p g196)), (4, (.p g197)), (1, (.w x2))] [Res.cells g195 80 [.ints .u64 y71 25], Res.cells g196 80 [.ints .u64 y16 25], Res.cells g197 80 [.ints .u64 z25 25]] a w ∧ smithyref05_Round.l3 k x2 y16 q3 y68 y69 y70 y71 = some r) ?_ ?_ (k := k) ⟨_, 0, 0, 1, g87, g85, g86, (z25.set (Int.toNat 0) (rd y16 0)), (S.sb rfl (.c0 (.c0 (.c0 .n)))), h0⟩
   ·rintro a w ⟨m, y68, y69, y70, g195, g196, g197, y71, S, h0⟩
    exact (nomatch (show (none : Option ((List Int))) = some r from h0))
   ·clear S h0
    rintro q3 a w ⟨m, y68, y69, y70, g195, g196, g197, y71, S, h0⟩
    replace h0 : smithyref05_Round.b3 k x2 y16 (smithyref05_Round.l3 k x2 y16 q3) y68 y69 y70 y71 = some r := h0
    delta smithyref05_Round.b3 at h0
    refine wp_seq (c_region (s_move S rfl rfl fun a S => s_bin S rfl rfl rfl rfl fun a S => c_end ?_))
    rcases ite_of h0 with ⟨c6, h1⟩ | ⟨c6, h1⟩
    ·refine c_condT S rfl c6 (wp_skip (x_thenN (wp_seq (wp_block (c_region (s_move S rfl rfl fun a S => s_move S rfl rfl fun a S => s_bin S rfl rfl rfl rfl fun a S => s_move S rfl rfl fun a S => s_bin S rfl rfl rfl rfl fun a S => s_bin S rfl rfl rfl rfl fun a S => s_rem S rfl rfl (by decide) rfl fun a S => s_bin S rfl rfl rfl rfl fun a S => s_bin S rfl rfl rfl rfl fun a S => s_move S rfl rfl fun a S => s_move S rfl rfl fun a S => s_bin S rfl rfl rfl rfl fun a S => s_bin S rfl rfl rfl rfl fun a S => ?_))))))
     obtain ⟨c7, h2⟩ := chk_of h1; clear h1
     refine s_iaddr S rfl rfl underlying80 T51 c7.1 c7.2 (mul1 _ _) rfl fun a S => s_loadi S (i := (wr .i64 (y70 + (wr .i64 (5 * y69))))) rfl .h1 T51 .h rfl c7.1 c7.2 rfl fun a S => s_move S rfl rfl fun a S => s_bin S rfl rfl rfl rfl fun a S => s_move S rfl rfl fun a S => s_bin S rfl rfl rfl rfl fun a S => s_bin S rfl rfl rfl rfl fun a S => s_quo S rfl rfl (by decide) rfl fun a S => bindX h2 fun t1 et1 h3 => s_callP S _ N42 rfl rfl (smithyref05_up.ok (rd y16 (wr .i64 (y70 + (wr .i64 (5 * y69))))) (wr .i64 (Int.tdiv (wr .i64 ((wr .i64 (y68 + 1)) * (wr .i64 (y68 + 2)))) 2)) t1 et1 _ _) fun ch1 m le1 a w S => ?_
     obtain ⟨c8, h4⟩ := chk_of h3; clear h3
     refine s_iaddr S rfl rfl underlying80 T51 c8.1 c8.2 (mul1 _ _) rfl fun a S => s_storei S (i := (wr .i64 (y69 + (wr .i64 (5 * (Int.tmod (wr .i64 ((wr .i64 (2 * y70)) + (wr .i64 (3 * y69)))) 5)))))) rfl rfl .h T51 .h rfl c8.1 c8.2 fun w S => c_end (c_region (s_move S rfl rfl fun a S => s_bin S rfl rfl rfl rfl fun a S => s_move S rfl rfl fun a S => s_bin S rfl rfl rfl rfl fun a S => s_bin S rfl rfl rfl rfl fun a S => s_rem S rfl rfl (by decide) rfl fun a S => s_assign S rfl rfl fun a S => c_end (c_region (s_move S rfl rfl fun a S => s_assign S rfl rfl fun a S => c_end (c_region' (s_move S rfl rfl fun a S => s_assign S rfl rfl fun a S => c_end' (x_blockN (x_thenN (c_region' (s_move S rfl rfl fun a S => s_bin S rfl rfl rfl rfl fun a S => s_assign S rfl rfl fun a S => c_end' (x_thenN ?_)))))))))))
     exact ⟨_, (wr .i64 (y68 + 1)), (Int.tmod (wr .i64 ((wr .i64 (2 * y70)) + (wr .i64 (3 * y69)))) 5), y69, g195, g196, g197, (y71.set (Int.toNat (wr .i64 (y69 + (wr .i64 (5 * (Int.tmod (wr .i64 ((wr .i64 (2 * y70)) + (wr .i64 (3 * y69)))) 5)))))) t1), (S.sb rfl (.c0 (.c0 (.c0 .n)))), h4⟩
    ·refine c_condF S rfl c6 (wp_exit (x_thenX (x_thenX (x_blockX (x_thenN ?_)))))
     exact j3 _ g195 g197 y71 a w (S.sb rfl (.c0 (.c1 .n))) h1
  refine c_region (s_assign S rfl rfl fun a S => c_end (wp_block ?_))
  refine c_loop (fun q4 a w => ∃ m y84 g238 g239 g240 g241 y85, St 157 m b0 [(9, (.i y84)), (8, (.p g238)), (5, (.p g239)), (4, (.p g240)), (2, (.p g241)), (1, (.w x2))] [Res.cells g238 80 [.ints .u64 y85 25], Res.cells g239 89 [.ints .u64 y1 5], Res.cells g240 80 [.ints .u64 z25 25], Res.cells g241 80 [.ints .u64 x1 25]] a w ∧ smithyref05_Round.l4 k x1 x2 y1 q4 y84 y85 = some r) ?_ ?_ (k := k) ⟨_, 0, g40, g37, g38, g39, z25, (S.sb rfl (.c0 (.c0 (.c0 (.c0 .n))))), h0⟩
  ·rintro a w ⟨m, y84, g238, g239, g240, g241, y85, S, h0⟩
   exact (nomatch (show (none : Option ((List Int))) = some r from h0))
  ·clear S h0
   rintro q4 a w ⟨m, y84, g238, g239, g240, g241, y85, S, h0⟩
   replace h0 : smithyref05_Round.b4 k x1 x2 y1 (smithyref05_Round.l4 k x1 x2 y1 q4) y84 y85 = some r := h0
   delta smithyref05_Round.b4 at h0
   refine wp_seq (c_region (s_move S rfl rfl fun a S => s_bin S rfl rfl rfl rfl fun a S => c_end ?_))
   rcases ite_of h0 with ⟨c9, h1⟩ | ⟨c9, h1⟩
   ·refine c_condT S rfl c9 (wp_skip (x_thenN (wp_seq_k fun K6 hK6 => ?_)))
    have j6 : ∀ m g254 g255 g256 g257 y90 a w, St 157 m b0 [(9, (.i y84)), (8, (.p g254)), (5, (.p g255)), (4, (.p g256)), (2, (.p g257)), (1, (.w x2))] [Res.cells g254 80 [.ints .u64 y90 25], Res.cells g255 89 [.ints .u64 y1 5], Res.cells g256 80 [.ints .u64 z25 25], Res.cells g257 80 [.ints .u64 x1 25]] a w → smithyref05_Round.j6 y84 (smithyref05_Round.l4 k x1 x2 y1 q4) y90 = some r → K6 a w := by
     intro m g254 g255 g256 g257 y90 a w S h0
     delta smithyref05_Round.j6 at h0
     refine hK6 a w (c_region' (s_move S rfl rfl fun a S => s_bin S rfl rfl rfl rfl fun a S => s_assign S rfl rfl fun a S => c_end' (x_thenN ?_)))
     exact ⟨_, (wr .i64 (y84 + 1)), g254, g255, g256, g257, y90, (S.sb rfl (.c0 (.c0 (.c0 (.c0 .n))))), h0⟩
    refine wp_block (c_region (s_assign S rfl rfl fun a S => c_end (wp_block ?_)))
    refine c_loop (fun q5 a w => ∃ m y93 g266 g267 g268 g269 y94, St 157 m b0 [(10, (.i y93)), (9, (.i y84)), (8, (.p g266)), (5, (.p g267)), (4, (.p g268)), (2, (.p g269)), (1, (.w x2))] [Res.cells g266 80 [.ints .u64 y94 25], Res.cells g267 89 [.ints .u64 y1 5], Res.cells g268 80 [.ints .u64 z25 25], Res.cells g269 80 [.ints .u64 x1 25]] a w ∧ smithyref05_Round.l5 x1 y1 y84 (smithyref05_Round.l4 k x1 x2 y1 q4) q5 y93 y94 = some r) ?_ ?_ (k := k) ⟨_, 0, g238, g239, g240, g241, y85, (S.sb rfl (.c0 (.c0 (.c0 (.c0 .n))))), h1⟩
    ·rintro a w ⟨m, y93, g266, g267, g268, g269, y94, S, h0⟩
     exact (nomatch (show (none : Option ((List Int))) = some r from h0))
    ·clear S h1
     rintro q5 a w ⟨m, y93, g266, g267, g268, g269, y94, S, h0⟩
     replace h0 : smithyref05_Round.b5 x1 y1 y84 (smithyref05_Round.l4 k x1 x2 y1 q4) (smithyref05_Round.l5 x1 y1 y84 (smithyref05_Round.l4 k x1 x2 y1 q4) q5) y93 y94 = some r := h0
     delta smithyref05_Round.b5 at h0
     refine wp_seq (c_region (s_move S rfl rfl fun a S => s_bin S rfl rfl rfl rfl fun a S => c_end ?_))
     rcases ite_of h0 with ⟨c10, h1⟩ | ⟨c10, h1⟩
     ·refine c_condT S rfl c10 (wp_skip (x_thenN (wp_seq (wp_block (c_heldS S (.take 0 (.take 1 (.take 2 (.take 3 (.take 4 (.take 5 (.take 6 (.take 7 (.take 8 (.take 9 (.take 10 (.take 11 (.take 12 (.take 13 (.take 14 (.take 15 (.take 16 (.take 17 (.take 18 (.take 19 (.take 20 (.alts (.run 21 true (.take 22 (.take 23 (.alts (.run 24 false .done .nil)))) .nil))))))))))))))))))))))) 24 [Res.cells g266 80 [.ints .u64 y94 25], Res.cells g267 89 [.ints .u64 y1 5], Res.cells g268 80 [.ints .u64 z25 25], Res.cells g269 80 [.ints .u64 x1 25]] (.c0 (.c0 (.c0 (.c0 .n)))) ⟨Res.stay_cells, Res.stay_cells, Res.stay_cells, Res.stay_cells, trivial⟩ [(10, (.i y93)), (9, (.i y84)), (8, (.p g266)), (5, (.p g267)), (2, (.p g269))] (subR rfl) (by kernel_rfl) (by kernel_rfl) fun w S CL hw le => ?_)))))
      refine h_move S CL hw le (subR rfl) rfl rfl rfl trivial fun a S CL => h_move S CL hw le (subR rfl) rfl rfl rfl trivial fun a S CL => h_bin S CL hw le (subR rfl) rfl rfl rfl rfl rfl trivial fun a S CL => h_bin S CL hw le (subR rfl) rfl rfl rfl rfl rfl trivial fun a S CL => h_move S CL hw le (subR rfl) rfl rfl rfl trivial fun a S CL => h_move S CL hw le (subR rfl) rfl rfl rfl trivial fun a S CL => h_bin S CL hw le (subR rfl) rfl rfl rfl rfl rfl trivial fun a S CL => h_bin S CL hw le (subR rfl) rfl rfl rfl rfl rfl trivial fun a S CL => ?_
      obtain ⟨c11, h2⟩ := chk_of h1; clear h1
      refine h_iaddr S CL hw le (subR rfl) rfl rfl underlying80 T51 c11.1 c11.2 (mul1 _ _) rfl rfl trivial fun a S CL => h_loadi S CL hw le (subR rfl) (i := (wr .i64 (y84 + (wr .i64 (5 * y93))))) rfl .h3 T51 .h rfl c11.1 c11.2 rfl rfl trivial fun a S CL => h_move S CL hw le (subR rfl) rfl rfl rfl trivial fun a S CL => h_bin S CL hw le (subR rfl) rfl rfl rfl rfl rfl trivial fun a S CL => h_rem S CL hw le (subR rfl) rfl rfl (by decide) rfl rfl trivial fun a S CL => ?_
      obtain ⟨c12, h3⟩ := chk_of h2; clear h2
      refine h_iaddr S CL hw le (subR rfl) rfl rfl underlying89 T51 c12.1 c12.2 (mul1 _ _) rfl rfl trivial fun a S CL => h_loadi S CL hw le (subR rfl) (i := (Int.tmod (wr .i64 (y84 + 4)) 5)) rfl .h1 T51 .h rfl c12.1 c12.2 rfl rfl trivial fun a S CL => h_bin S CL hw le (subR rfl) rfl rfl rfl rfl rfl trivial fun a S CL => h_move S CL hw le (subR rfl) rfl rfl rfl trivial fun a S CL => h_bin S CL hw le (subR rfl) rfl rfl rfl rfl rfl trivial fun a S CL => h_rem S CL hw le (subR rfl) rfl rfl (by decide) rfl rfl trivial fun a S CL => ?_
      obtain ⟨c13, h4⟩ := chk_of h3; clear h3
      refine h_iaddr S CL hw le (subR rfl) rfl rfl underlying89 T51 c13.1 c13.2 (mul1 _ _) rfl rfl trivial fun a S CL => h_loadi S CL hw le (subR rfl) (i := (Int.tmod (wr .i64 (y84 + 1)) 5)) rfl .h1 T51 .h rfl c13.1 c13.2 rfl rfl trivial fun a S CL => h_run' S rfl trivial (bindX h4 fun t4 et4 h5 => s_callP S _ N42 rfl rfl (smithyref05_up.ok (rd y1 (Int.tmod (wr .i64 (y84 + 1)) 5)) 1 t4 et4 _ _) fun ch2 m le1 a w S => ?_)
      replace le := le.trans le1
      refine CL.bk hw S (.c0 (.c0 (.c0 (.c0 .n)))) le fun hw => ?_
      replace CL := CL.add (t := 70) (d := (.w t4)) S rfl rfl
      refine h_bin S CL hw le (subR rfl) rfl rfl rfl rfl rfl trivial fun a S CL => h_iaddr S CL hw le (subR rfl) rfl rfl underlying80 T51 c11.1 c11.2 (mul1 _ _) rfl rfl trivial fun a S CL => h_run' S rfl trivial (s_storei S (i := (wr .i64 (y84 + (wr .i64 (5 * y93))))) rfl rfl .h T51 .h rfl c11.1 c11.2 fun w S => ?_)
      refine h_back ⟨fun h => (nomatch h), ?_⟩
      refine h_done ?_; clear CL hw le
      refine x_blockN (x_thenN (c_region' (s_move S rfl rfl fun a S => s_bin S rfl rfl rfl rfl fun a S => s_assign S rfl rfl fun a S => c_end' (x_thenN ?_))))
      exact ⟨_, (wr .i64 (y93 + 1)), g266, g267, g268, g269, (y94.set (Int.toNat (wr .i64 (y84 + (wr .i64 (5 * y93))))) (bits .xor .u64 (bits .xor .u64 (rd x1 (wr .i64 (y84 + (wr .i64 (5 * y93))))) (rd y1 (Int.tmod (wr .i64 (y84 + 4)) 5))) t4)), (S.sb rfl (.c0 (.c0 (.c0 (.c0 .n))))), h5⟩
     ·refine c_condF S rfl c10 (wp_exit (x_thenX (x_thenX (x_blockX (x_blockN (x_thenN ?_))))))
      exact j6 _ g266 g267 g268 g269 y94 a w (S.sb rfl (.c0 (.c0 (.c0 (.c0 .n))))) h1
   ·refine c_condF S rfl c9 (wp_exit (x_thenX (x_thenX (x_blockX (x_thenN ?_)))))
    exact j2 _ g238 g240 y85 a w (S.sb rfl (.c0 (.c1 .n))) h1
 refine c_region (s_assign S rfl rfl fun a S => c_end (wp_block ?_))
 refine c_loop (fun q6 a w => ∃ m y107 g300 g301 g302 y108, St 157 m b0 [(6, (.i y107)), (5, (.p g300)), (4, (.p g301)), (2, (.p g302)), (1, (.w x2))] [Res.cells g300 89 [.ints .u64 y108 5], Res.cells g301 80 [.ints .u64 z25 25], Res.cells g302 80 [.ints .u64 x1 25]] a w ∧ smithyref05_Round.l6 k x1 x2 q6 y107 y108 = some r) ?_ ?_ (k := k) ⟨_, 0, g3, g2, g1, [0, 0, 0, 0, 0], (S.sb rfl (.c0 (.c0 (.c0 .n)))), h0⟩
 ·rintro a w ⟨m, y107, g300, g301, g302, y108, S, h0⟩
  exact (nomatch (show (none : Option ((List Int))) = some r from h0))
 ·clear S h0
  rintro q6 a w ⟨m, y107, g300, g301, g302, y108, S, h0⟩
  replace h0 : smithyref05_Round.b6 k x1 x2 (smithyref05_Round.l6 k x1 x2 q6) y107 y108 = some r := h0
  delta smithyref05_Round.b6 at h0
  refine wp_seq (c_region (s_move S rfl rfl fun a S => s_bin S rfl rfl rfl rfl fun a S => c_end ?_))
  rcases ite_of h0 with ⟨c14, h1⟩ | ⟨c14, h1⟩
  ·refine c_condT S rfl c14 (wp_skip (x_thenN (wp_seq_k fun K7 hK7 => ?_)))
   have j7 : ∀ m g312 g313 g314 y113 a w, St 157 m b0 [(6, (.i y107)), (5, (.p g312)), (4, (.p g313)), (2, (.p g314)), (1, (.w x2))] [Res.cells g312 89 [.ints .u64 y113 5], Res.cells g313 80 [.ints .u64 z25 25], Res.cells g314 80 [.ints .u64 x1 25]] a w → smithyref05_Round.j7 y107 (smithyref05_Round.l6 k x1 x2 q6) y113 = some r → K7 a w := by
    intro m g312 g313 g314 y113 a w S h0
    delta smithyref05_Round.j7 at h0
    refine hK7 a w (c_region' (s_move S rfl rfl fun a S => s_bin S rfl rfl rfl rfl fun a S => s_assign S rfl rfl fun a S => c_end' (x_thenN ?_)))
    exact ⟨_, (wr .i64 (y107 + 1)), g312, g313, g314, y113, (S.sb rfl (.c0 (.c0 (.c0 .n)))), h0⟩
   refine wp_block (c_region (s_assign S rfl rfl fun a S => c_end (wp_block ?_)))
   refine c_loop (fun q7 a w => ∃ m y116 g321 g322 g323 y117, St 157 m b0 [(7, (.i y116)), (6, (.i y107)), (5, (.p g321)), (4, (.p g322)), (2, (.p g323)), (1, (.w x2))] [Res.cells g321 89 [.ints .u64 y117 5], Res.cells g322 80 [.ints .u64 z25 25], Res.cells g323 80 [.ints .u64 x1 25]] a w ∧ smithyref05_Round.l7 x1 y107 (smithyref05_Round.l6 k x1 x2 q6) q7 y116 y117 = some r) ?_ ?_ (k := k) ⟨_, 0, g300, g301, g302, y108, (S.sb rfl (.c0 (.c0 (.c0 .n)))), h1⟩
   ·rintro a w ⟨m, y116, g321, g322, g323, y117, S, h0⟩
    exact (nomatch (show (none : Option ((List Int))) = some r from h0))
   ·clear S h1
    rintro q7 a w ⟨m, y116, g321, g322, g323, y117, S, h0⟩
    replace h0 : smithyref05_Round.b7 x1 y107 (smithyref05_Round.l6 k x1 x2 q6) (smithyref05_Round.l7 x1 y107 (smithyref05_Round.l6 k x1 x2 q6) q7) y116 y117 = some r := h0
    delta smithyref05_Round.b7 at h0
    refine wp_seq (c_region (s_move S rfl rfl fun a S => s_bin S rfl rfl rfl rfl fun a S => c_end ?_))
    rcases ite_of h0 with ⟨c15, h1⟩ | ⟨c15, h1⟩
    ·refine c_condT S rfl c15 (wp_skip (x_thenN (wp_seq (wp_block (c_heldS S (.take 0 (.take 1 (.take 2 (.take 3 (.take 4 (.take 5 (.take 6 (.take 7 (.take 8 (.take 9 (.take 10 (.take 11 (.alts (.run 12 false .done .nil)))))))))))))) 12 [Res.cells g321 89 [.ints .u64 y117 5], Res.cells g322 80 [.ints .u64 z25 25], Res.cells g323 80 [.ints .u64 x1 25]] (.c0 (.c0 (.c0 .n))) ⟨Res.stay_cells, Res.stay_cells, Res.stay_cells, trivial⟩ [(7, (.i y116)), (6, (.i y107)), (5, (.p g321)), (2, (.p g323))] (subR rfl) (by kernel_rfl) (by kernel_rfl) fun w S CL hw le => ?_)))))
     refine h_move S CL hw le (subR rfl) rfl rfl rfl trivial fun a S CL => h_move S CL hw le (subR rfl) rfl rfl rfl trivial fun a S CL => ?_
     obtain ⟨c16, h2⟩ := chk_of h1; clear h1
     refine h_iaddr S CL hw le (subR rfl) rfl rfl underlying89 T51 c16.1 c16.2 (mul1 _ _) rfl rfl trivial fun a S CL => h_loadi S CL hw le (subR rfl) (i := y107) rfl .h T51 .h rfl c16.1 c16.2 rfl rfl trivial fun a S CL => h_move S CL hw le (subR rfl) rfl rfl rfl trivial fun a S CL => h_move S CL hw le (subR rfl) rfl rfl rfl trivial fun a S CL => h_bin S CL hw le (subR rfl) rfl rfl rfl rfl rfl trivial fun a S CL => h_bin S CL hw le (subR rfl) rfl rfl rfl rfl rfl trivial fun a S CL => ?_
     obtain ⟨c17, h3⟩ := chk_of h2; clear h2
     refine h_iaddr S CL hw le (subR rfl) rfl rfl underlying80 T51 c17.1 c17.2 (mul1 _ _) rfl rfl trivial fun a S CL => h_loadi S CL hw le (subR rfl) (i := (wr .i64 (y107 + (wr .i64 (5 * y116))))) rfl .h2 T51 .h rfl c17.1 c17.2 rfl rfl trivial fun a S CL => h_bin S CL hw le (subR rfl) rfl rfl rfl rfl rfl trivial fun a S CL => h_iaddr S CL hw le (subR rfl) rfl rfl underlying89 T51 c16.1 c16.2 (mul1 _ _) rfl rfl trivial fun a S CL => h_run' S rfl trivial (s_storei S (i := y107) rfl rfl .h T51 .h rfl c16.1 c16.2 fun w S => ?_)
     refine h_back ⟨fun h => (nomatch h), ?_⟩
     refine h_done ?_; clear CL hw le
     refine x_blockN (x_thenN (c_region' (s_move S rfl rfl fun a S => s_bin S rfl rfl rfl rfl fun a S => s_assign S rfl rfl fun a S => c_end' (x_thenN ?_))))
     exact ⟨_, (wr .i64 (y116 + 1)), g321, g322, g323, (y117.set (Int.toNat y107) (bits .xor .u64 (rd y117 y107) (rd x1 (wr .i64 (y107 + (wr .i64 (5 * y116))))))), (S.sb rfl (.c0 (.c0 (.c0 .n)))), h3⟩
    ·refine c_condF S rfl c15 (wp_exit (x_thenX (x_thenX (x_blockX (x_blockN (x_thenN ?_))))))
     exact j7 _ g321 g322 g323 y117 a w (S.sb rfl (.c0 (.c0 (.c0 .n)))) h1
  ·refine c_condF S rfl c14 (wp_exit (x_thenX (x_thenX (x_blockX (x_thenN ?_)))))
   exact j1 _ g300 g301 g302 y108 a w (S.sb rfl (.c0 (.c0 (.c0 .n)))) h1
abbrev smithyref05_Turn.Ty : Type := (List Int) → Option ((List Int))
def smithyref05_Turn.Ctr (s : smithyref05_Turn.Ty) : Prop := ∀ (x1 : List Int) (r : (List Int)), Ct (C := Unit) Tryd.prog 35 (s x1 = some r) [] [(.agg [.ints .u64 x1 25])] (fun _ => (.agg [.ints .u64 r 25])) fun _ => []
def smithyref05_Turn.j1 (y1 : List Int) : Option ((List Int)) := some y1
def smithyref05_Turn.b1 (k : Nat) (t1 : (List Int)) (rec1 : Int → (List Int) → Option ((List Int))) (y4 : Int) (y5 : List Int) : Option ((List Int)) := if (decide (y4 < 24)) = true then (if (0 : Int) ≤ y4 ∧ y4 < 24 then ((smithyref05_Round.f k y5 (rd t1 y4)).bind fun t4 => (rec1 (wr .i64 (y4 + 1)) t4)) else none) else (smithyref05_Turn.j1 y5)
def smithyref05_Turn.l1 (k : Nat) (t1 : (List Int)) : Nat → Int → (List Int) → Option ((List Int))
  | 0, _, _ => none
  | q + 1, y4, y5 => smithyref05_Turn.b1 k t1 (smithyref05_Turn.l1 k t1 q) y4 y5
def smithyref05_Turn.f (k : Nat) (x1 : List Int) : Option ((List Int)) := (smithyref05_Constants.f k).bind fun t1 => (smithyref05_Turn.l1 k t1 k 0 x1)
theorem smithyref05_Turn.ok (k : Nat) : smithyref05_Turn.Ctr (smithyref05_Turn.f k) := by
 intro x1 r h0 mi w0 ok hm
 delta smithyref05_Turn.f at h0
 refine c_enterZ (n := 16) ok hm func35 rfl rfl rfl fun b0 hb a S => c_region (s_box S rfl rfl rfl fun g1 a w S => s_alloc S Z80 rfl ⟨rfl, trivial⟩ rfl fun g2 a w S => c_end (c_region (bindX h0 fun t1 et1 h1 => s_callP S _ N38 rfl rfl (smithyref05_Constants.ok k t1 et1 _ _) fun ch1 m le1 a w S => s_alloc S Z85 rfl ⟨rfl, trivial⟩ rfl fun g3 a w S => s_store S rfl rfl rfl (s' := [.ints .u64 t1 24]) .h T85 rfl rfl fun w S => c_end (wp_seq_k fun K1 hK1 => ?_))))
 have j1 : ∀ m g13 g14 y1 a w, St 16 m b0 [(2, (.p g13)), (1, (.p g14))] [Res.cells g13 80 [.ints .u64 z25 25], Res.cells g14 80 [.ints .u64 y1 25]] a w → smithyref05_Turn.j1 y1 = some r → K1 a w := by
  intro m g13 g14 y1 a w S h0
  delta smithyref05_Turn.j1 at h0
  refine hK1 a w (c_region (s_loada S rfl .h1 T80 (s' := [.ints .u64 y1 25]) rfl rfl fun a S => s_store S rfl rfl rfl (s' := [.ints .u64 y1 25]) .h T80 rfl rfl fun w S => c_end (wp_ret ?_)))
  obtain rfl := Option.some.inj h0
  exact b_ret1 (d := (.agg [.ints .u64 y1 25])) S rfl (resD_cell rfl .h T80 rfl rfl) (S.rt hb)
 refine c_region (s_assign S rfl rfl fun a S => c_end (wp_block ?_))
 refine c_loop (fun q1 a w => ∃ m y4 g21 g22 g23 y5, St 16 m b0 [(4, (.i y4)), (3, (.p g21)), (2, (.p g22)), (1, (.p g23))] [Res.cells g21 85 [.ints .u64 t1 24], Res.cells g22 80 [.ints .u64 z25 25], Res.cells g23 80 [.ints .u64 y5 25]] a w ∧ smithyref05_Turn.l1 k t1 q1 y4 y5 = some r) ?_ ?_ (k := k) ⟨_, 0, g3, g2, g1, x1, (S.sb rfl (.c0 (.c0 (.c0 .n)))), h1⟩
 ·rintro a w ⟨m, y4, g21, g22, g23, y5, S, h0⟩
  exact (nomatch (show (none : Option ((List Int))) = some r from h0))
 ·clear S h1
  rintro q1 a w ⟨m, y4, g21, g22, g23, y5, S, h0⟩
  replace h0 : smithyref05_Turn.b1 k t1 (smithyref05_Turn.l1 k t1 q1) y4 y5 = some r := h0
  delta smithyref05_Turn.b1 at h0
  refine wp_seq (c_region (s_move S rfl rfl fun a S => s_bin S rfl rfl rfl rfl fun a S => c_end ?_))
  rcases ite_of h0 with ⟨c1, h1⟩ | ⟨c1, h1⟩
  ·refine c_condT S rfl c1 (wp_skip (x_thenN (wp_seq (wp_block (c_heldS S (.take 0 (.take 1 (.take 2 (.take 3 (.alts (.run 4 true (.alts (.run 5 false .done .nil)) .nil)))))) 5 [Res.cells g21 85 [.ints .u64 t1 24], Res.cells g22 80 [.ints .u64 z25 25], Res.cells g23 80 [.ints .u64 y5 25]] (.c0 (.c0 (.c0 .n))) ⟨Res.stay_cells, Res.stay_cells, Res.stay_cells, trivial⟩ [(4, (.i y4)), (3, (.p g21)), (1, (.p g23))] (subR rfl) (by kernel_rfl) (by kernel_rfl) fun w S CL hw le => ?_)))))
   refine h_loada S CL hw le (subR rfl) rfl .h2 T80 (s' := [.ints .u64 y5 25]) rfl rfl rfl trivial fun a S CL => h_move S CL hw le (subR rfl) rfl rfl rfl trivial fun a S CL => ?_
   obtain ⟨c2, h2⟩ := chk_of h1; clear h1
   refine h_iaddr S CL hw le (subR rfl) rfl rfl underlying85 T51 c2.1 c2.2 (mul1 _ _) rfl rfl trivial fun a S CL => h_loadi S CL hw le (subR rfl) (i := y4) rfl .h T51 .h rfl c2.1 c2.2 rfl rfl trivial fun a S CL => h_run' S rfl trivial (bindX h2 fun t4 et4 h3 => s_callP S _ N39 rfl rfl (smithyref05_Round.ok k y5 (rd t1 y4) t4 et4 _ _) fun ch2 m le1 a w S => ?_)
   replace le := le.trans le1
   refine CL.bk hw S (.c0 (.c0 (.c0 .n))) le fun hw => h_run' S rfl trivial (s_store S rfl rfl rfl (s' := [.ints .u64 t4 25]) .h2 T80 rfl rfl fun w S => ?_)
   refine h_back ⟨fun h => (nomatch h), ?_⟩
   refine h_done ?_; clear CL hw le
   refine x_blockN (x_thenN (c_region' (s_move S rfl rfl fun a S => s_bin S rfl rfl rfl rfl fun a S => s_assign S rfl rfl fun a S => c_end' (x_thenN ?_))))
   exact ⟨_, (wr .i64 (y4 + 1)), g21, g22, g23, t4, (S.sb rfl (.c0 (.c0 (.c0 .n)))), h3⟩
  ·refine c_condF S rfl c1 (wp_exit (x_thenX (x_thenX (x_blockX (x_thenN ?_)))))
   exact j1 _ g22 g23 y5 a w (S.sb rfl (.c1 (.c1 .n))) h1
abbrev smithyref05_Sum.Ty : Type := (List Int) → Option ((List Int))
def smithyref05_Sum.Ctr (s : smithyref05_Sum.Ty) : Prop := ∀ (x1 : List Int) (ch_0_0 : Option Addr) (ch_0_1 : Nat) (r : (List Int)), Ct (C := Unit) Tryd.prog 29 (s x1 = some r) [] [(.q yb ch_0_0 ch_0_1 x1)] (fun _ => (.a32 r)) fun _ => []
def smithyref05_Sum.j3 (y13 : List Int) : Option ((List Int)) := some y13
def smithyref05_Sum.b1 (y8 : List Int) (rec1 : Int → (List Int) → Option ((List Int))) (y16 : Int) (y17 : List Int) : Option ((List Int)) := if (decide (y16 < 32)) = true then (if (0 : Int) ≤ (wr .i64 (Int.tdiv y16 8)) ∧ (wr .i64 (Int.tdiv y16 8)) < 25 then (if (0 : Int) ≤ (wr .i64 (8 * (Int.tmod y16 8))) then (if (0 : Int) ≤ y16 ∧ y16 < 32 then (rec1 (wr .i64 (y16 + 1)) (y17.set (Int.toNat y16) (wr .u8 (Int.tmod (shr (rd y8 (wr .i64 (Int.tdiv y16 8))) (min (Int.toNat (wr .i64 (8 * (Int.tmod y16 8)))) 64)) 256)))) else none) else none) else none) else (smithyref05_Sum.j3 y17)
def smithyref05_Sum.l1 (y8 : List Int) : Nat → Int → (List Int) → Option ((List Int))
  | 0, _, _ => none
  | q + 1, y16, y17 => smithyref05_Sum.b1 y8 (smithyref05_Sum.l1 y8 q) y16 y17
def smithyref05_Sum.j2 (k : Nat) (y8 : List Int) : Option ((List Int)) := smithyref05_Sum.l1 y8 k 0 [0, 0, 0, 0, 0, 0, 0, 0, 0, 0, 0, 0, 0, 0, 0, 0, 0, 0, 0, 0, 0, 0, 0, 0, 0, 0, 0, 0, 0, 0, 0, 0]
def smithyref05_Sum.j4 (y22 : Int) (rec2 : Int → (List Int) → Option ((List Int))) (y24 : List Int) : Option ((List Int)) := rec2 (wr .i64 (y22 + 1)) y24
def smithyref05_Sum.b2 (k : Nat) (y1 : List Int) (rec2 : Int → (List Int) → Option ((List Int))) (y22 : Int) (y23 : List Int) : Option ((List Int)) := if (decide (y22 < ((y1.set (Int.toNat (wr .i64 (((y1).length : Int) - 1))) (bits .or .u8 (rd y1 (wr .i64 (((y1).length : Int) - 1))) 128)).length : Int))) = true then (if (0 : Int) ≤ (wr .i64 (Int.tdiv (Int.tmod y22 136) 8)) ∧ (wr .i64 (Int.tdiv (Int.tmod y22 136) 8)) < 25 then (if (0 : Int) ≤ y22 ∧ y22 < ((y1.set (Int.toNat (wr .i64 (((y1).length : Int) - 1))) (bits .or .u8 (rd y1 (wr .i64 (((y1).length : Int) - 1))) 128)).length : Int) then (if (0 : Int) ≤ (wr .i64 (8 * (Int.tmod (Int.tmod y22 136) 8))) then (if ((Int.tmod y22 136) == 135) = true then ((smithyref05_Turn.f k (y23.set (Int.toNat (wr .i64 (Int.tdiv (Int.tmod y22 136) 8))) (bits .xor .u64 (rd y23 (wr .i64 (Int.tdiv (Int.tmod y22 136) 8))) (shl .u64 (wr .u64 (rd (y1.set (Int.toNat (wr .i64 (((y1).length : Int) - 1))) (bits .or .u8 (rd y1 (wr .i64 (((y1).length : Int) - 1))) 128)) y22)) (min (Int.toNat (wr .i64 (8 * (Int.tmod (Int.tmod y22 136) 8)))) 64))))).bind fun t1 => (smithyref05_Sum.j4 y22 rec2 t1)) else (smithyref05_Sum.j4 y22 rec2 (y23.set (Int.toNat (wr .i64 (Int.tdiv (Int.tmod y22 136) 8))) (bits .xor .u64 (rd y23 (wr .i64 (Int.tdiv (Int.tmod y22 136) 8))) (shl .u64 (wr .u64 (rd (y1.set (Int.toNat (wr .i64 (((y1).length : Int) - 1))) (bits .or .u8 (rd y1 (wr .i64 (((y1).length : Int) - 1))) 128)) y22)) (min (Int.toNat (wr .i64 (8 * (Int.tmod (Int.tmod y22 136) 8)))) 64)))))) else none) else none) else none) else (smithyref05_Sum.j2 k y23)
def smithyref05_Sum.l2 (k : Nat) (y1 : List Int) : Nat → Int → (List Int) → Option ((List Int))
  | 0, _, _ => none
  | q + 1, y22, y23 => smithyref05_Sum.b2 k y1 (smithyref05_Sum.l2 k y1 q) y22 y23
def smithyref05_Sum.j1 (k : Nat) (y1 : List Int) : Option ((List Int)) := if (0 : Int) ≤ (wr .i64 (((y1).length : Int) - 1)) ∧ (wr .i64 (((y1).length : Int) - 1)) < ((y1).length : Int) then (smithyref05_Sum.l2 k y1 k 0 [0, 0, 0, 0, 0, 0, 0, 0, 0, 0, 0, 0, 0, 0, 0, 0, 0, 0, 0, 0, 0, 0, 0, 0, 0]) else none
def smithyref05_Sum.b3 (k : Nat) (rec3 : (List Int) → Option ((List Int))) (y26 : List Int) : Option ((List Int)) := if ((Int.tmod ((y26).length : Int) 136) != 0) = true then (if ((y26).length + ([0]).length) * 1 ≤ 140737488355328 then (rec3 (y26 ++ [0])) else none) else (smithyref05_Sum.j1 k y26)
def smithyref05_Sum.l3 (k : Nat) : Nat → (List Int) → Option ((List Int))
  | 0, _ => none
  | q + 1, y26 => smithyref05_Sum.b3 k (smithyref05_Sum.l3 k q) y26
def smithyref05_Sum.f (k : Nat) (x1 : List Int) : Option ((List Int)) := if ((([] : List Int)).length + (x1).length) * 1 ≤ 140737488355328 then (if ((([] : List Int) ++ x1).length + ([1]).length) * 1 ≤ 140737488355328 then (smithyref05_Sum.l3 k k ((([] : List Int) ++ x1) ++ [1])) else none) else none
theorem smithyref05_Sum.ok (k : Nat) : smithyref05_Sum.Ctr (smithyref05_Sum.f k) := by
 intro x1 ch_0_0 ch_0_1 r h0 mi w0 ok hm
 delta smithyref05_Sum.f at h0
 refine c_enterZ (n := 83) ok hm func29 rfl rfl rfl fun b0 hb a S => c_region (s_alloc S Z50 rfl ⟨rfl, trivial⟩ rfl fun g1 a w S => c_end (c_region (s_bldSl S (ty' := yb) (ds := []) (z := 0) (c0 := ()) (ys := ([] : List Int)) (cs := []) rfl underlying36 J5 Z5 rfl ⟨rfl, trivial⟩ rfl rfl rfl rfl rfl rfl fun g2 a w S => s_assign S rfl rfl fun a S => c_end (c_region (s_move S rfl rfl fun a S => s_move S rfl rfl fun a S => ?_)))))
 obtain ⟨c1, h1⟩ := chk_of h0; clear h0
 refine s_app S (k2 := ((x1).length)) (ys := x1) rfl (fun _ _ => .h) rfl rfl rfl (RdS.src (S.get 11 (.q yb ch_0_0 ch_0_1 x1) rfl).2.2.2.1 (by decide) S.frz) underlying36 J5 c1 rfl fun A1 cp1 a w S => s_assign S rfl rfl fun a S => c_end (c_region (s_move S rfl rfl fun a S => s_bldSl S (ty' := yb) (ds := [(0, (.v (.int .u8 1)))]) (z := 0) (c0 := ()) (ys := [1]) (cs := [()]) rfl underlying36 J5 Z5 rfl ⟨rfl, trivial⟩ rfl rfl rfl rfl rfl rfl fun g3 a w S => ?_))
 obtain ⟨c2, h2⟩ := chk_of h1; clear h1
 refine s_app S (k2 := 1) (ys := [1]) rfl (fun _ _ => .h1) rfl rfl (S.holds _ (Pull.mem .h).1).1 (Res.row.src (S.holds _ (Pull.mem .h).1)) underlying36 J5 c2 rfl fun A2 cp2 a w S => s_assign S rfl rfl fun a S => c_end (wp_seq_k fun K1 hK1 => ?_)
 have j1 : ∀ m A3 nn1 cp8 y1 g9 a w, St 83 m b0 [(3, (.s A3 nn1 cp8)), (2, (.p g9))] [Res.row yb 5 A3 nn1 cp8 y1, Res.cells g9 50 [.b32 z32]] a w → smithyref05_Sum.j1 k y1 = some r → K1 a w := by
  intro m A3 nn1 cp8 y1 g9 a w S h0
  delta smithyref05_Sum.j1 at h0
  refine hK1 a w (c_region (s_move S rfl rfl fun a S => s_move S rfl rfl fun a S => s_lenO S rfl .h underlying36 rfl fun a S => s_bin S rfl rfl rfl rfl fun a S => s_move S rfl rfl fun a S => s_move S rfl rfl fun a S => s_lenO S rfl .h underlying36 rfl fun a S => s_bin S rfl rfl rfl rfl fun a S => ?_))
  obtain ⟨c3, h1⟩ := chk_of h0; clear h0
  refine s_iaddrO S (ty' := yb) rfl .h rfl underlying36 T5 c3.1 c3.2 rfl fun g10 a hA1 S => s_ldR1 S (ty' := yb) (i := (wr .i64 (((y1).length : Int) - 1))) (off := 0) (v := (.int .u8 (rd y1 (wr .i64 (((y1).length : Int) - 1))))) rfl hA1 .h T5 c3.1 c3.2 rfl (fun _ => rfl) rfl fun a S => s_bin S rfl rfl rfl rfl fun a S => s_iaddrO S (ty' := yb) rfl .h rfl underlying36 T5 c3.1 c3.2 rfl fun g11 a hA2 S => s_stR S (ty' := yb) (i := (wr .i64 (((y1).length : Int) - 1))) (off := 0) (u := bits .or .u8 (rd y1 (wr .i64 (((y1).length : Int) - 1))) 128) (fun (c : Unit) => ()) rfl rfl rfl hA2 .h T5 c3.1 c3.2 rfl (by decide) rfl (fun _ => rfl) fun w S => c_end (c_region (s_build S (ds := []) (dv := (.agg [.ints .u64 z25 25])) rfl (fun _ => by kernel_rfl) ⟨rfl, trivial⟩ rfl fun a S => s_alloc S Z80 rfl ⟨rfl, trivial⟩ rfl fun g12 a w S => s_store S rfl rfl rfl (s' := [.ints .u64 z25 25]) .h T80 rfl rfl fun w S => c_end (wp_seq_k fun K2 hK2 => ?_)))
  have j2 : ∀ m g25 g26 y8 a w, St 83 m b0 [(4, (.p g25)), (2, (.p g26))] [Res.cells g25 80 [.ints .u64 y8 25], Res.cells g26 50 [.b32 z32]] a w → smithyref05_Sum.j2 k y8 = some r → K2 a w := by
   intro m g25 g26 y8 a w S h0
   delta smithyref05_Sum.j2 at h0
   refine hK2 a w (c_region (s_build S (ds := []) (dv := (.a32 z32)) rfl (fun _ => by kernel_rfl) ⟨rfl, trivial⟩ rfl fun a S => s_alloc S Z50 rfl ⟨rfl, trivial⟩ rfl fun g27 a w S => s_store S rfl rfl rfl (s' := [.b32 z32]) .h T50 rfl rfl fun w S => c_end (wp_seq_k fun K3 hK3 => ?_)))
   have j3 : ∀ m g37 g38 y13 a w, St 83 m b0 [(7, (.p g37)), (2, (.p g38))] [Res.cells g37 50 [.b32 y13], Res.cells g38 50 [.b32 z32]] a w → smithyref05_Sum.j3 y13 = some r → K3 a w := by
    intro m g37 g38 y13 a w S h0
    delta smithyref05_Sum.j3 at h0
    refine hK3 a w (c_region (s_loada S rfl .h T50 (s' := [.b32 y13]) rfl rfl fun a S => s_store S rfl rfl rfl (s' := [.b32 y13]) .h1 T50 rfl rfl fun w S => c_end (wp_ret ?_)))
    obtain rfl := Option.some.inj h0
    exact b_ret1 (d := (.a32 y13)) S rfl (resD_cell rfl .h1 T50 rfl rfl) (S.rt hb)
   refine c_region (s_assign S rfl rfl fun a S => c_end (wp_block ?_))
   refine c_loop (fun q1 a w => ∃ m y16 g45 g46 g47 y17, St 83 m b0 [(8, (.i y16)), (7, (.p g45)), (4, (.p g46)), (2, (.p g47))] [Res.cells g45 50 [.b32 y17], Res.cells g46 80 [.ints .u64 y8 25], Res.cells g47 50 [.b32 z32]] a w ∧ smithyref05_Sum.l1 y8 q1 y16 y17 = some r) ?_ ?_ (k := k) ⟨_, 0, g27, g25, g26, z32, (S.sb rfl (.c0 (.c0 (.c0 .n)))), h0⟩
   ·rintro a w ⟨m, y16, g45, g46, g47, y17, S, h0⟩
    exact (nomatch (show (none : Option ((List Int))) = some r from h0))
   ·clear S h0
    rintro q1 a w ⟨m, y16, g45, g46, g47, y17, S, h0⟩
    replace h0 : smithyref05_Sum.b1 y8 (smithyref05_Sum.l1 y8 q1) y16 y17 = some r := h0
    delta smithyref05_Sum.b1 at h0
    refine wp_seq (c_region (s_move S rfl rfl fun a S => s_bin S rfl rfl rfl rfl fun a S => c_end ?_))
    rcases ite_of h0 with ⟨c4, h1⟩ | ⟨c4, h1⟩
    ·refine c_condT S rfl c4 (wp_skip (x_thenN (wp_seq (wp_block (c_region' (s_move S rfl rfl fun a S => s_move S rfl rfl fun a S => s_quo S rfl rfl (by decide) rfl fun a S => ?_))))))
     obtain ⟨c5, h2⟩ := chk_of h1; clear h1
     refine s_iaddr S rfl rfl underlying80 T51 c5.1 c5.2 (mul1 _ _) rfl fun a S => s_loadi S (i := (wr .i64 (Int.tdiv y16 8))) rfl .h1 T51 .h rfl c5.1 c5.2 rfl fun a S => s_move S rfl rfl fun a S => s_rem S rfl rfl (by decide) rfl fun a S => s_bin S rfl rfl rfl rfl fun a S => ?_
     obtain ⟨c6, h3⟩ := chk_of h2; clear h2
     refine s_shr S (e := (min (Int.toNat (wr .i64 (8 * (Int.tmod y16 8)))) 64)) rfl rfl c6 rfl rfl fun a S => s_rem S rfl rfl (by decide) rfl fun a S => s_conv S rfl rfl underlying5 rfl fun a S => ?_
     obtain ⟨c7, h4⟩ := chk_of h3; clear h3
     refine s_iaddr S rfl rfl underlying50 T5 c7.1 c7.2 (mul1 _ _) rfl fun a S => s_storei S (i := y16) rfl rfl .h T5 .h rfl c7.1 c7.2 fun w S => c_end' (x_blockN (x_thenN (c_region' (s_move S rfl rfl fun a S => s_bin S rfl rfl rfl rfl fun a S => s_assign S rfl rfl fun a S => c_end' (x_thenN ?_)))))
     exact ⟨_, (wr .i64 (y16 + 1)), g45, g46, g47, (y17.set (Int.toNat y16) (wr .u8 (Int.tmod (shr (rd y8 (wr .i64 (Int.tdiv y16 8))) (min (Int.toNat (wr .i64 (8 * (Int.tmod y16 8)))) 64)) 256))), (S.sb rfl (.c0 (.c0 (.c0 .n)))), h4⟩
    ·refine c_condF S rfl c4 (wp_exit (x_thenX (x_thenX (x_blockX (x_thenN ?_)))))
     exact j3 _ g45 g47 y17 a w (S.sb rfl (.c0 (.c1 .n))) h1
  refine c_region (s_assign S rfl rfl fun a S => c_end (wp_block ?_))
  refine c_loop (fun q2 a w => ∃ m y22 g58 g59 y23, St 83 m b0 [(5, (.i y22)), (4, (.p g58)), (3, (.s A3 nn1 cp8)), (2, (.p g59))] [Res.cells g58 80 [.ints .u64 y23 25], Res.row yb 5 A3 nn1 cp8 (y1.set (Int.toNat (wr .i64 (((y1).length : Int) - 1))) (bits .or .u8 (rd y1 (wr .i64 (((y1).length : Int) - 1))) 128)), Res.cells g59 50 [.b32 z32]] a w ∧ smithyref05_Sum.l2 k y1 q2 y22 y23 = some r) ?_ ?_ (k := k) ⟨_, 0, g12, g9, z25, (S.sb rfl (.c0 (.c0 (.c0 .n)))), h1⟩
  ·rintro a w ⟨m, y22, g58, g59, y23, S, h0⟩
   exact (nomatch (show (none : Option ((List Int))) = some r from h0))
  ·clear S h1
   rintro q2 a w ⟨m, y22, g58, g59, y23, S, h0⟩
   replace h0 : smithyref05_Sum.b2 k y1 (smithyref05_Sum.l2 k y1 q2) y22 y23 = some r := h0
   delta smithyref05_Sum.b2 at h0
   refine wp_seq (c_region (s_move S rfl rfl fun a S => s_move S rfl rfl fun a S => s_lenO S rfl .h1 underlying36 rfl fun a S => s_bin S rfl rfl rfl rfl fun a S => c_end ?_))
   rcases ite_of h0 with ⟨c8, h1⟩ | ⟨c8, h1⟩
   ·refine c_condT S rfl c8 (wp_skip (x_thenN (wp_seq_k fun K4 hK4 => ?_)))
    have j4 : ∀ m g61 g62 y24 a w, St 83 m b0 [(5, (.i y22)), (4, (.p g61)), (3, (.s A3 nn1 cp8)), (2, (.p g62))] [Res.cells g61 80 [.ints .u64 y24 25], Res.row yb 5 A3 nn1 cp8 (y1.set (Int.toNat (wr .i64 (((y1).length : Int) - 1))) (bits .or .u8 (rd y1 (wr .i64 (((y1).length : Int) - 1))) 128)), Res.cells g62 50 [.b32 z32]] a w → smithyref05_Sum.j4 y22 (smithyref05_Sum.l2 k y1 q2) y24 = some r → K4 a w := by
     intro m g61 g62 y24 a w S h0
     delta smithyref05_Sum.j4 at h0
     refine hK4 a w (c_region' (s_move S rfl rfl fun a S => s_bin S rfl rfl rfl rfl fun a S => s_assign S rfl rfl fun a S => c_end' (x_thenN ?_)))
     exact ⟨_, (wr .i64 (y22 + 1)), g61, g62, y24, (S.sb rfl (.c0 (.c0 (.c0 .n)))), h0⟩
    refine wp_block (c_region (s_move S rfl rfl fun a S => s_rem S rfl rfl (by decide) rfl fun a S => s_assign S rfl rfl fun a S => c_end ?_))
    refine wp_seq (c_heldS S (.take 0 (.take 1 (.take 2 (.take 3 (.take 4 (.take 5 (.take 6 (.take 7 (.take 8 (.take 9 (.take 10 (.take 11 (.take 12 (.take 13 (.take 14 (.take 15 (.take 16 (.alts (.run 17 false .done .nil))))))))))))))))))) 17 [Res.cells g58 80 [.ints .u64 y23 25], Res.row yb 5 A3 nn1 cp8 (y1.set (Int.toNat (wr .i64 (((y1).length : Int) - 1))) (bits .or .u8 (rd y1 (wr .i64 (((y1).length : Int) - 1))) 128)), Res.cells g59 50 [.b32 z32]] (.c0 (.c0 (.c0 .n))) ⟨Res.stay_cells, Res.stay_row flat_int, Res.stay_cells, trivial⟩ [(6, (.i (Int.tmod y22 136))), (5, (.i y22)), (4, (.p g58)), (3, (.s A3 nn1 cp8))] (subR rfl) (by kernel_rfl) (by kernel_rfl) ?_); clear S; intro w S CL hw le
    refine h_move S CL hw le (subR rfl) rfl rfl rfl trivial fun a S CL => h_quo S CL hw le (subR rfl) rfl rfl (by decide) rfl rfl trivial fun a S CL => h_move S CL hw le (subR rfl) rfl rfl rfl trivial fun a S CL => h_quo S CL hw le (subR rfl) rfl rfl (by decide) rfl rfl trivial fun a S CL => ?_
    obtain ⟨c9, h2⟩ := chk_of h1; clear h1
    refine h_iaddr S CL hw le (subR rfl) rfl rfl underlying80 T51 c9.1 c9.2 (mul1 _ _) rfl rfl trivial fun a S CL => h_loadi S CL hw le (subR rfl) (i := (wr .i64 (Int.tdiv (Int.tmod y22 136) 8))) rfl .h T51 .h rfl c9.1 c9.2 rfl rfl trivial fun a S CL => h_move S CL hw le (subR rfl) rfl rfl rfl trivial fun a S CL => h_move S CL hw le (subR rfl) rfl rfl rfl trivial fun a S CL => ?_
    obtain ⟨c10, h3⟩ := chk_of h2; clear h2
    refine h_iaddrO S CL hw le (subR rfl) (ty' := yb) rfl .h1 rfl underlying36 T5 c10.1 c10.2 rfl rfl trivial fun g63 a hA3 S CL => h_ldR1 S CL hw le (subR rfl) (ty' := yb) (i := y22) (off := 0) (v := (.int .u8 (rd (y1.set (Int.toNat (wr .i64 (((y1).length : Int) - 1))) (bits .or .u8 (rd y1 (wr .i64 (((y1).length : Int) - 1))) 128)) y22))) rfl hA3 .h1 T5 c10.1 c10.2 rfl (fun _ => rfl) rfl rfl trivial fun a S CL => h_conv S CL hw le (subR rfl) rfl rfl underlying51 rfl rfl trivial fun a S CL => h_move S CL hw le (subR rfl) rfl rfl rfl trivial fun a S CL => h_rem S CL hw le (subR rfl) rfl rfl (by decide) rfl rfl trivial fun a S CL => h_bin S CL hw le (subR rfl) rfl rfl rfl rfl rfl trivial fun a S CL => ?_
    obtain ⟨c11, h4⟩ := chk_of h3; clear h3
    refine h_shl S CL hw le (subR rfl) (e := (min (Int.toNat (wr .i64 (8 * (Int.tmod (Int.tmod y22 136) 8)))) 64)) rfl rfl c11 rfl rfl rfl trivial fun a S CL => h_bin S CL hw le (subR rfl) rfl rfl rfl rfl rfl trivial fun a S CL => h_iaddr S CL hw le (subR rfl) rfl rfl underlying80 T51 c9.1 c9.2 (mul1 _ _) rfl rfl trivial fun a S CL => h_run' S rfl trivial (s_storei S (i := (wr .i64 (Int.tdiv (Int.tmod y22 136) 8))) rfl rfl .h T51 .h rfl c9.1 c9.2 fun w S => ?_)
    refine h_back ⟨fun h => (nomatch h), ?_⟩
    refine h_done ?_; clear CL hw le
    refine x_thenN (c_region (s_move S rfl rfl fun a S => s_bin S rfl rfl rfl rfl fun a S => c_end ?_))
    rcases ite_of h4 with ⟨c12, h5⟩ | ⟨c12, h5⟩
    ·refine c_condT S rfl c12 (c_region' (s_loada S rfl .h T80 (s' := [.ints .u64 (y23.set (Int.toNat (wr .i64 (Int.tdiv (Int.tmod y22 136) 8))) (bits .xor .u64 (rd y23 (wr .i64 (Int.tdiv (Int.tmod y22 136) 8))) (shl .u64 (wr .u64 (rd (y1.set (Int.toNat (wr .i64 (((y1).length : Int) - 1))) (bits .or .u8 (rd y1 (wr .i64 (((y1).length : Int) - 1))) 128)) y22)) (min (Int.toNat (wr .i64 (8 * (Int.tmod (Int.tmod y22 136) 8)))) 64)))) 25]) rfl rfl fun a S => bindX h5 fun t1 et1 h6 => s_callP S _ N35 rfl rfl (smithyref05_Turn.ok k (y23.set (Int.toNat (wr .i64 (Int.tdiv (Int.tmod y22 136) 8))) (bits .xor .u64 (rd y23 (wr .i64 (Int.tdiv (Int.tmod y22 136) 8))) (shl .u64 (wr .u64 (rd (y1.set (Int.toNat (wr .i64 (((y1).length : Int) - 1))) (bits .or .u8 (rd y1 (wr .i64 (((y1).length : Int) - 1))) 128)) y22)) (min (Int.toNat (wr .i64 (8 * (Int.tmod (Int.tmod y22 136) 8)))) 64)))) t1 et1 _ _) fun ch1 m le1 a w S => s_store S rfl rfl rfl (s' := [.ints .u64 t1 25]) .h T80 rfl rfl fun w S => c_end' (x_blockN (x_thenN ?_))))
     exact j4 _ g58 g59 t1 a w (S.sb rfl (.c0 (.c0 (.c0 .n)))) h6
    ·refine c_condF S rfl c12 (wp_skip (x_blockN (x_thenN ?_)))
     exact j4 _ g58 g59 (y23.set (Int.toNat (wr .i64 (Int.tdiv (Int.tmod y22 136) 8))) (bits .xor .u64 (rd y23 (wr .i64 (Int.tdiv (Int.tmod y22 136) 8))) (shl .u64 (wr .u64 (rd (y1.set (Int.toNat (wr .i64 (((y1).length : Int) - 1))) (bits .or .u8 (rd y1 (wr .i64 (((y1).length : Int) - 1))) 128)) y22)) (min (Int.toNat (wr .i64 (8 * (Int.tmod (Int.tmod y22 136) 8)))) 64)))) a w (S.sb rfl (.c0 (.c0 (.c0 .n)))) h5
   ·refine c_condF S rfl c8 (wp_exit (x_thenX (x_thenX (x_blockX (x_thenN ?_)))))
    exact j2 _ g58 g59 y23 a w (S.sb rfl (.c0 (.c1 .n))) h1
 refine wp_block ?_
 refine c_loop (fun q3 a w => ∃ m A4 nn3 cp13 y26 g68, St 83 m b0 [(3, (.s A4 nn3 cp13)), (2, (.p g68))] [Res.row yb 5 A4 nn3 cp13 y26, Res.cells g68 50 [.b32 z32]] a w ∧ smithyref05_Sum.l3 k q3 y26 = some r) ?_ ?_ (k := k) ⟨_, A2, ((0 + ((x1).length)) + 1), cp2, ((([] : List Int) ++ x1) ++ [1]), g1, (S.sb rfl (.c1 (.c1 .n))), h2⟩
 ·rintro a w ⟨m, A4, nn3, cp13, y26, g68, S, h0⟩
  exact (nomatch (show (none : Option ((List Int))) = some r from h0))
 ·clear S h2
  rintro q3 a w ⟨m, A4, nn3, cp13, y26, g68, S, h0⟩
  replace h0 : smithyref05_Sum.b3 k (smithyref05_Sum.l3 k q3) y26 = some r := h0
  delta smithyref05_Sum.b3 at h0
  refine wp_seq (c_region (s_move S rfl rfl fun a S => s_lenO S rfl .h underlying36 rfl fun a S => s_rem S rfl rfl (by decide) rfl fun a S => s_bin S rfl rfl rfl rfl fun a S => c_end ?_))
  rcases ite_of h0 with ⟨c13, h1⟩ | ⟨c13, h1⟩
  ·refine c_condT S rfl c13 (wp_skip (x_thenN (wp_block (c_region' (s_move S rfl rfl fun a S => s_bldSl S (ty' := yb) (ds := [(0, (.v (.int .u8 0)))]) (z := 0) (c0 := ()) (ys := [0]) (cs := [()]) rfl underlying36 J5 Z5 rfl ⟨rfl, trivial⟩ rfl rfl rfl rfl rfl rfl fun g69 a w S => ?_)))))
   obtain ⟨c14, h2⟩ := chk_of h1; clear h1
   refine s_app S (k2 := 1) (ys := [0]) rfl (fun _ _ => .h1) rfl rfl (S.holds _ (Pull.mem .h).1).1 (Res.row.src (S.holds _ (Pull.mem .h).1)) underlying36 J5 c14 rfl fun A5 cp14 a w S => s_assign S rfl rfl fun a S => c_end' (x_blockN (x_thenN ?_))
   exact ⟨_, A5, (nn3 + 1), cp14, (y26 ++ [0]), g68, (S.sb rfl (.c1 (.c1 .n))), h2⟩
  ·refine c_condF S rfl c13 (wp_exit (x_thenX (x_thenX (x_blockX (x_thenN ?_)))))
   exact j1 _ A4 nn3 cp13 y26 g68 a w (S.sb rfl (.c0 (.c0 .n))) h1
abbrev smithyref29_Places.Ty : Type := (List Int) → Option ((List Int))
def smithyref29_Places.Ctr (s : smithyref29_Places.Ty) : Prop := ∀ (x1 : List Int) (ch_0_0 : Option Addr) (ch_0_1 : Nat) (r : (List Int)), Ct (C := ((Option Addr) × Nat × Nat)) Tryd.prog 17 (s x1 = some r) [] [(.q yb ch_0_0 ch_0_1 x1)] (fun ch => (.s ch.1 ch.2.1 ch.2.2)) fun ch => [Res.row yi 3 ch.1 ch.2.1 ch.2.2 r]
def smithyref29_Places.j1 (y1 : List Int) : Option ((List Int)) := some y1
def smithyref29_Places.j2 (t1 : (List Int)) (y4 : Int) (y5 : List Int) (rec1 : Int → (List Int) → Option ((List Int))) : Option ((List Int)) := rec1 (wr .i64 (y4 + 1)) (y5 ++ [Int.tmod (wr .i64 ((wr .i64 (256 * (wr .i64 (rd t1 (wr .i64 (2 * y4)))))) + (wr .i64 (rd t1 (wr .i64 ((wr .i64 (2 * y4)) + 1)))))) 2048])
def smithyref29_Places.b1 (t1 : (List Int)) (rec1 : Int → (List Int) → Option ((List Int))) (y4 : Int) (y5 : List Int) : Option ((List Int)) := if (decide (y4 < 3)) = true then (if (0 : Int) ≤ (wr .i64 (2 * y4)) ∧ (wr .i64 (2 * y4)) < 32 then (if (0 : Int) ≤ (wr .i64 ((wr .i64 (2 * y4)) + 1)) ∧ (wr .i64 ((wr .i64 (2 * y4)) + 1)) < 32 then (if ((y5).length + ([Int.tmod (wr .i64 ((wr .i64 (256 * (wr .i64 (rd t1 (wr .i64 (2 * y4)))))) + (wr .i64 (rd t1 (wr .i64 ((wr .i64 (2 * y4)) + 1)))))) 2048]).length) * 8 ≤ 140737488355328 then (smithyref29_Places.j2 t1 y4 y5 rec1) else none) else none) else none) else (smithyref29_Places.j1 y5)
def smithyref29_Places.l1 (t1 : (List Int)) : Nat → Int → (List Int) → Option ((List Int))
  | 0, _, _ => none
  | q + 1, y4, y5 => smithyref29_Places.b1 t1 (smithyref29_Places.l1 t1 q) y4 y5
def smithyref29_Places.f (k : Nat) (x1 : List Int) : Option ((List Int)) := (smithyref05_Sum.f k x1).bind fun t1 => (smithyref29_Places.l1 t1 k 0 ([] : List Int))
theorem smithyref29_Places.ok (k : Nat) : smithyref29_Places.Ctr (smithyref29_Places.f k) := by
 intro x1 ch_0_0 ch_0_1 r h0 mi w0 ok hm
 delta smithyref29_Places.f at h0
 refine c_enterZ (n := 31) ok hm func17 rfl rfl rfl fun b0 hb a S => c_region (s_assign S rfl rfl fun a S => c_end (c_region (s_move S rfl rfl fun a S => bindX h0 fun t1 et1 h1 => s_callP S _ N29 rfl rfl (smithyref05_Sum.ok k x1 ch_0_0 ch_0_1 t1 et1 _ _) fun ch1 m le1 a w S => s_alloc S Z50 rfl ⟨rfl, trivial⟩ rfl fun g1 a w S => s_store S rfl rfl rfl (s' := [.b32 t1]) .h T50 rfl rfl fun w S => c_end (c_region (s_bldSl S (ty' := yi) (ds := []) (z := 0) (c0 := ()) (ys := ([] : List Int)) (cs := []) rfl underlying44 J3 Z3 rfl ⟨rfl, trivial⟩ rfl rfl rfl rfl rfl rfl fun g2 a w S => s_assign S rfl rfl fun a S => c_end (wp_seq_k fun K1 hK1 => ?_))))))
 have j1 : ∀ m A1 nn1 cp1 y1 a w, St 31 m b0 [(4, (.s A1 nn1 cp1))] [Res.row yi 3 A1 nn1 cp1 y1] a w → smithyref29_Places.j1 y1 = some r → K1 a w := by
  intro m A1 nn1 cp1 y1 a w S h0
  delta smithyref29_Places.j1 at h0
  refine hK1 a w (c_region (s_move S rfl rfl fun a S => s_assign S rfl rfl fun a S => c_end (wp_ret ?_)))
  obtain rfl := Option.some.inj h0
  exact b_ret1 (d := (.s A1 nn1 cp1)) S rfl rfl fun ok => S.retX (Hx := []) hb _ _ ((A1, nn1, cp1) : (Option Addr) × Nat × Nat) (.c0 .n) ok
 refine c_region (s_assign S rfl rfl fun a S => c_end (wp_block ?_))
 refine c_loop (fun q1 a w => ∃ m y4 A2 nn3 cp7 y5 g16, St 31 m b0 [(5, (.i y4)), (4, (.s A2 nn3 cp7)), (3, (.p g16))] [Res.row yi 3 A2 nn3 cp7 y5, Res.cells g16 50 [.b32 t1]] a w ∧ smithyref29_Places.l1 t1 q1 y4 y5 = some r) ?_ ?_ (k := k) ⟨_, 0, (ad g2), 0, 0, ([] : List Int), g1, (S.sb rfl (.c0 (.c0 .n))), h1⟩
 ·rintro a w ⟨m, y4, A2, nn3, cp7, y5, g16, S, h0⟩
  exact (nomatch (show (none : Option ((List Int))) = some r from h0))
 ·clear S h1
  rintro q1 a w ⟨m, y4, A2, nn3, cp7, y5, g16, S, h0⟩
  replace h0 : smithyref29_Places.b1 t1 (smithyref29_Places.l1 t1 q1) y4 y5 = some r := h0
  delta smithyref29_Places.b1 at h0
  refine wp_seq (c_region (s_move S rfl rfl fun a S => s_bin S rfl rfl rfl rfl fun a S => c_end ?_))
  rcases ite_of h0 with ⟨c1, h1⟩ | ⟨c1, h1⟩
  ·refine c_condT S rfl c1 (wp_skip (x_thenN (wp_seq_k fun K2 hK2 => ?_)))
   have j2 : ∀ m A3 cp9 g18 a w, St 31 m b0 [(4, (.s A3 (nn3 + 1) cp9)), (5, (.i y4)), (3, (.p g18))] [Res.row yi 3 A3 (nn3 + 1) cp9 (y5 ++ [Int.tmod (wr .i64 ((wr .i64 (256 * (wr .i64 (rd t1 (wr .i64 (2 * y4)))))) + (wr .i64 (rd t1 (wr .i64 ((wr .i64 (2 * y4)) + 1)))))) 2048]), Res.cells g18 50 [.b32 t1]] a w → smithyref29_Places.j2 t1 y4 y5 (smithyref29_Places.l1 t1 q1) = some r → K2 a w := by
    intro m A3 cp9 g18 a w S h0
    delta smithyref29_Places.j2 at h0
    refine hK2 a w (c_region' (s_move S rfl rfl fun a S => s_bin S rfl rfl rfl rfl fun a S => s_assign S rfl rfl fun a S => c_end' (x_thenN ?_)))
    exact ⟨_, (wr .i64 (y4 + 1)), A3, (nn3 + 1), cp9, (y5 ++ [Int.tmod (wr .i64 ((wr .i64 (256 * (wr .i64 (rd t1 (wr .i64 (2 * y4)))))) + (wr .i64 (rd t1 (wr .i64 ((wr .i64 (2 * y4)) + 1)))))) 2048]), g18, (S.sb rfl (.c0 (.c0 .n))), h0⟩
   refine wp_block (c_heldS S (.take 1 (.take 2 (.take 3 (.take 4 (.take 5 (.take 6 (.take 7 (.take 8 (.take 9 (.take 10 (.take 11 (.take 12 (.take 13 (.take 14 (.alts (.run 0 true (.alts (.run 15 true (.alts (.run 16 true (.take 17 .done) .nil)) .nil)) (.run 15 true (.alts (.run 0 true (.alts (.run 16 true (.take 17 .done) .nil)) .nil)) .nil))))))))))))))))) 18 [Res.cells g16 50 [.b32 t1]] (.c1 .n) ⟨Res.stay_cells, trivial⟩ [(5, (.i y4)), (3, (.p g16))] (subR rfl) (by kernel_rfl) (by kernel_rfl) fun w S CL hw le => ?_)
   refine h_move S CL hw le (subR rfl) rfl rfl rfl trivial fun a S CL => h_bin S CL hw le (subR rfl) rfl rfl rfl rfl rfl trivial fun a S CL => ?_
   obtain ⟨c2, h2⟩ := chk_of h1; clear h1
   refine h_iaddr S CL hw le (subR rfl) rfl rfl underlying50 T5 c2.1 c2.2 (mul1 _ _) rfl rfl trivial fun a S CL => h_loadi S CL hw le (subR rfl) (i := (wr .i64 (2 * y4))) rfl .h T5 .h rfl c2.1 c2.2 rfl rfl trivial fun a S CL => h_conv S CL hw le (subR rfl) rfl rfl underlying3 rfl rfl trivial fun a S CL => h_bin S CL hw le (subR rfl) rfl rfl rfl rfl rfl trivial fun a S CL => h_move S CL hw le (subR rfl) rfl rfl rfl trivial fun a S CL => h_bin S CL hw le (subR rfl) rfl rfl rfl rfl rfl trivial fun a S CL => h_bin S CL hw le (subR rfl) rfl rfl rfl rfl rfl trivial fun a S CL => ?_
   obtain ⟨c3, h3⟩ := chk_of h2; clear h2
   refine h_iaddr S CL hw le (subR rfl) rfl rfl underlying50 T5 c3.1 c3.2 (mul1 _ _) rfl rfl trivial fun a S CL => h_loadi S CL hw le (subR rfl) (i := (wr .i64 ((wr .i64 (2 * y4)) + 1))) rfl .h T5 .h rfl c3.1 c3.2 rfl rfl trivial fun a S CL => h_conv S CL hw le (subR rfl) rfl rfl underlying3 rfl rfl trivial fun a S CL => h_bin S CL hw le (subR rfl) rfl rfl rfl rfl rfl trivial fun a S CL => h_rem S CL hw le (subR rfl) rfl rfl (by decide) rfl rfl trivial fun a S CL => ?_
   obtain ⟨c4, h4⟩ := chk_of h3; clear h3
   refine h_alts ?_
   refine h_runO S rfl trivial ?_ ?_
   ·refine s_move S rfl rfl fun a S => CL.bk hw S (.c1 .n) le fun hw => h_run' S rfl trivial (s_bldSl S (ty' := yi) (ds := [(0, (.i (Int.tmod (wr .i64 ((wr .i64 (256 * (wr .i64 (rd t1 (wr .i64 (2 * y4)))))) + (wr .i64 (rd t1 (wr .i64 ((wr .i64 (2 * y4)) + 1)))))) 2048)))]) (z := 0) (c0 := ()) (ys := [Int.tmod (wr .i64 ((wr .i64 (256 * (wr .i64 (rd t1 (wr .i64 (2 * y4)))))) + (wr .i64 (rd t1 (wr .i64 ((wr .i64 (2 * y4)) + 1)))))) 2048]) (cs := [()]) rfl underlying44 J3 Z3 rfl ⟨rfl, trivial⟩ rfl rfl rfl rfl rfl rfl fun g19 a w S => CL.bk hw S (.c2 .n) le fun hw => h_run' S rfl trivial (s_app S (k2 := 1) (ys := [Int.tmod (wr .i64 ((wr .i64 (256 * (wr .i64 (rd t1 (wr .i64 (2 * y4)))))) + (wr .i64 (rd t1 (wr .i64 ((wr .i64 (2 * y4)) + 1)))))) 2048]) rfl (fun _ _ => .h1) rfl rfl (S.holds _ (Pull.mem .h).1).1 (Res.row.src (S.holds _ (Pull.mem .h).1)) underlying44 J3 c4 rfl fun A4 cp10 a w S => CL.bk hw S (.c2 .n) le fun hw => ?_))
    replace CL := CL.add (t := 29) (d := (.s A4 (nn3 + 1) cp10)) S rfl rfl
    refine h_assign S CL hw le (subR rfl) rfl rfl rfl trivial fun a S CL => ?_
    refine h_done ?_; clear CL hw le
    refine x_blockN (x_thenN ?_)
    exact j2 _ A4 cp10 g16 a w (S.sb rfl (.c1 (.c1 .n))) h4
   refine h_runO S rfl trivial ?_ ?_
   ·refine s_bldSl S (ty' := yi) (ds := [(0, (.i (Int.tmod (wr .i64 ((wr .i64 (256 * (wr .i64 (rd t1 (wr .i64 (2 * y4)))))) + (wr .i64 (rd t1 (wr .i64 ((wr .i64 (2 * y4)) + 1)))))) 2048)))]) (z := 0) (c0 := ()) (ys := [Int.tmod (wr .i64 ((wr .i64 (256 * (wr .i64 (rd t1 (wr .i64 (2 * y4)))))) + (wr .i64 (rd t1 (wr .i64 ((wr .i64 (2 * y4)) + 1)))))) 2048]) (cs := [()]) rfl underlying44 J3 Z3 rfl ⟨rfl, trivial⟩ rfl rfl rfl rfl rfl rfl fun g19 a w S => CL.bk hw S (.c2 .n) le fun hw => h_run' S rfl trivial (s_move S rfl rfl fun a S => CL.bk hw S (.c2 .n) le fun hw => h_run' S rfl trivial (s_app S (k2 := 1) (ys := [Int.tmod (wr .i64 ((wr .i64 (256 * (wr .i64 (rd t1 (wr .i64 (2 * y4)))))) + (wr .i64 (rd t1 (wr .i64 ((wr .i64 (2 * y4)) + 1)))))) 2048]) rfl (fun _ _ => .h1) rfl rfl (S.holds _ (Pull.mem .h).1).1 (Res.row.src (S.holds _ (Pull.mem .h).1)) underlying44 J3 c4 rfl fun A4 cp10 a w S => CL.bk hw S (.c2 .n) le fun hw => ?_))
    replace CL := CL.add (t := 29) (d := (.s A4 (nn3 + 1) cp10)) S rfl rfl
    refine h_assign S CL hw le (subR rfl) rfl rfl rfl trivial fun a S CL => ?_
    refine h_done ?_; clear CL hw le
    refine x_blockN (x_thenN ?_)
    exact j2 _ A4 cp10 g16 a w (S.sb rfl (.c1 (.c1 .n))) h4
   exact h_nil
  ·refine c_condF S rfl c1 (wp_exit (x_thenX (x_thenX (x_blockX (x_thenN ?_)))))
   exact j1 _ A2 nn3 cp7 y5 a w (S.sub ⟨rfl, trivial⟩ (.c0 .n)) h1
end
end GW
