import Derived.Test.YtjgdpkmbnooemaaDoorProg
import Derived.Test.YtjgdpkmbnooemaaDoorGB
set_option linter.unusedVariables false
set_option linter.unusedSimpArgs false
set_option maxRecDepth 10000
set_option maxHeartbeats 4000000
namespace GW
open Go Go.RowKit Go.Proofs Go.Proofs.Tryd
noncomputable section
abbrev fe9_.Ty : Type := (List Int) → Option ((List Int))
def fe9_.Ctr (s : fe9_.Ty) : Prop := ∀ (x1 : List Int) (r : (List Int)), CtG (C := Unit) Tryd.prog Glob 80 (s x1 = some r) [] [(.agg [.ints .u64 x1 25])] (fun _ => (.agg [.ints .u64 r 25])) fun _ => []
def fe9_.j4 (y38 : List Int) : Option ((List Int)) := some y38
def fe9_.j5 (y51 : Int) (rec1 : Int → (List Int) → Option ((List Int))) (y57 : List Int) : Option ((List Int)) := rec1 (wr .i64 (y51 + 5)) y57
def fe9_.b2 (y51 : Int) (y52 : List Int) (rec1 : Int → (List Int) → Option ((List Int))) (rec2 : Int → (List Int) → Option ((List Int))) (y60 : Int) (y61 : List Int) : Option ((List Int)) := if (decide (y60 < 5)) = true then (if (0 : Int) ≤ y60 ∧ y60 < 5 then (if (0 : Int) ≤ (Int.tmod (wr .i64 (y60 + 1)) 5) ∧ (Int.tmod (wr .i64 (y60 + 1)) 5) < 5 then (if (0 : Int) ≤ (Int.tmod (wr .i64 (y60 + 2)) 5) ∧ (Int.tmod (wr .i64 (y60 + 2)) 5) < 5 then (if (0 : Int) ≤ (wr .i64 (y60 + y51)) ∧ (wr .i64 (y60 + y51)) < 25 then (rec2 (wr .i64 (y60 + 1)) (y61.set (Int.toNat (wr .i64 (y60 + y51))) (bits .xor .u64 (rd (((y52).drop (Int.toNat y51)).take 5) y60) (bits .and .u64 (bnot .u64 (rd (((y52).drop (Int.toNat y51)).take 5) (Int.tmod (wr .i64 (y60 + 1)) 5))) (rd (((y52).drop (Int.toNat y51)).take 5) (Int.tmod (wr .i64 (y60 + 2)) 5)))))) else none) else none) else none) else none) else (fe9_.j5 y51 rec1 y61)
def fe9_.l2 (y51 : Int) (y52 : List Int) (rec1 : Int → (List Int) → Option ((List Int))) : Nat → Int → (List Int) → Option ((List Int))
  | 0, _, _ => none
  | q + 1, y60, y61 => fe9_.b2 y51 y52 rec1 (fe9_.l2 y51 y52 rec1 q) y60 y61
def fe9_.b1 (k : Nat) (rec1 : Int → (List Int) → Option ((List Int))) (y51 : Int) (y52 : List Int) : Option ((List Int)) := if (decide (y51 < 25)) = true then (if (0 : Int) ≤ y51 ∧ (y51 : Int) ≤ (wr .i64 (y51 + 5)) ∧ (wr .i64 (y51 + 5)) ≤ ((25 : Nat) : Int) then (if 5 ≤ (Int.toNat (wr .i64 (y51 + 5)) - Int.toNat y51) then (fe9_.l2 y51 y52 rec1 k 0 y52) else none) else none) else (fe9_.j4 y52)
def fe9_.l1 (k : Nat) : Nat → Int → (List Int) → Option ((List Int))
  | 0, _, _ => none
  | q + 1, y51, y52 => fe9_.b1 k (fe9_.l1 k q) y51 y52
def fe9_.j3 (k : Nat) (y23 : List Int) : Option ((List Int)) := fe9_.l1 k k 0 y23
def fe9_.b3 (k : Nat) (rec3 : Int → Int → (List Int) → Option ((List Int))) (y65 : Int) (y66 : Int) (y67 : List Int) : Option ((List Int)) := if (decide (y65 < 24)) = true then (if (0 : Int) ≤ y65 ∧ y65 < 24 then (if (0 : Int) ≤ (rd tbl_keccak_places y65) ∧ (rd tbl_keccak_places y65) < 25 then ((fb6_.f y66 (rd tbl_keccak_turns y65)).bind fun t1 => (rec3 (wr .i64 (y65 + 1)) (rd y67 (rd tbl_keccak_places y65)) (y67.set (Int.toNat (rd tbl_keccak_places y65)) t1))) else none) else none) else (fe9_.j3 k y67)
def fe9_.l3 (k : Nat) : Nat → Int → Int → (List Int) → Option ((List Int))
  | 0, _, _, _ => none
  | q + 1, y65, y66, y67 => fe9_.b3 k (fe9_.l3 k q) y65 y66 y67
def fe9_.j2 (k : Nat) (y16 : List Int) : Option ((List Int)) := fe9_.l3 k k 0 (rd y16 1) y16
def fe9_.j6 (y80 : Int) (rec4 : Int → (List Int) → Option ((List Int))) (y86 : List Int) : Option ((List Int)) := rec4 (wr .i64 (y80 + 1)) y86
def fe9_.b5 (y1 : List Int) (y80 : Int) (rec4 : Int → (List Int) → Option ((List Int))) (t3 : Int) (rec5 : Int → (List Int) → Option ((List Int))) (y89 : Int) (y90 : List Int) : Option ((List Int)) := if (decide (y89 < 25)) = true then (if (0 : Int) ≤ (wr .i64 (y80 + y89)) ∧ (wr .i64 (y80 + y89)) < 25 then (rec5 (wr .i64 (y89 + 5)) (y90.set (Int.toNat (wr .i64 (y80 + y89))) (bits .xor .u64 (rd y90 (wr .i64 (y80 + y89))) (bits .xor .u64 (rd y1 (Int.tmod (wr .i64 (y80 + 4)) 5)) t3)))) else none) else (fe9_.j6 y80 rec4 y90)
def fe9_.l5 (y1 : List Int) (y80 : Int) (rec4 : Int → (List Int) → Option ((List Int))) (t3 : Int) : Nat → Int → (List Int) → Option ((List Int))
  | 0, _, _ => none
  | q + 1, y89, y90 => fe9_.b5 y1 y80 rec4 t3 (fe9_.l5 y1 y80 rec4 t3 q) y89 y90
def fe9_.b4 (k : Nat) (y1 : List Int) (rec4 : Int → (List Int) → Option ((List Int))) (y80 : Int) (y81 : List Int) : Option ((List Int)) := if (decide (y80 < 5)) = true then (if (0 : Int) ≤ (Int.tmod (wr .i64 (y80 + 4)) 5) ∧ (Int.tmod (wr .i64 (y80 + 4)) 5) < 5 then (if (0 : Int) ≤ (Int.tmod (wr .i64 (y80 + 1)) 5) ∧ (Int.tmod (wr .i64 (y80 + 1)) 5) < 5 then ((fb6_.f (rd y1 (Int.tmod (wr .i64 (y80 + 1)) 5)) 1).bind fun t3 => (fe9_.l5 y1 y80 rec4 t3 k 0 y81)) else none) else none) else (fe9_.j2 k y81)
def fe9_.l4 (k : Nat) (y1 : List Int) : Nat → Int → (List Int) → Option ((List Int))
  | 0, _, _ => none
  | q + 1, y80, y81 => fe9_.b4 k y1 (fe9_.l4 k y1 q) y80 y81
def fe9_.j1 (k : Nat) (x1 : List Int) (y1 : List Int) : Option ((List Int)) := fe9_.l4 k y1 k 0 x1
def fe9_.b6 (k : Nat) (x1 : List Int) (rec6 : Int → (List Int) → Option ((List Int))) (y93 : Int) (y94 : List Int) : Option ((List Int)) := if (decide (y93 < 5)) = true then (if (0 : Int) ≤ y93 ∧ y93 < 25 then (if (0 : Int) ≤ (wr .i64 (y93 + 5)) ∧ (wr .i64 (y93 + 5)) < 25 then (if (0 : Int) ≤ (wr .i64 (y93 + 10)) ∧ (wr .i64 (y93 + 10)) < 25 then (if (0 : Int) ≤ (wr .i64 (y93 + 15)) ∧ (wr .i64 (y93 + 15)) < 25 then (if (0 : Int) ≤ (wr .i64 (y93 + 20)) ∧ (wr .i64 (y93 + 20)) < 25 then (if (0 : Int) ≤ y93 ∧ y93 < 5 then (rec6 (wr .i64 (y93 + 1)) (y94.set (Int.toNat y93) (bits .xor .u64 (bits .xor .u64 (bits .xor .u64 (bits .xor .u64 (rd x1 y93) (rd x1 (wr .i64 (y93 + 5)))) (rd x1 (wr .i64 (y93 + 10)))) (rd x1 (wr .i64 (y93 + 15)))) (rd x1 (wr .i64 (y93 + 20)))))) else none) else none) else none) else none) else none) else none) else (fe9_.j1 k x1 y94)
def fe9_.l6 (k : Nat) (x1 : List Int) : Nat → Int → (List Int) → Option ((List Int))
  | 0, _, _ => none
  | q + 1, y93, y94 => fe9_.b6 k x1 (fe9_.l6 k x1 q) y93 y94
def fe9_.f (k : Nat) (x1 : List Int) : Option ((List Int)) := fe9_.l6 k x1 k 0 [0, 0, 0, 0, 0]
theorem fe9_.ok (k : Nat) : fe9_.Ctr (fe9_.f k) := by
 intro x1 r h0 mi w0 G ok hm
 delta fe9_.f at h0
 refine c_enterZ (n := 126) ok hm func80 rfl rfl rfl fun b0 hb a S => ?_
 replace S := S.addfro (g := 2) 138 G.2.2
 replace S := S.addfro (g := 1) 138 G.2.1
 replace S := S.addfro (g := 0) 83 G.1
 refine c_region (s_box S rfl rfl rfl fun g1 a w S => s_alloc S Z57 rfl ⟨rfl, trivial⟩ rfl fun g2 a w S => c_end (c_region (s_alloc S Z119 rfl ⟨rfl, trivial⟩ rfl fun g3 a w S => c_end (wp_seq_k fun K1 hK1 => ?_))))
 have j1 : ∀ m g13 g14 g15 y1 a w, St 126 m b0 [(3, (.p g13)), (2, (.p g14)), (1, (.p g15))] [Res.cells g13 119 [.ints .u64 y1 5], Res.cells g14 57 [.ints .u64 z25 25], Res.cells g15 57 [.ints .u64 x1 25], Res.fro 0 83 [.ints .u64 tbl_keccak_constants 24], Res.fro 1 138 [.ints .i64 tbl_keccak_places 24], Res.fro 2 138 [.ints .i64 tbl_keccak_turns 24]] a w → fe9_.j1 k x1 y1 = some r → K1 a w := by
  intro m g13 g14 g15 y1 a w S h0
  delta fe9_.j1 at h0
  refine hK1 a w (wp_seq_k fun K2 hK2 => ?_)
  have j2 : ∀ m g49 g50 y16 a w, St 126 m b0 [(2, (.p g49)), (1, (.p g50))] [Res.cells g49 57 [.ints .u64 z25 25], Res.cells g50 57 [.ints .u64 y16 25], Res.fro 0 83 [.ints .u64 tbl_keccak_constants 24], Res.fro 1 138 [.ints .i64 tbl_keccak_places 24], Res.fro 2 138 [.ints .i64 tbl_keccak_turns 24]] a w → fe9_.j2 k y16 = some r → K2 a w := by
   intro m g49 g50 y16 a w S h0
   delta fe9_.j2 at h0
   refine hK2 a w (c_region (s_iaddr S (o' := 1) rfl rfl underlying57 T52 (by decide) (by decide) rfl rfl fun a S => s_loadi S (i := 1) rfl .h1 T52 .h rfl (by decide) (by decide) rfl fun a S => s_assign S rfl rfl fun a S => c_end (wp_seq_k fun K3 hK3 => ?_)))
   have j3 : ∀ m g57 g58 y23 a w, St 126 m b0 [(2, (.p g57)), (1, (.p g58))] [Res.cells g57 57 [.ints .u64 z25 25], Res.cells g58 57 [.ints .u64 y23 25], Res.fro 0 83 [.ints .u64 tbl_keccak_constants 24], Res.fro 1 138 [.ints .i64 tbl_keccak_places 24], Res.fro 2 138 [.ints .i64 tbl_keccak_turns 24]] a w → fe9_.j3 k y23 = some r → K3 a w := by
    intro m g57 g58 y23 a w S h0
    delta fe9_.j3 at h0
    refine hK3 a w (wp_seq_k fun K4 hK4 => ?_)
    have j4 : ∀ m g89 g90 y38 a w, St 126 m b0 [(2, (.p g89)), (1, (.p g90))] [Res.cells g89 57 [.ints .u64 z25 25], Res.cells g90 57 [.ints .u64 y38 25], Res.fro 0 83 [.ints .u64 tbl_keccak_constants 24], Res.fro 1 138 [.ints .i64 tbl_keccak_places 24], Res.fro 2 138 [.ints .i64 tbl_keccak_turns 24]] a w → fe9_.j4 y38 = some r → K4 a w := by
     intro m g89 g90 y38 a w S h0
     delta fe9_.j4 at h0
     refine hK4 a w (c_region (s_loada S rfl .h1 T57 (s' := [.ints .u64 y38 25]) rfl rfl fun a S => s_store S rfl rfl rfl (s' := [.ints .u64 y38 25]) .h T57 rfl rfl fun w S => c_end (wp_ret ?_)))
     obtain rfl := Option.some.inj h0
     exact b_ret1 (d := (.agg [.ints .u64 y38 25])) S rfl (resD_cell rfl .h T57 rfl rfl) (S.rt hb)
    refine c_region (s_assign S rfl rfl fun a S => c_end (wp_block ?_))
    refine c_loop (fun q1 a w => ∃ m y51 g119 g120 y52, St 126 m b0 [(12, (.i y51)), (2, (.p g119)), (1, (.p g120))] [Res.cells g119 57 [.ints .u64 z25 25], Res.cells g120 57 [.ints .u64 y52 25], Res.fro 0 83 [.ints .u64 tbl_keccak_constants 24], Res.fro 1 138 [.ints .i64 tbl_keccak_places 24], Res.fro 2 138 [.ints .i64 tbl_keccak_turns 24]] a w ∧ fe9_.l1 k q1 y51 y52 = some r) ?_ ?_ (k := k) ⟨_, 0, g57, g58, y23, (S.sb rfl (.c0 (.c0 (.c0 (.c0 (.c0 .n)))))), h0⟩
    ·rintro a w ⟨m, y51, g119, g120, y52, S, h0⟩
     exact (nomatch (show (none : Option ((List Int))) = some r from h0))
    ·clear S h0
     rintro q1 a w ⟨m, y51, g119, g120, y52, S, h0⟩
     replace h0 : fe9_.b1 k (fe9_.l1 k q1) y51 y52 = some r := h0
     delta fe9_.b1 at h0
     refine wp_seq (c_region (s_move S rfl rfl fun a S => s_bin S rfl rfl rfl rfl fun a S => c_end ?_))
     rcases ite_of h0 with ⟨c1, h1⟩ | ⟨c1, h1⟩
     ·refine c_condT S rfl c1 (wp_skip (x_thenN (wp_seq_k fun K5 hK5 => ?_)))
      have j5 : ∀ m g131 g132 y57 a w, St 126 m b0 [(12, (.i y51)), (2, (.p g131)), (1, (.p g132))] [Res.cells g131 57 [.ints .u64 z25 25], Res.cells g132 57 [.ints .u64 y57 25], Res.fro 0 83 [.ints .u64 tbl_keccak_constants 24], Res.fro 1 138 [.ints .i64 tbl_keccak_places 24], Res.fro 2 138 [.ints .i64 tbl_keccak_turns 24]] a w → fe9_.j5 y51 (fe9_.l1 k q1) y57 = some r → K5 a w := by
       intro m g131 g132 y57 a w S h0
       delta fe9_.j5 at h0
       refine hK5 a w (c_region' (s_move S rfl rfl fun a S => s_bin S rfl rfl rfl rfl fun a S => s_assign S rfl rfl fun a S => c_end' (x_thenN ?_)))
       exact ⟨_, (wr .i64 (y51 + 5)), g131, g132, y57, (S.sb rfl (.c0 (.c0 (.c0 (.c0 (.c0 .n)))))), h0⟩
      refine wp_block (c_region (s_move S rfl rfl fun a S => s_move S rfl rfl fun a S => s_bin S rfl rfl rfl rfl fun a S => ?_))
      obtain ⟨c2, h2⟩ := chk_of h1; clear h1
      refine s_sliceA S (i := y51) (j := (wr .i64 (y51 + 5))) (o' := if 25 = Int.toNat y51 then 0 else 0 + Int.toNat y51 * 1) (len := Int.toNat (wr .i64 (y51 + 5)) - Int.toNat y51) (cap := 25 - Int.toNat y51) rfl underlying57 T52 (.inr ⟨_, _, rfl, rfl⟩) (.inr ⟨_, _, rfl, rfl⟩) c2 rfl rfl rfl rfl fun a S => ?_
      obtain ⟨c3, h3⟩ := chk_of h2; clear h2
      refine s_arrp S rfl underlying119 c3 rfl fun a S => s_ldInts S (lo := (Int.toNat y51)) (ys := ((y52).drop (Int.toNat y51)).take 5) rfl .h1 T119 .h (ho_rng c2 c3) (by have h := c2; have h' := c3; omega) rfl rfl fun a S => s_alloc S Z119 rfl ⟨rfl, trivial⟩ rfl fun g133 a w S => s_store S rfl rfl rfl (s' := [.ints .u64 (((y52).drop (Int.toNat y51)).take 5) 5]) .h T119 rfl rfl fun w S => c_end (c_region (s_move S rfl rfl fun a S => c_end (wp_block ?_)))
      refine c_loop (fun q2 a w => ∃ m y60 g140 g141 g142 y61, St 126 m b0 [(101, (.i y60)), (13, (.p g140)), (12, (.i y51)), (2, (.p g141)), (1, (.p g142))] [Res.cells g140 119 [.ints .u64 (((y52).drop (Int.toNat y51)).take 5) 5], Res.cells g141 57 [.ints .u64 z25 25], Res.cells g142 57 [.ints .u64 y61 25], Res.fro 0 83 [.ints .u64 tbl_keccak_constants 24], Res.fro 1 138 [.ints .i64 tbl_keccak_places 24], Res.fro 2 138 [.ints .i64 tbl_keccak_turns 24]] a w ∧ fe9_.l2 y51 y52 (fe9_.l1 k q1) q2 y60 y61 = some r) ?_ ?_ (k := k) ⟨_, 0, g133, g119, g120, y52, (S.sb rfl (.c0 (.c0 (.c0 (.c0 (.c0 (.c0 .n))))))), h3⟩
      ·rintro a w ⟨m, y60, g140, g141, g142, y61, S, h0⟩
       exact (nomatch (show (none : Option ((List Int))) = some r from h0))
      ·clear S h3
       rintro q2 a w ⟨m, y60, g140, g141, g142, y61, S, h0⟩
       replace h0 : fe9_.b2 y51 y52 (fe9_.l1 k q1) (fe9_.l2 y51 y52 (fe9_.l1 k q1) q2) y60 y61 = some r := h0
       delta fe9_.b2 at h0
       refine c_region (s_bin S rfl rfl rfl rfl fun a S => c_end (wp_seq ?_))
       rcases ite_of h0 with ⟨c4, h1⟩ | ⟨c4, h1⟩
       ·refine c_condT S rfl c4 (wp_skip (x_thenN (wp_seq (wp_block (c_region (s_move S rfl rfl fun a S => s_assign S rfl rfl fun a S => c_end (c_heldS S (.take 0 (.take 1 (.take 2 (.take 3 (.take 4 (.take 5 (.take 6 (.take 7 (.take 8 (.take 9 (.take 10 (.take 11 (.take 12 (.take 13 (.take 14 (.take 15 (.take 16 (.take 17 (.take 18 (.take 19 (.alts (.run 20 false .done .nil)))))))))))))))))))))) 20 [Res.cells g140 119 [.ints .u64 (((y52).drop (Int.toNat y51)).take 5) 5], Res.cells g141 57 [.ints .u64 z25 25], Res.cells g142 57 [.ints .u64 y61 25], Res.fro 0 83 [.ints .u64 tbl_keccak_constants 24], Res.fro 1 138 [.ints .i64 tbl_keccak_places 24], Res.fro 2 138 [.ints .i64 tbl_keccak_turns 24]] (.c0 (.c0 (.c0 (.c0 (.c0 (.c0 .n)))))) ⟨Res.stay_cells, Res.stay_cells, Res.stay_cells, Res.stay_fro, Res.stay_fro, Res.stay_fro, trivial⟩ [(14, (.i y60)), (13, (.p g140)), (12, (.i y51)), (1, (.p g142))] (subR rfl) (by kernel_rfl) (by kernel_rfl) fun w S CL hw le => ?_)))))))
        refine h_move S CL hw le (subR rfl) rfl rfl rfl trivial fun a S CL => h_move S CL hw le (subR rfl) rfl rfl rfl trivial fun a S CL => h_bin S CL hw le (subR rfl) rfl rfl rfl rfl rfl trivial fun a S CL => h_move S CL hw le (subR rfl) rfl rfl rfl trivial fun a S CL => ?_
        obtain ⟨c5, h2⟩ := chk_of h1; clear h1
        refine h_iaddr S CL hw le (subR rfl) rfl rfl underlying119 T52 c5.1 c5.2 (mul1 _ _) rfl rfl trivial fun a S CL => h_loadi S CL hw le (subR rfl) (i := y60) rfl .h T52 .h rfl c5.1 c5.2 rfl rfl trivial fun a S CL => h_move S CL hw le (subR rfl) rfl rfl rfl trivial fun a S CL => h_bin S CL hw le (subR rfl) rfl rfl rfl rfl rfl trivial fun a S CL => h_rem S CL hw le (subR rfl) rfl rfl (by decide) rfl rfl trivial fun a S CL => ?_
        obtain ⟨c6, h3⟩ := chk_of h2; clear h2
        refine h_iaddr S CL hw le (subR rfl) rfl rfl underlying119 T52 c6.1 c6.2 (mul1 _ _) rfl rfl trivial fun a S CL => h_loadi S CL hw le (subR rfl) (i := (Int.tmod (wr .i64 (y60 + 1)) 5)) rfl .h T52 .h rfl c6.1 c6.2 rfl rfl trivial fun a S CL => h_un S CL hw le (subR rfl) rfl rfl rfl rfl trivial fun a S CL => h_move S CL hw le (subR rfl) rfl rfl rfl trivial fun a S CL => h_bin S CL hw le (subR rfl) rfl rfl rfl rfl rfl trivial fun a S CL => h_rem S CL hw le (subR rfl) rfl rfl (by decide) rfl rfl trivial fun a S CL => ?_
        obtain ⟨c7, h4⟩ := chk_of h3; clear h3
        refine h_iaddr S CL hw le (subR rfl) rfl rfl underlying119 T52 c7.1 c7.2 (mul1 _ _) rfl rfl trivial fun a S CL => h_loadi S CL hw le (subR rfl) (i := (Int.tmod (wr .i64 (y60 + 2)) 5)) rfl .h T52 .h rfl c7.1 c7.2 rfl rfl trivial fun a S CL => h_bin S CL hw le (subR rfl) rfl rfl rfl rfl rfl trivial fun a S CL => h_bin S CL hw le (subR rfl) rfl rfl rfl rfl rfl trivial fun a S CL => ?_
        obtain ⟨c8, h5⟩ := chk_of h4; clear h4
        refine h_iaddr S CL hw le (subR rfl) rfl rfl underlying57 T52 c8.1 c8.2 (mul1 _ _) rfl rfl trivial fun a S CL => h_run' S rfl trivial (s_storei S (i := (wr .i64 (y60 + y51))) rfl rfl .h2 T52 .h rfl c8.1 c8.2 fun w S => ?_)
        refine h_back ⟨fun h => (nomatch h), ?_⟩
        refine h_done ?_; clear CL hw le
        refine x_blockN (x_thenN (c_region' (s_bin S rfl rfl rfl rfl fun a S => s_move S rfl rfl fun a S => c_end' (x_thenN ?_))))
        exact ⟨_, (wr .i64 (y60 + 1)), g140, g141, g142, (y61.set (Int.toNat (wr .i64 (y60 + y51))) (bits .xor .u64 (rd (((y52).drop (Int.toNat y51)).take 5) y60) (bits .and .u64 (bnot .u64 (rd (((y52).drop (Int.toNat y51)).take 5) (Int.tmod (wr .i64 (y60 + 1)) 5))) (rd (((y52).drop (Int.toNat y51)).take 5) (Int.tmod (wr .i64 (y60 + 2)) 5))))), (S.sb rfl (.c0 (.c0 (.c0 (.c0 (.c0 (.c0 .n))))))), h5⟩
       ·refine c_condF S rfl c4 (wp_exit (x_thenX (x_thenX (x_blockX (x_blockN (x_thenN ?_))))))
        exact j5 _ g141 g142 y61 a w (S.sb rfl (.c1 (.c1 (.c1 (.c1 (.c1 .n)))))) h1
     ·refine c_condF S rfl c1 (wp_exit (x_thenX (x_thenX (x_blockX (x_thenN ?_)))))
      exact j4 _ g119 g120 y52 a w (S.sb rfl (.c0 (.c0 (.c0 (.c0 (.c0 .n)))))) h1
   refine c_region (s_loadaF S rfl .h3 T138 (s' := [.ints .i64 tbl_keccak_places 24]) rfl rfl fun a S => s_move S rfl rfl fun a S => c_end (wp_block ?_))
   refine c_loop (fun q3 a w => ∃ m y65 y66 g147 g148 y67, St 126 m b0 [(75, (.i y65)), (74, (.agg [.ints .i64 tbl_keccak_places 24])), (8, (.w y66)), (2, (.p g147)), (1, (.p g148))] [Res.cells g147 57 [.ints .u64 z25 25], Res.cells g148 57 [.ints .u64 y67 25], Res.fro 0 83 [.ints .u64 tbl_keccak_constants 24], Res.fro 1 138 [.ints .i64 tbl_keccak_places 24], Res.fro 2 138 [.ints .i64 tbl_keccak_turns 24]] a w ∧ fe9_.l3 k q3 y65 y66 y67 = some r) ?_ ?_ (k := k) ⟨_, 0, (rd y16 1), g49, g50, y16, (S.sb rfl (.c0 (.c0 (.c0 (.c0 (.c0 .n)))))), h0⟩
   ·rintro a w ⟨m, y65, y66, g147, g148, y67, S, h0⟩
    exact (nomatch (show (none : Option ((List Int))) = some r from h0))
   ·clear S h0
    rintro q3 a w ⟨m, y65, y66, g147, g148, y67, S, h0⟩
    replace h0 : fe9_.b3 k (fe9_.l3 k q3) y65 y66 y67 = some r := h0
    delta fe9_.b3 at h0
    refine c_region (s_bin S rfl rfl rfl rfl fun a S => c_end (wp_seq ?_))
    rcases ite_of h0 with ⟨c9, h1⟩ | ⟨c9, h1⟩
    ·refine c_condT S rfl c9 (wp_skip (x_thenN (wp_seq (wp_block (c_region (s_move S rfl rfl fun a S => ?_))))))
     obtain ⟨c10, h2⟩ := chk_of h1; clear h1
     refine s_index S rfl rfl underlying138 T3 c10.1 c10.2 rfl fun a S => s_assign S rfl rfl fun a S => s_assign S rfl rfl fun a S => c_end (c_region (s_move S rfl rfl fun a S => ?_))
     obtain ⟨c11, h3⟩ := chk_of h2; clear h2
     refine s_iaddr S rfl rfl underlying57 T52 c11.1 c11.2 (mul1 _ _) rfl fun a S => s_loadi S (i := (rd tbl_keccak_places y65)) rfl .h1 T52 .h rfl c11.1 c11.2 rfl fun a S => s_assign S rfl rfl fun a S => c_end (c_region (s_move S rfl rfl fun a S => s_move S rfl rfl fun a S => s_move S rfl rfl fun a S => s_iaddr S rfl rfl underlying138 T3 c10.1 c10.2 (mul1 _ _) rfl fun a S => s_loadiF S (i := y65) rfl .h4 T3 .h rfl c10.1 c10.2 rfl fun a S => bindX h3 fun t1 et1 h4 => s_callP S _ N85 rfl rfl (fb6_.ok y66 (rd tbl_keccak_turns y65) t1 et1 _ _) fun ch1 m le1 a w S => s_iaddr S rfl rfl underlying57 T52 c11.1 c11.2 (mul1 _ _) rfl fun a S => s_storei S (i := (rd tbl_keccak_places y65)) rfl rfl .h1 T52 .h rfl c11.1 c11.2 fun w S => c_end (c_region' (s_move S rfl rfl fun a S => s_assign S rfl rfl fun a S => c_end' (x_blockN (x_thenN (c_region' (s_bin S rfl rfl rfl rfl fun a S => s_move S rfl rfl fun a S => c_end' (x_thenN ?_)))))))))
     exact ⟨_, (wr .i64 (y65 + 1)), (rd y67 (rd tbl_keccak_places y65)), g147, g148, (y67.set (Int.toNat (rd tbl_keccak_places y65)) t1), (S.sb rfl (.c0 (.c0 (.c0 (.c0 (.c0 .n)))))), h4⟩
    ·refine c_condF S rfl c9 (wp_exit (x_thenX (x_thenX (x_blockX (x_thenN ?_)))))
     exact j3 _ g147 g148 y67 a w (S.sb rfl (.c0 (.c0 (.c0 (.c0 (.c0 .n)))))) h1
  refine c_region (s_move S rfl rfl fun a S => c_end (wp_block ?_))
  refine c_loop (fun q4 a w => ∃ m y80 g179 g180 g181 y81, St 126 m b0 [(44, (.i y80)), (3, (.p g179)), (2, (.p g180)), (1, (.p g181))] [Res.cells g179 119 [.ints .u64 y1 5], Res.cells g180 57 [.ints .u64 z25 25], Res.cells g181 57 [.ints .u64 y81 25], Res.fro 0 83 [.ints .u64 tbl_keccak_constants 24], Res.fro 1 138 [.ints .i64 tbl_keccak_places 24], Res.fro 2 138 [.ints .i64 tbl_keccak_turns 24]] a w ∧ fe9_.l4 k y1 q4 y80 y81 = some r) ?_ ?_ (k := k) ⟨_, 0, g13, g14, g15, x1, (S.sb rfl (.c0 (.c0 (.c0 (.c0 (.c0 (.c0 .n))))))), h0⟩
  ·rintro a w ⟨m, y80, g179, g180, g181, y81, S, h0⟩
   exact (nomatch (show (none : Option ((List Int))) = some r from h0))
  ·clear S h0
   rintro q4 a w ⟨m, y80, g179, g180, g181, y81, S, h0⟩
   replace h0 : fe9_.b4 k y1 (fe9_.l4 k y1 q4) y80 y81 = some r := h0
   delta fe9_.b4 at h0
   refine c_region (s_bin S rfl rfl rfl rfl fun a S => c_end (wp_seq ?_))
   rcases ite_of h0 with ⟨c12, h1⟩ | ⟨c12, h1⟩
   ·refine c_condT S rfl c12 (wp_skip (x_thenN (wp_seq_k fun K6 hK6 => ?_)))
    have j6 : ∀ m g191 g192 g193 y86 a w, St 126 m b0 [(44, (.i y80)), (3, (.p g191)), (2, (.p g192)), (1, (.p g193))] [Res.cells g191 119 [.ints .u64 y1 5], Res.cells g192 57 [.ints .u64 z25 25], Res.cells g193 57 [.ints .u64 y86 25], Res.fro 0 83 [.ints .u64 tbl_keccak_constants 24], Res.fro 1 138 [.ints .i64 tbl_keccak_places 24], Res.fro 2 138 [.ints .i64 tbl_keccak_turns 24]] a w → fe9_.j6 y80 (fe9_.l4 k y1 q4) y86 = some r → K6 a w := by
     intro m g191 g192 g193 y86 a w S h0
     delta fe9_.j6 at h0
     refine hK6 a w (c_region' (s_bin S rfl rfl rfl rfl fun a S => s_move S rfl rfl fun a S => c_end' (x_thenN ?_)))
     exact ⟨_, (wr .i64 (y80 + 1)), g191, g192, g193, y86, (S.sb rfl (.c0 (.c0 (.c0 (.c0 (.c0 (.c0 .n))))))), h0⟩
    refine wp_block (c_region (s_move S rfl rfl fun a S => s_assign S rfl rfl fun a S => c_end ?_))
    refine wp_seq (c_heldS S (.take 0 (.take 1 (.take 2 (.take 3 (.take 4 (.take 5 (.take 6 (.take 7 (.take 8 (.take 9 (.alts (.run 10 true (.take 11 (.take 12 .done)) .nil)))))))))))) 13 [Res.cells g179 119 [.ints .u64 y1 5], Res.cells g180 57 [.ints .u64 z25 25], Res.cells g181 57 [.ints .u64 y81 25], Res.fro 0 83 [.ints .u64 tbl_keccak_constants 24], Res.fro 1 138 [.ints .i64 tbl_keccak_places 24], Res.fro 2 138 [.ints .i64 tbl_keccak_turns 24]] (.c0 (.c0 (.c0 (.c0 (.c0 (.c0 .n)))))) ⟨Res.stay_cells, Res.stay_cells, Res.stay_cells, Res.stay_fro, Res.stay_fro, Res.stay_fro, trivial⟩ [(5, (.i y80)), (3, (.p g179))] (subR rfl) (by kernel_rfl) (by kernel_rfl) ?_); clear S; intro w S CL hw le
    refine h_move S CL hw le (subR rfl) rfl rfl rfl trivial fun a S CL => h_bin S CL hw le (subR rfl) rfl rfl rfl rfl rfl trivial fun a S CL => h_rem S CL hw le (subR rfl) rfl rfl (by decide) rfl rfl trivial fun a S CL => ?_
    obtain ⟨c13, h2⟩ := chk_of h1; clear h1
    refine h_iaddr S CL hw le (subR rfl) rfl rfl underlying119 T52 c13.1 c13.2 (mul1 _ _) rfl rfl trivial fun a S CL => h_loadi S CL hw le (subR rfl) (i := (Int.tmod (wr .i64 (y80 + 4)) 5)) rfl .h T52 .h rfl c13.1 c13.2 rfl rfl trivial fun a S CL => h_move S CL hw le (subR rfl) rfl rfl rfl trivial fun a S CL => h_bin S CL hw le (subR rfl) rfl rfl rfl rfl rfl trivial fun a S CL => h_rem S CL hw le (subR rfl) rfl rfl (by decide) rfl rfl trivial fun a S CL => ?_
    obtain ⟨c14, h3⟩ := chk_of h2; clear h2
    refine h_iaddr S CL hw le (subR rfl) rfl rfl underlying119 T52 c14.1 c14.2 (mul1 _ _) rfl rfl trivial fun a S CL => h_loadi S CL hw le (subR rfl) (i := (Int.tmod (wr .i64 (y80 + 1)) 5)) rfl .h T52 .h rfl c14.1 c14.2 rfl rfl trivial fun a S CL => h_run' S rfl trivial (bindX h3 fun t3 et3 h4 => s_callP S _ N85 rfl rfl (fb6_.ok (rd y1 (Int.tmod (wr .i64 (y80 + 1)) 5)) 1 t3 et3 _ _) fun ch2 m le1 a w S => ?_)
    replace le := le.trans le1
    refine CL.bk hw S (.c0 (.c0 (.c0 (.c0 (.c0 (.c0 .n)))))) le fun hw => ?_
    replace CL := CL.add (t := 57) (d := (.w t3)) S rfl rfl
    refine h_bin S CL hw le (subR rfl) rfl rfl rfl rfl rfl trivial fun a S CL => h_assign S CL hw le (subR rfl) rfl rfl rfl trivial fun a S CL => ?_
    refine h_done ?_; clear CL hw le
    refine x_thenN (c_region (s_assign S rfl rfl fun a S => c_end (wp_block ?_)))
    refine c_loop (fun q5 a w => ∃ m y89 g200 g201 g202 y90, St 126 m b0 [(7, (.i y89)), (6, (.w (bits .xor .u64 (rd y1 (Int.tmod (wr .i64 (y80 + 4)) 5)) t3))), (5, (.i y80)), (44, (.i y80)), (3, (.p g200)), (2, (.p g201)), (1, (.p g202))] [Res.cells g200 119 [.ints .u64 y1 5], Res.cells g201 57 [.ints .u64 z25 25], Res.cells g202 57 [.ints .u64 y90 25], Res.fro 0 83 [.ints .u64 tbl_keccak_constants 24], Res.fro 1 138 [.ints .i64 tbl_keccak_places 24], Res.fro 2 138 [.ints .i64 tbl_keccak_turns 24]] a w ∧ fe9_.l5 y1 y80 (fe9_.l4 k y1 q4) t3 q5 y89 y90 = some r) ?_ ?_ (k := k) ⟨_, 0, g179, g180, g181, y81, (S.sb rfl (.c0 (.c0 (.c0 (.c0 (.c0 (.c0 .n))))))), h4⟩
    ·rintro a w ⟨m, y89, g200, g201, g202, y90, S, h0⟩
     exact (nomatch (show (none : Option ((List Int))) = some r from h0))
    ·clear S h4
     rintro q5 a w ⟨m, y89, g200, g201, g202, y90, S, h0⟩
     replace h0 : fe9_.b5 y1 y80 (fe9_.l4 k y1 q4) t3 (fe9_.l5 y1 y80 (fe9_.l4 k y1 q4) t3 q5) y89 y90 = some r := h0
     delta fe9_.b5 at h0
     refine wp_seq (c_region (s_move S rfl rfl fun a S => s_bin S rfl rfl rfl rfl fun a S => c_end ?_))
     rcases ite_of h0 with ⟨c15, h1⟩ | ⟨c15, h1⟩
     ·refine c_condT S rfl c15 (wp_skip (x_thenN (wp_seq (wp_block (c_region' (s_move S rfl rfl fun a S => s_move S rfl rfl fun a S => s_bin S rfl rfl rfl rfl fun a S => ?_))))))
      obtain ⟨c16, h2⟩ := chk_of h1; clear h1
      refine s_iaddr S rfl rfl underlying57 T52 c16.1 c16.2 (mul1 _ _) rfl fun a S => s_loadi S (i := (wr .i64 (y80 + y89))) rfl .h2 T52 .h rfl c16.1 c16.2 rfl fun a S => s_move S rfl rfl fun a S => s_bin S rfl rfl rfl rfl fun a S => s_iaddr S rfl rfl underlying57 T52 c16.1 c16.2 (mul1 _ _) rfl fun a S => s_storei S (i := (wr .i64 (y80 + y89))) rfl rfl .h2 T52 .h rfl c16.1 c16.2 fun w S => c_end' (x_blockN (x_thenN (c_region' (s_move S rfl rfl fun a S => s_bin S rfl rfl rfl rfl fun a S => s_assign S rfl rfl fun a S => c_end' (x_thenN ?_)))))
      exact ⟨_, (wr .i64 (y89 + 5)), g200, g201, g202, (y90.set (Int.toNat (wr .i64 (y80 + y89))) (bits .xor .u64 (rd y90 (wr .i64 (y80 + y89))) (bits .xor .u64 (rd y1 (Int.tmod (wr .i64 (y80 + 4)) 5)) t3))), (S.sb rfl (.c0 (.c0 (.c0 (.c0 (.c0 (.c0 .n))))))), h2⟩
     ·refine c_condF S rfl c15 (wp_exit (x_thenX (x_thenX (x_blockX (x_blockN (x_thenN ?_))))))
      exact j6 _ g200 g201 g202 y90 a w (S.sb rfl (.c0 (.c0 (.c0 (.c0 (.c0 (.c0 .n))))))) h1
   ·refine c_condF S rfl c12 (wp_exit (x_thenX (x_thenX (x_blockX (x_thenN ?_)))))
    exact j2 _ g180 g181 y81 a w (S.sb rfl (.c1 (.c1 (.c1 (.c1 (.c1 .n)))))) h1
 refine c_region (s_move S rfl rfl fun a S => c_end (wp_block ?_))
 refine c_loop (fun q6 a w => ∃ m y93 g209 g210 g211 y94, St 126 m b0 [(15, (.i y93)), (3, (.p g209)), (2, (.p g210)), (1, (.p g211))] [Res.cells g209 119 [.ints .u64 y94 5], Res.cells g210 57 [.ints .u64 z25 25], Res.cells g211 57 [.ints .u64 x1 25], Res.fro 0 83 [.ints .u64 tbl_keccak_constants 24], Res.fro 1 138 [.ints .i64 tbl_keccak_places 24], Res.fro 2 138 [.ints .i64 tbl_keccak_turns 24]] a w ∧ fe9_.l6 k x1 q6 y93 y94 = some r) ?_ ?_ (k := k) ⟨_, 0, g3, g2, g1, [0, 0, 0, 0, 0], (S.sb rfl (.c0 (.c0 (.c0 (.c0 (.c0 (.c0 .n))))))), h0⟩
 ·rintro a w ⟨m, y93, g209, g210, g211, y94, S, h0⟩
  exact (nomatch (show (none : Option ((List Int))) = some r from h0))
 ·clear S h0
  rintro q6 a w ⟨m, y93, g209, g210, g211, y94, S, h0⟩
  replace h0 : fe9_.b6 k x1 (fe9_.l6 k x1 q6) y93 y94 = some r := h0
  delta fe9_.b6 at h0
  refine c_region (s_bin S rfl rfl rfl rfl fun a S => c_end (wp_seq ?_))
  rcases ite_of h0 with ⟨c17, h1⟩ | ⟨c17, h1⟩
  ·refine c_condT S rfl c17 (wp_skip (x_thenN (wp_seq (wp_block (c_region (s_move S rfl rfl fun a S => s_assign S rfl rfl fun a S => c_end (c_heldS S (.take 0 (.take 1 (.take 2 (.take 3 (.take 4 (.take 5 (.take 6 (.take 7 (.take 8 (.take 9 (.take 10 (.take 11 (.take 12 (.take 13 (.take 14 (.take 15 (.take 16 (.take 17 (.take 18 (.take 19 (.take 20 (.take 21 (.take 22 (.take 23 (.take 24 (.alts (.run 25 false .done .nil))))))))))))))))))))))))))) 25 [Res.cells g209 119 [.ints .u64 y94 5], Res.cells g210 57 [.ints .u64 z25 25], Res.cells g211 57 [.ints .u64 x1 25], Res.fro 0 83 [.ints .u64 tbl_keccak_constants 24], Res.fro 1 138 [.ints .i64 tbl_keccak_places 24], Res.fro 2 138 [.ints .i64 tbl_keccak_turns 24]] (.c0 (.c0 (.c0 (.c0 (.c0 (.c0 .n)))))) ⟨Res.stay_cells, Res.stay_cells, Res.stay_cells, Res.stay_fro, Res.stay_fro, Res.stay_fro, trivial⟩ [(4, (.i y93)), (3, (.p g209)), (1, (.p g211))] (subR rfl) (by kernel_rfl) (by kernel_rfl) fun w S CL hw le => ?_)))))))
   refine h_move S CL hw le (subR rfl) rfl rfl rfl trivial fun a S CL => h_move S CL hw le (subR rfl) rfl rfl rfl trivial fun a S CL => ?_
   obtain ⟨c18, h2⟩ := chk_of h1; clear h1
   refine h_iaddr S CL hw le (subR rfl) rfl rfl underlying57 T52 c18.1 c18.2 (mul1 _ _) rfl rfl trivial fun a S CL => h_loadi S CL hw le (subR rfl) (i := y93) rfl .h2 T52 .h rfl c18.1 c18.2 rfl rfl trivial fun a S CL => h_move S CL hw le (subR rfl) rfl rfl rfl trivial fun a S CL => h_bin S CL hw le (subR rfl) rfl rfl rfl rfl rfl trivial fun a S CL => ?_
   obtain ⟨c19, h3⟩ := chk_of h2; clear h2
   refine h_iaddr S CL hw le (subR rfl) rfl rfl underlying57 T52 c19.1 c19.2 (mul1 _ _) rfl rfl trivial fun a S CL => h_loadi S CL hw le (subR rfl) (i := (wr .i64 (y93 + 5))) rfl .h2 T52 .h rfl c19.1 c19.2 rfl rfl trivial fun a S CL => h_bin S CL hw le (subR rfl) rfl rfl rfl rfl rfl trivial fun a S CL => h_move S CL hw le (subR rfl) rfl rfl rfl trivial fun a S CL => h_bin S CL hw le (subR rfl) rfl rfl rfl rfl rfl trivial fun a S CL => ?_
   obtain ⟨c20, h4⟩ := chk_of h3; clear h3
   refine h_iaddr S CL hw le (subR rfl) rfl rfl underlying57 T52 c20.1 c20.2 (mul1 _ _) rfl rfl trivial fun a S CL => h_loadi S CL hw le (subR rfl) (i := (wr .i64 (y93 + 10))) rfl .h2 T52 .h rfl c20.1 c20.2 rfl rfl trivial fun a S CL => h_bin S CL hw le (subR rfl) rfl rfl rfl rfl rfl trivial fun a S CL => h_move S CL hw le (subR rfl) rfl rfl rfl trivial fun a S CL => h_bin S CL hw le (subR rfl) rfl rfl rfl rfl rfl trivial fun a S CL => ?_
   obtain ⟨c21, h5⟩ := chk_of h4; clear h4
   refine h_iaddr S CL hw le (subR rfl) rfl rfl underlying57 T52 c21.1 c21.2 (mul1 _ _) rfl rfl trivial fun a S CL => h_loadi S CL hw le (subR rfl) (i := (wr .i64 (y93 + 15))) rfl .h2 T52 .h rfl c21.1 c21.2 rfl rfl trivial fun a S CL => h_bin S CL hw le (subR rfl) rfl rfl rfl rfl rfl trivial fun a S CL => h_move S CL hw le (subR rfl) rfl rfl rfl trivial fun a S CL => h_bin S CL hw le (subR rfl) rfl rfl rfl rfl rfl trivial fun a S CL => ?_
   obtain ⟨c22, h6⟩ := chk_of h5; clear h5
   refine h_iaddr S CL hw le (subR rfl) rfl rfl underlying57 T52 c22.1 c22.2 (mul1 _ _) rfl rfl trivial fun a S CL => h_loadi S CL hw le (subR rfl) (i := (wr .i64 (y93 + 20))) rfl .h2 T52 .h rfl c22.1 c22.2 rfl rfl trivial fun a S CL => h_bin S CL hw le (subR rfl) rfl rfl rfl rfl rfl trivial fun a S CL => ?_
   obtain ⟨c23, h7⟩ := chk_of h6; clear h6
   refine h_iaddr S CL hw le (subR rfl) rfl rfl underlying119 T52 c23.1 c23.2 (mul1 _ _) rfl rfl trivial fun a S CL => h_run' S rfl trivial (s_storei S (i := y93) rfl rfl .h T52 .h rfl c23.1 c23.2 fun w S => ?_)
   refine h_back ⟨fun h => (nomatch h), ?_⟩
   refine h_done ?_; clear CL hw le
   refine x_blockN (x_thenN (c_region' (s_bin S rfl rfl rfl rfl fun a S => s_move S rfl rfl fun a S => c_end' (x_thenN ?_))))
   exact ⟨_, (wr .i64 (y93 + 1)), g209, g210, g211, (y94.set (Int.toNat y93) (bits .xor .u64 (bits .xor .u64 (bits .xor .u64 (bits .xor .u64 (rd x1 y93) (rd x1 (wr .i64 (y93 + 5)))) (rd x1 (wr .i64 (y93 + 10)))) (rd x1 (wr .i64 (y93 + 15)))) (rd x1 (wr .i64 (y93 + 20))))), (S.sb rfl (.c0 (.c0 (.c0 (.c0 (.c0 (.c0 .n))))))), h7⟩
  ·refine c_condF S rfl c17 (wp_exit (x_thenX (x_thenX (x_blockX (x_thenN ?_)))))
   exact j1 _ g209 g210 g211 y94 a w (S.sb rfl (.c0 (.c0 (.c0 (.c0 (.c0 (.c0 .n))))))) h1
abbrev ff_.Ty : Type := (List Int) → Option ((List Int))
def ff_.Ctr (s : ff_.Ty) : Prop := ∀ (x1 : List Int) (r : (List Int)), CtG (C := Unit) Tryd.prog Glob 65 (s x1 = some r) [] [(.agg [.ints .u64 x1 25])] (fun _ => (.agg [.ints .u64 r 25])) fun _ => []
def ff_.j1 (y1 : List Int) : Option ((List Int)) := some y1
def ff_.b1 (k : Nat) (rec1 : Int → (List Int) → Option ((List Int))) (y4 : Int) (y5 : List Int) : Option ((List Int)) := if (decide (y4 < 24)) = true then (if (0 : Int) ≤ y4 ∧ y4 < 24 then ((fe9_.f k y5).bind fun t1 => (rec1 (wr .i64 (y4 + 1)) (t1.set (Int.toNat 0) (bits .xor .u64 (rd t1 0) (rd tbl_keccak_constants y4))))) else none) else (ff_.j1 y5)
def ff_.l1 (k : Nat) : Nat → Int → (List Int) → Option ((List Int))
  | 0, _, _ => none
  | q + 1, y4, y5 => ff_.b1 k (ff_.l1 k q) y4 y5
def ff_.f (k : Nat) (x1 : List Int) : Option ((List Int)) := ff_.l1 k k 0 x1
theorem ff_.ok (k : Nat) : ff_.Ctr (ff_.f k) := by
 intro x1 r h0 mi w0 G ok hm
 delta ff_.f at h0
 refine c_enterZ (n := 18) ok hm func65 rfl rfl rfl fun b0 hb a S => ?_
 replace S := S.addfro (g := 2) 138 G.2.2
 replace S := S.addfro (g := 1) 138 G.2.1
 replace S := S.addfro (g := 0) 83 G.1
 refine c_region (s_box S rfl rfl rfl fun g1 a w S => s_alloc S Z57 rfl ⟨rfl, trivial⟩ rfl fun g2 a w S => c_end (wp_seq_k fun K1 hK1 => ?_))
 have j1 : ∀ m g9 g10 y1 a w, St 18 m b0 [(2, (.p g9)), (1, (.p g10))] [Res.cells g9 57 [.ints .u64 z25 25], Res.cells g10 57 [.ints .u64 y1 25], Res.fro 0 83 [.ints .u64 tbl_keccak_constants 24], Res.fro 1 138 [.ints .i64 tbl_keccak_places 24], Res.fro 2 138 [.ints .i64 tbl_keccak_turns 24]] a w → ff_.j1 y1 = some r → K1 a w := by
  intro m g9 g10 y1 a w S h0
  delta ff_.j1 at h0
  refine hK1 a w (c_region (s_loada S rfl .h1 T57 (s' := [.ints .u64 y1 25]) rfl rfl fun a S => s_store S rfl rfl rfl (s' := [.ints .u64 y1 25]) .h T57 rfl rfl fun w S => c_end (wp_ret ?_)))
  obtain rfl := Option.some.inj h0
  exact b_ret1 (d := (.agg [.ints .u64 y1 25])) S rfl (resD_cell rfl .h T57 rfl rfl) (S.rt hb)
 refine c_region (s_loadaF S rfl .h2 T83 (s' := [.ints .u64 tbl_keccak_constants 24]) rfl rfl fun a S => s_move S rfl rfl fun a S => c_end (wp_block ?_))
 refine c_loop (fun q1 a w => ∃ m y4 g15 g16 y5, St 18 m b0 [(6, (.i y4)), (5, (.agg [.ints .u64 tbl_keccak_constants 24])), (2, (.p g15)), (1, (.p g16))] [Res.cells g15 57 [.ints .u64 z25 25], Res.cells g16 57 [.ints .u64 y5 25], Res.fro 0 83 [.ints .u64 tbl_keccak_constants 24], Res.fro 1 138 [.ints .i64 tbl_keccak_places 24], Res.fro 2 138 [.ints .i64 tbl_keccak_turns 24]] a w ∧ ff_.l1 k q1 y4 y5 = some r) ?_ ?_ (k := k) ⟨_, 0, g2, g1, x1, (S.sb rfl (.c0 (.c0 (.c0 (.c0 (.c0 .n)))))), h0⟩
 ·rintro a w ⟨m, y4, g15, g16, y5, S, h0⟩
  exact (nomatch (show (none : Option ((List Int))) = some r from h0))
 ·clear S h0
  rintro q1 a w ⟨m, y4, g15, g16, y5, S, h0⟩
  replace h0 : ff_.b1 k (ff_.l1 k q1) y4 y5 = some r := h0
  delta ff_.b1 at h0
  refine c_region (s_bin S rfl rfl rfl rfl fun a S => c_end (wp_seq ?_))
  rcases ite_of h0 with ⟨c1, h1⟩ | ⟨c1, h1⟩
  ·refine c_condT S rfl c1 (wp_skip (x_thenN (wp_seq (wp_block (c_region ?_)))))
   obtain ⟨c2, h2⟩ := chk_of h1; clear h1
   refine s_index S rfl rfl underlying83 T52 c2.1 c2.2 rfl fun a S => s_assign S rfl rfl fun a S => c_end (c_region (s_loada S rfl .h1 T57 (s' := [.ints .u64 y5 25]) rfl rfl fun a S => bindX h2 fun t1 et1 h3 => s_callP S _ N80 rfl rfl (fe9_.ok k y5 t1 et1 _ _ (G.mono (S.leB hb))) fun ch1 m le1 a w S => s_store S rfl rfl rfl (s' := [.ints .u64 t1 25]) .h1 T57 rfl rfl fun w S => c_end (c_region' (s_iaddr S (o' := 0) rfl rfl underlying57 T52 (by decide) (by decide) rfl rfl fun a S => s_loadi S (i := 0) rfl .h1 T52 .h rfl (by decide) (by decide) rfl fun a S => s_move S rfl rfl fun a S => s_bin S rfl rfl rfl rfl fun a S => s_iaddr S (o' := 0) rfl rfl underlying57 T52 (by decide) (by decide) rfl rfl fun a S => s_storei S (i := 0) rfl rfl .h1 T52 .h rfl (by decide) (by decide) fun w S => c_end' (x_blockN (x_thenN (c_region' (s_bin S rfl rfl rfl rfl fun a S => s_move S rfl rfl fun a S => c_end' (x_thenN ?_)))))))))
   exact ⟨_, (wr .i64 (y4 + 1)), g15, g16, (t1.set (Int.toNat 0) (bits .xor .u64 (rd t1 0) (rd tbl_keccak_constants y4))), (S.sb rfl (.c0 (.c0 (.c0 (.c0 (.c0 .n)))))), h3⟩
  ·refine c_condF S rfl c1 (wp_exit (x_thenX (x_thenX (x_blockX (x_thenN ?_)))))
   exact j1 _ g15 g16 y5 a w (S.sb rfl (.c0 (.c0 (.c0 (.c0 (.c0 .n)))))) h1
abbrev fe6_.Ty : Type := (List Int) → (List Int) → Option ((List Int))
def fe6_.Ctr (s : fe6_.Ty) : Prop := ∀ (x1 : List Int) (x2 : List Int) (ch_1_0 : Option Addr) (ch_1_1 : Nat) (r : (List Int)), CtG (C := Unit) Tryd.prog Glob 39 (s x1 x2 = some r) [] [(.agg [.ints .u64 x1 25]), (.q yb ch_1_0 ch_1_1 x2)] (fun _ => (.agg [.ints .u64 r 25])) fun _ => []
def fe6_.j1 (k : Nat) (y1 : List Int) : Option ((List Int)) := (ff_.f k y1).bind fun t1 => (some t1)
def fe6_.b1 (k : Nat) (x2 : List Int) (rec1 : Int → (List Int) → Option ((List Int))) (y4 : Int) (y5 : List Int) : Option ((List Int)) := if (decide (y4 < ((x2).length : Int))) = true then (if (0 : Int) ≤ y4 ∧ y4 < ((x2).length : Int) then (if (0 : Int) ≤ (wr .i64 (Int.tdiv y4 8)) ∧ (wr .i64 (Int.tdiv y4 8)) < 25 then (if (0 : Int) ≤ (wr .i64 ((Int.tmod y4 8) * 8)) then (rec1 (wr .i64 (y4 + 1)) (y5.set (Int.toNat (wr .i64 (Int.tdiv y4 8))) (bits .xor .u64 (rd y5 (wr .i64 (Int.tdiv y4 8))) (shl .u64 (wr .u64 (rd x2 y4)) (min (Int.toNat (wr .i64 ((Int.tmod y4 8) * 8))) 64))))) else none) else none) else none) else (fe6_.j1 k y5)
def fe6_.l1 (k : Nat) (x2 : List Int) : Nat → Int → (List Int) → Option ((List Int))
  | 0, _, _ => none
  | q + 1, y4, y5 => fe6_.b1 k x2 (fe6_.l1 k x2 q) y4 y5
def fe6_.f (k : Nat) (x1 : List Int) (x2 : List Int) : Option ((List Int)) := fe6_.l1 k x2 k 0 x1
theorem fe6_.ok (k : Nat) : fe6_.Ctr (fe6_.f k) := by
 intro x1 x2 ch_1_0 ch_1_1 r h0 mi w0 G ok hm
 delta fe6_.f at h0
 refine c_enterZ (n := 29) ok hm func39 rfl rfl rfl fun b0 hb a S => c_region (s_box S rfl rfl rfl fun g1 a w S => s_alloc S Z57 rfl ⟨rfl, trivial⟩ rfl fun g2 a w S => c_end (wp_seq_k fun K1 hK1 => ?_))
 have j1 : ∀ m g9 g10 y1 a w, St 29 m b0 [(4, (.p g9)), (2, (.p g10))] [Res.cells g9 57 [.ints .u64 z25 25], Res.cells g10 57 [.ints .u64 y1 25]] a w → fe6_.j1 k y1 = some r → K1 a w := by
  intro m g9 g10 y1 a w S h0
  delta fe6_.j1 at h0
  refine hK1 a w (c_region (s_loada S rfl .h1 T57 (s' := [.ints .u64 y1 25]) rfl rfl fun a S => bindX h0 fun t1 et1 h1 => s_callP S _ N65 rfl rfl (ff_.ok k y1 t1 et1 _ _ (G.mono (S.leB hb))) fun ch1 m le1 a w S => s_store S rfl rfl rfl (s' := [.ints .u64 t1 25]) .h T57 rfl rfl fun w S => c_end (wp_ret ?_)))
  obtain rfl := Option.some.inj h1
  exact b_ret1 (d := (.agg [.ints .u64 t1 25])) S rfl (resD_cell rfl .h T57 rfl rfl) (S.rt hb)
 refine c_region (s_move S rfl rfl fun a S => s_lenS S rfl underlying26 rfl fun a S => s_move S rfl rfl fun a S => c_end (wp_block ?_))
 refine c_loop (fun q1 a w => ∃ m y4 g15 g16 y5, St 29 m b0 [(9, (.i y4)), (8, (.i ((x2).length : Int))), (7, (.q yb ch_1_0 ch_1_1 x2)), (4, (.p g15)), (2, (.p g16))] [Res.cells g15 57 [.ints .u64 z25 25], Res.cells g16 57 [.ints .u64 y5 25]] a w ∧ fe6_.l1 k x2 q1 y4 y5 = some r) ?_ ?_ (k := k) ⟨_, 0, g2, g1, x1, (S.sb rfl (.c0 (.c0 .n))), h0⟩
 ·rintro a w ⟨m, y4, g15, g16, y5, S, h0⟩
  exact (nomatch (show (none : Option ((List Int))) = some r from h0))
 ·clear S h0
  rintro q1 a w ⟨m, y4, g15, g16, y5, S, h0⟩
  replace h0 : fe6_.b1 k x2 (fe6_.l1 k x2 q1) y4 y5 = some r := h0
  delta fe6_.b1 at h0
  refine c_region (s_bin S rfl rfl rfl rfl fun a S => c_end (wp_seq ?_))
  rcases ite_of h0 with ⟨c1, h1⟩ | ⟨c1, h1⟩
  ·refine c_condT S rfl c1 (wp_skip (x_thenN (wp_seq (wp_block (c_region (s_move S rfl rfl fun a S => ?_))))))
   obtain ⟨c2, h2⟩ := chk_of h1; clear h1
   refine s_iaddrS S rfl rfl rfl underlying26 T5 c2.1 c2.2 rfl fun p1 a S => s_ld1 S (v := (.int .u8 (rd x2 y4))) rfl T5 (fun _ => rfl) rfl fun a S => s_assign S rfl rfl fun a S => s_assign S rfl rfl fun a S => c_end (c_heldS S (.take 0 (.take 1 (.take 2 (.take 3 (.take 4 (.take 5 (.take 6 (.take 7 (.take 8 (.take 9 (.take 10 (.take 11 (.alts (.run 12 false .done .nil)))))))))))))) 12 [Res.cells g15 57 [.ints .u64 z25 25], Res.cells g16 57 [.ints .u64 y5 25]] (.c0 (.c0 .n)) ⟨Res.stay_cells, Res.stay_cells, trivial⟩ [(6, (.v (.int .u8 (rd x2 y4)))), (5, (.i y4)), (2, (.p g16))] (subR rfl) (by kernel_rfl) (by kernel_rfl) fun w S CL hw le => ?_)
   refine h_move S CL hw le (subR rfl) rfl rfl rfl trivial fun a S CL => h_quo S CL hw le (subR rfl) rfl rfl (by decide) rfl rfl trivial fun a S CL => ?_
   obtain ⟨c3, h3⟩ := chk_of h2; clear h2
   refine h_iaddr S CL hw le (subR rfl) rfl rfl underlying57 T52 c3.1 c3.2 (mul1 _ _) rfl rfl trivial fun a S CL => h_loadi S CL hw le (subR rfl) (i := (wr .i64 (Int.tdiv y4 8))) rfl .h1 T52 .h rfl c3.1 c3.2 rfl rfl trivial fun a S CL => h_move S CL hw le (subR rfl) rfl rfl rfl trivial fun a S CL => h_conv S CL hw le (subR rfl) rfl rfl underlying52 rfl rfl trivial fun a S CL => h_move S CL hw le (subR rfl) rfl rfl rfl trivial fun a S CL => h_rem S CL hw le (subR rfl) rfl rfl (by decide) rfl rfl trivial fun a S CL => h_bin S CL hw le (subR rfl) rfl rfl rfl rfl rfl trivial fun a S CL => ?_
   obtain ⟨c4, h4⟩ := chk_of h3; clear h3
   refine h_shl S CL hw le (subR rfl) (e := (min (Int.toNat (wr .i64 ((Int.tmod y4 8) * 8))) 64)) rfl rfl c4 rfl rfl rfl trivial fun a S CL => h_bin S CL hw le (subR rfl) rfl rfl rfl rfl rfl trivial fun a S CL => h_iaddr S CL hw le (subR rfl) rfl rfl underlying57 T52 c3.1 c3.2 (mul1 _ _) rfl rfl trivial fun a S CL => h_run' S rfl trivial (s_storei S (i := (wr .i64 (Int.tdiv y4 8))) rfl rfl .h1 T52 .h rfl c3.1 c3.2 fun w S => ?_)
   refine h_back ⟨fun h => (nomatch h), ?_⟩
   refine h_done ?_; clear CL hw le
   refine x_blockN (x_thenN (c_region' (s_bin S rfl rfl rfl rfl fun a S => s_move S rfl rfl fun a S => c_end' (x_thenN ?_))))
   exact ⟨_, (wr .i64 (y4 + 1)), g15, g16, (y5.set (Int.toNat (wr .i64 (Int.tdiv y4 8))) (bits .xor .u64 (rd y5 (wr .i64 (Int.tdiv y4 8))) (shl .u64 (wr .u64 (rd x2 y4)) (min (Int.toNat (wr .i64 ((Int.tmod y4 8) * 8))) 64)))), (S.sb rfl (.c0 (.c0 .n))), h4⟩
  ·refine c_condF S rfl c1 (wp_exit (x_thenX (x_thenX (x_blockX (x_thenN ?_)))))
   exact j1 _ g15 g16 y5 a w (S.sb rfl (.c0 (.c0 .n))) h1
abbrev ff3_.Ty : Type := (List Int) → Option ((List Int))
def ff3_.Ctr (s : ff3_.Ty) : Prop := ∀ (x1 : List Int) (ch_0_0 : Option Addr) (ch_0_1 : Nat) (r : (List Int)), CtG (C := Unit) Tryd.prog Glob 23 (s x1 = some r) [] [(.q yb ch_0_0 ch_0_1 x1)] (fun _ => (.a32 r)) fun _ => []
def ff3_.j2 (y7 : List Int) : Option ((List Int)) := some y7
def ff3_.b1 (t1 : (List Int)) (rec1 : Int → (List Int) → Option ((List Int))) (y10 : Int) (y11 : List Int) : Option ((List Int)) := if (decide (y10 < 32)) = true then (if (0 : Int) ≤ (wr .i64 (Int.tdiv y10 8)) ∧ (wr .i64 (Int.tdiv y10 8)) < 25 then (if (0 : Int) ≤ (wr .i64 ((Int.tmod y10 8) * 8)) then (if (0 : Int) ≤ y10 ∧ y10 < 32 then (rec1 (wr .i64 (y10 + 1)) (y11.set (Int.toNat y10) (wr .u8 (shr (rd t1 (wr .i64 (Int.tdiv y10 8))) (min (Int.toNat (wr .i64 ((Int.tmod y10 8) * 8))) 64))))) else none) else none) else none) else (ff3_.j2 y11)
def ff3_.l1 (t1 : (List Int)) : Nat → Int → (List Int) → Option ((List Int))
  | 0, _, _ => none
  | q + 1, y10, y11 => ff3_.b1 t1 (ff3_.l1 t1 q) y10 y11
def ff3_.j1 (k : Nat) (y1 : List Int) (y2 : List Int) : Option ((List Int)) := if (0 : Int) ≤ ((min (y1).length 136 : Nat) : Int) ∧ ((min (y1).length 136 : Nat) : Int) < 136 then ((fe6_.f k y2 (((((cpy (List.replicate 136 0) 0 y1 (min (y1).length 136)).set (Int.toNat ((min (y1).length 136 : Nat) : Int)) 1).set (Int.toNat 135) (bits .or .u8 (rd ((cpy (List.replicate 136 0) 0 y1 (min (y1).length 136)).set (Int.toNat ((min (y1).length 136 : Nat) : Int)) 1) 135) 128)).drop 0).take 136)).bind fun t1 => (ff3_.l1 t1 k 0 [0, 0, 0, 0, 0, 0, 0, 0, 0, 0, 0, 0, 0, 0, 0, 0, 0, 0, 0, 0, 0, 0, 0, 0, 0, 0, 0, 0, 0, 0, 0, 0])) else none
def ff3_.b2 (k : Nat) (rec2 : (List Int) → (List Int) → Option ((List Int))) (y14 : List Int) (y15 : List Int) : Option ((List Int)) := if (decide (136 ≤ ((y14).length : Int))) = true then (if (0 : Int) ≤ 0 ∧ (0 : Int) ≤ 136 ∧ 136 ≤ ((y14).length : Int) then ((fe6_.f k y15 (y14.take (Int.toNat 136))).bind fun t4 => (if (0 : Int) ≤ 136 ∧ (136 : Int) ≤ ((y14).length : Int) ∧ ((y14).length : Int) ≤ ((y14).length : Int) then (rec2 (y14.drop (Int.toNat 136)) t4) else none)) else none) else (ff3_.j1 k y14 y15)
def ff3_.l2 (k : Nat) : Nat → (List Int) → (List Int) → Option ((List Int))
  | 0, _, _ => none
  | q + 1, y14, y15 => ff3_.b2 k (ff3_.l2 k q) y14 y15
def ff3_.f (k : Nat) (x1 : List Int) : Option ((List Int)) := ff3_.l2 k k x1 [0, 0, 0, 0, 0, 0, 0, 0, 0, 0, 0, 0, 0, 0, 0, 0, 0, 0, 0, 0, 0, 0, 0, 0, 0]
theorem ff3_.ok (k : Nat) : ff3_.Ctr (ff3_.f k) := by
 intro x1 ch_0_0 ch_0_1 r h0 mi w0 G ok hm
 delta ff3_.f at h0
 refine c_enterZ (n := 45) ok hm func23 rfl rfl rfl fun b0 hb a S => c_region (s_alloc S Z24 rfl ⟨rfl, trivial⟩ rfl fun g1 a w S => c_end (c_region (s_alloc S Z57 rfl ⟨rfl, trivial⟩ rfl fun g2 a w S => c_end (wp_seq_k fun K1 hK1 => ?_))))
 have j1 : ∀ m g9 g10 A1 cp1 y1 y2 a w, St 45 m b0 [(3, (.p g9)), (2, (.p g10)), (0, (.q yb A1 cp1 y1))] [Res.cells g9 57 [.ints .u64 y2 25], Res.cells g10 24 [.b32 z32]] a w → ff3_.j1 k y1 y2 = some r → K1 a w := by
  intro m g9 g10 A1 cp1 y1 y2 a w S h0
  delta ff3_.j1 at h0
  refine hK1 a w (c_region (s_alloc S Z87 rfl ⟨rfl, trivial⟩ rfl fun g11 a w S => c_end (c_region (s_sliceA S (i := 0) (j := 136) (o' := 0) (len := 136) (cap := 136) rfl underlying87 T5 (.inl ⟨rfl, rfl⟩) (.inl ⟨rfl, rfl⟩) (by decide) rfl rfl rfl rfl fun a S => s_move S rfl rfl fun a S => s_copyA S (N := min (y1).length 136) (lo := 0) rfl .h rfl rfl (RdS.srcI (S.get 18 (.q yb A1 cp1 y1) rfl).2.2.2.1 S.frz) rfl .h (.inl rfl) (by decide) underlying26 T5 rfl fun a w S => s_assign S rfl rfl fun a S => c_end (c_region (s_move S rfl rfl fun a S => ?_))))))
  obtain ⟨c1, h1⟩ := chk_of h0; clear h0
  refine s_iaddr S rfl rfl underlying87 T5 c1.1 c1.2 (mul1 _ _) rfl fun a S => s_storei S (i := ((min (y1).length 136 : Nat) : Int)) rfl rfl .h T5 .h rfl c1.1 c1.2 fun w S => c_end (c_region (s_iaddr S (o' := 135) rfl rfl underlying87 T5 (by decide) (by decide) rfl rfl fun a S => s_loadi S (i := 135) rfl .h T5 .h rfl (by decide) (by decide) rfl fun a S => s_bin S rfl rfl rfl rfl fun a S => s_iaddr S (o' := 135) rfl rfl underlying87 T5 (by decide) (by decide) rfl rfl fun a S => s_storei S (i := 135) rfl rfl .h T5 .h rfl (by decide) (by decide) fun w S => c_end ?_))
  replace S := S.freeze .h
  obtain ⟨m, le1, S⟩ := S
  refine wp_seq (c_heldS S (.take 0 (.take 1 (.alts (.run 2 true (.alts (.run 3 false .done .nil)) .nil)))) 3 [Res.fro g11 87 [.ints .u8 (((cpy (List.replicate 136 0) 0 y1 (min (y1).length 136)).set (Int.toNat ((min (y1).length 136 : Nat) : Int)) 1).set (Int.toNat 135) (bits .or .u8 (rd ((cpy (List.replicate 136 0) 0 y1 (min (y1).length 136)).set (Int.toNat ((min (y1).length 136 : Nat) : Int)) 1) 135) 128)) 136], Res.cells g9 57 [.ints .u64 y2 25], Res.cells g10 24 [.b32 z32]] (.c0 (.c0 (.c0 .n))) ⟨Res.stay_fro, Res.stay_cells, Res.stay_cells, trivial⟩ [(4, (.p g11)), (3, (.p g9))] (subR rfl) (by kernel_rfl) (by kernel_rfl) ?_); clear S; intro w S CL hw le
  refine h_loada S CL hw le (subR rfl) rfl .h1 T57 (s' := [.ints .u64 y2 25]) rfl rfl rfl trivial fun a S CL => h_sliceA S CL hw le (subR rfl) (i := 0) (j := 136) (o' := 0) (len := 136) (cap := 136) rfl underlying87 T5 (.inl ⟨rfl, rfl⟩) (.inl ⟨rfl, rfl⟩) (by decide) rfl rfl rfl rfl rfl trivial fun a S CL => h_run' S rfl trivial ?_
  replace S := (S.slup' (u := 27) (lo := 0) (c := 136) (ys := ((((cpy (List.replicate 136 0) 0 y1 (min (y1).length 136)).set (Int.toNat ((min (y1).length 136 : Nat) : Int)) 1).set (Int.toNat 135) (bits .or .u8 (rd ((cpy (List.replicate 136 0) 0 y1 (min (y1).length 136)).set (Int.toNat ((min (y1).length 136 : Nat) : Int)) 1) 135) 128)).drop 0).take 136) rfl (Pull.mem .h).1 .h (.inl rfl) (by decide) (by decide) rfl).2
  replace CL := CL.drop (lq' := [(26, (.agg [.ints .u64 y2 25])), (4, (.p g11)), (3, (.p g9))]) (subR rfl)
  refine bindX h1 fun t1 et1 h2 => s_callP S _ N39 rfl rfl (fe6_.ok k y2 (((((cpy (List.replicate 136 0) 0 y1 (min (y1).length 136)).set (Int.toNat ((min (y1).length 136 : Nat) : Int)) 1).set (Int.toNat 135) (bits .or .u8 (rd ((cpy (List.replicate 136 0) 0 y1 (min (y1).length 136)).set (Int.toNat ((min (y1).length 136 : Nat) : Int)) 1) 135) 128)).drop 0).take 136) (ad g11) 136 t1 et1 _ _ (G.mono (S.leB hb))) fun ch1 m le1 a w S => ?_
  replace le := le.trans le1
  refine CL.bk hw S (.c0 (.c0 (.c0 .n))) le fun hw => h_run' S rfl trivial (s_store S rfl rfl rfl (s' := [.ints .u64 t1 25]) .h1 T57 rfl rfl fun w S => ?_)
  refine h_back ⟨fun h => (nomatch h), ?_⟩
  refine h_done ?_; clear CL hw le
  refine x_thenN (c_region (s_alloc S Z24 rfl ⟨rfl, trivial⟩ rfl fun g12 a w S => c_end (wp_seq_k fun K2 hK2 => ?_)))
  have j2 : ∀ m g22 g23 y7 a w, St 45 m b0 [(6, (.p g22)), (2, (.p g23))] [Res.cells g22 24 [.b32 y7], Res.cells g23 24 [.b32 z32]] a w → ff3_.j2 y7 = some r → K2 a w := by
   intro m g22 g23 y7 a w S h0
   delta ff3_.j2 at h0
   refine hK2 a w (c_region (s_loada S rfl .h T24 (s' := [.b32 y7]) rfl rfl fun a S => s_store S rfl rfl rfl (s' := [.b32 y7]) .h1 T24 rfl rfl fun w S => c_end (wp_ret ?_)))
   obtain rfl := Option.some.inj h0
   exact b_ret1 (d := (.a32 y7)) S rfl (resD_cell rfl .h1 T24 rfl rfl) (S.rt hb)
  refine c_region (s_move S rfl rfl fun a S => c_end (wp_block ?_))
  refine c_loop (fun q1 a w => ∃ m y10 g30 g31 g32 y11, St 45 m b0 [(29, (.i y10)), (6, (.p g30)), (3, (.p g31)), (2, (.p g32))] [Res.cells g30 24 [.b32 y11], Res.cells g31 57 [.ints .u64 t1 25], Res.cells g32 24 [.b32 z32]] a w ∧ ff3_.l1 t1 q1 y10 y11 = some r) ?_ ?_ (k := k) ⟨_, 0, g12, g9, g10, z32, (S.sb rfl (.c0 (.c1 (.c1 .n)))), h2⟩
  ·rintro a w ⟨m, y10, g30, g31, g32, y11, S, h0⟩
   exact (nomatch (show (none : Option ((List Int))) = some r from h0))
  ·clear S h2
   rintro q1 a w ⟨m, y10, g30, g31, g32, y11, S, h0⟩
   replace h0 : ff3_.b1 t1 (ff3_.l1 t1 q1) y10 y11 = some r := h0
   delta ff3_.b1 at h0
   refine c_region (s_bin S rfl rfl rfl rfl fun a S => c_end (wp_seq ?_))
   rcases ite_of h0 with ⟨c2, h1⟩ | ⟨c2, h1⟩
   ·refine c_condT S rfl c2 (wp_skip (x_thenN (wp_seq (wp_block (c_region (s_move S rfl rfl fun a S => s_assign S rfl rfl fun a S => c_end (c_region' (s_move S rfl rfl fun a S => s_move S rfl rfl fun a S => s_quo S rfl rfl (by decide) rfl fun a S => ?_))))))))
    obtain ⟨c3, h2⟩ := chk_of h1; clear h1
    refine s_iaddr S rfl rfl underlying57 T52 c3.1 c3.2 (mul1 _ _) rfl fun a S => s_loadi S (i := (wr .i64 (Int.tdiv y10 8))) rfl .h1 T52 .h rfl c3.1 c3.2 rfl fun a S => s_move S rfl rfl fun a S => s_rem S rfl rfl (by decide) rfl fun a S => s_bin S rfl rfl rfl rfl fun a S => ?_
    obtain ⟨c4, h3⟩ := chk_of h2; clear h2
    refine s_shr S (e := (min (Int.toNat (wr .i64 ((Int.tmod y10 8) * 8))) 64)) rfl rfl c4 rfl rfl fun a S => s_conv S rfl rfl underlying5 rfl fun a S => ?_
    obtain ⟨c5, h4⟩ := chk_of h3; clear h3
    refine s_iaddr S rfl rfl underlying24 T5 c5.1 c5.2 (mul1 _ _) rfl fun a S => s_storei S (i := y10) rfl rfl .h T5 .h rfl c5.1 c5.2 fun w S => c_end' (x_blockN (x_thenN (c_region' (s_bin S rfl rfl rfl rfl fun a S => s_move S rfl rfl fun a S => c_end' (x_thenN ?_)))))
    exact ⟨_, (wr .i64 (y10 + 1)), g30, g31, g32, (y11.set (Int.toNat y10) (wr .u8 (shr (rd t1 (wr .i64 (Int.tdiv y10 8))) (min (Int.toNat (wr .i64 ((Int.tmod y10 8) * 8))) 64)))), (S.sb rfl (.c0 (.c0 (.c0 .n)))), h4⟩
   ·refine c_condF S rfl c2 (wp_exit (x_thenX (x_thenX (x_blockX (x_thenN ?_)))))
    exact j2 _ g30 g32 y11 a w (S.sb rfl (.c0 (.c1 .n))) h1
 refine wp_block ?_
 refine c_loop (fun q2 a w => ∃ m g37 g38 A2 cp7 y14 y15, St 45 m b0 [(3, (.p g37)), (2, (.p g38)), (0, (.q yb A2 cp7 y14))] [Res.cells g37 57 [.ints .u64 y15 25], Res.cells g38 24 [.b32 z32]] a w ∧ ff3_.l2 k q2 y14 y15 = some r) ?_ ?_ (k := k) ⟨_, g2, g1, ch_0_0, ch_0_1, x1, z25, (S.sb rfl (.c0 (.c0 .n))), h0⟩
 ·rintro a w ⟨m, g37, g38, A2, cp7, y14, y15, S, h0⟩
  exact (nomatch (show (none : Option ((List Int))) = some r from h0))
 ·clear S h0
  rintro q2 a w ⟨m, g37, g38, A2, cp7, y14, y15, S, h0⟩
  replace h0 : ff3_.b2 k (ff3_.l2 k q2) y14 y15 = some r := h0
  delta ff3_.b2 at h0
  refine wp_seq (c_region (s_move S rfl rfl fun a S => s_lenS S rfl underlying26 rfl fun a S => s_bin S rfl rfl rfl rfl fun a S => c_end ?_))
  rcases ite_of h0 with ⟨c6, h1⟩ | ⟨c6, h1⟩
  ·refine c_condT S rfl c6 (wp_skip (x_thenN (wp_block ?_)))
   refine wp_seq (c_heldS S (.take 0 (.take 1 (.take 2 (.alts (.run 3 true (.alts (.run 4 false .done .nil)) .nil))))) 4 [Res.cells g37 57 [.ints .u64 y15 25], Res.cells g38 24 [.b32 z32]] (.c0 (.c0 .n)) ⟨Res.stay_cells, Res.stay_cells, trivial⟩ [(3, (.p g37)), (0, (.q yb A2 cp7 y14))] (subR rfl) (by kernel_rfl) (by kernel_rfl) ?_); clear S; intro w S CL hw le
   refine h_loada S CL hw le (subR rfl) rfl .h T57 (s' := [.ints .u64 y15 25]) rfl rfl rfl trivial fun a S CL => h_move S CL hw le (subR rfl) rfl rfl rfl trivial fun a S CL => ?_
   obtain ⟨c7, h2⟩ := chk_of h1; clear h1
   refine h_cutS S CL hw le (subR rfl) (i := 0) (j := 136) (ys := y14.take (Int.toNat 136)) rfl rfl underlying26 T5 (.inl ⟨rfl, rfl⟩) (.inr ⟨_, _, rfl, rfl⟩) c7 rfl (cut_pre rfl) rfl trivial fun A3 cp8 a S CL => h_run' S rfl trivial (bindX h2 fun t4 et4 h3 => s_callP S _ N39 rfl rfl (fe6_.ok k y15 (y14.take (Int.toNat 136)) A3 cp8 t4 et4 _ _ (G.mono (S.leB hb))) fun ch2 m le1 a w S => ?_)
   replace le := le.trans le1
   refine CL.bk hw S (.c0 (.c0 .n)) le fun hw => h_run' S rfl trivial (s_store S rfl rfl rfl (s' := [.ints .u64 t4 25]) .h T57 rfl rfl fun w S => ?_)
   refine h_back ⟨fun h => (nomatch h), ?_⟩
   refine h_done ?_; clear CL hw le
   refine x_thenN (c_region' (s_move S rfl rfl fun a S => ?_))
   obtain ⟨c8, h4⟩ := chk_of h3; clear h3
   refine s_cutS S (i := 136) (j := ((y14).length : Int)) (ys := y14.drop (Int.toNat 136)) rfl rfl underlying26 T5 (.inr ⟨_, _, rfl, rfl⟩) (.inl ⟨rfl, rfl⟩) c8 rfl (cut_end rfl) fun A4 cp9 a S => s_assign S rfl rfl fun a S => c_end' (x_blockN (x_thenN ?_))
   exact ⟨_, g37, g38, A4, cp9, (y14.drop (Int.toNat 136)), t4, (S.sb rfl (.c0 (.c0 .n))), h4⟩
  ·refine c_condF S rfl c6 (wp_exit (x_thenX (x_thenX (x_blockX (x_thenN ?_)))))
   exact j1 _ g37 g38 A2 cp7 y14 y15 a w (S.sb rfl (.c0 (.c0 .n))) h1
abbrev fe8_.Ty : Type := ByteArray → Option ((List Int))
def fe8_.Ctr (s : fe8_.Ty) : Prop := ∀ (x1 : ByteArray) (r : (List Int)), CtG (C := Unit) Tryd.prog Glob 9 (s x1 = some r) [] [(.v (.string x1))] (fun _ => (.agg [.ints .u8 r 4])) fun _ => []
def fe8_.f (k : Nat) (x1 : ByteArray) : Option ((List Int)) := if (x1).size ≤ maxLen then ((ff3_.f k (sbytes x1)).bind fun t1 => (some (((t1).drop 0).take 4))) else none
theorem fe8_.ok (k : Nat) : fe8_.Ctr (fe8_.f k) := by
 intro x1 r h0 mi w0 G ok hm
 delta fe8_.f at h0
 refine c_enterZ (n := 10) ok hm func9 rfl rfl rfl fun b0 hb a S => c_region (s_alloc S Z27 rfl ⟨rfl, trivial⟩ rfl fun g1 a w S => c_end (c_region (s_move S rfl rfl fun a S => ?_)))
 obtain ⟨c1, h1⟩ := chk_of h0; clear h0
 refine s_bytesT S rfl underlying9 underlying26 underlying5 c1 rfl fun A1 cp1 m le1 a w S => bindX h1 fun t1 et1 h2 => s_callP S _ N23 rfl rfl (ff3_.ok k (sbytes x1) A1 cp1 t1 et1 _ _ (G.mono (S.leB hb))) fun ch1 m le1 a w S => s_alloc S Z24 rfl ⟨rfl, trivial⟩ rfl fun g2 a w S => s_store S rfl rfl rfl (s' := [.b32 t1]) .h T24 rfl rfl fun w S => c_end (c_region (s_sliceA S (i := 0) (j := 4) (o' := 0) (len := 4) (cap := 32) rfl underlying24 T5 (.inl ⟨rfl, rfl⟩) (.inr ⟨_, _, rfl, rfl⟩) (by decide) rfl rfl rfl rfl fun a S => s_arrp S rfl underlying27 (by decide) rfl fun a S => s_ldInts S (lo := 0) (ys := ((t1).drop 0).take 4) rfl .h T27 .h rfl (by decide) rfl rfl fun a S => s_store S rfl rfl rfl (s' := [.ints .u8 (((t1).drop 0).take 4) 4]) .h1 T27 rfl rfl fun w S => c_end (wp_ret ?_)))
 obtain rfl := Option.some.inj h2
 exact b_ret1 (d := (.agg [.ints .u8 (((t1).drop 0).take 4) 4])) S rfl (resD_cell rfl .h1 T27 rfl rfl) (S.rt hb)
abbrev fc4_.Ty : Type := Option Bool
def fc4_.Ctr (s : fc4_.Ty) : Prop := ∀ (r : Bool), CtG (C := Unit) Tryd.prog Glob 7 (s = some r) [] [] (fun _ => (.b r)) fun _ => []
def fc4_.f (k : Nat) : Option Bool := (ff0_.f k txt0 [([0, 0, 0, 0], ([] : List Int), 1), ([5, 0, 0, 0], ([] : List Int), 0)]).bind fun t1 => (if (t1.2 == 0) = true then (if (((t1.1).length : Int) == 32) = true then (if (0 : Int) ≤ 31 ∧ 31 < ((t1.1).length : Int) then (if ((rd t1.1 31) == 5) = true then ((fe8_.f k txt15).bind fun t2 => (some (decide (t2 = [169, 5, 156, 187])))) else (some false)) else none) else (some false)) else (some false))
theorem fc4_.ok (k : Nat) : fc4_.Ctr (fc4_.f k) := by
 intro r h0 mi w0 G ok hm
 delta fc4_.f at h0
 refine c_enterZ (n := 29) ok hm func7 rfl rfl rfl fun b0 hb a S => c_region (s_assign S rfl rfl fun a S => c_end (c_region (s_bldS S (ds := [(2, (.i 1))]) (zs := [.w4 [0, 0, 0, 0], .s none 0 0, .i 0]) (s' := [.w4 [0, 0, 0, 0], .s none 0 0, .i 1]) rfl underlying56 P56 Z56 ⟨rfl, rfl, rfl, trivial⟩ rfl rfl fun a S => s_build S (ds := [(0, (.w 5))]) (dv := (.a4 [5, 0, 0, 0])) rfl (fun _ => by kernel_rfl) ⟨rfl, trivial⟩ rfl fun a S => s_bldS S (ds := [(0, (.a4 [5, 0, 0, 0]))]) (zs := [.w4 [0, 0, 0, 0], .s none 0 0, .i 0]) (s' := [.w4 [5, 0, 0, 0], .s none 0 0, .i 0]) rfl underlying56 P56 Z56 ⟨rfl, rfl, rfl, trivial⟩ rfl rfl fun a S => ?_)))
 replace S := S.slot (u := 4) (d' := (.agg [.w4 [0, 0, 0, 0], .q yb none 0 ([] : List Int), .i 1])) rfl rfl (by have h := (S.get 4 (.agg [.w4 [0, 0, 0, 0], .s none 0 0, .i 1]) rfl).2; exact ⟨h.1, ok_nil, h.2.2.1, trivial⟩)
 replace S := S.slot (u := 6) (d' := (.agg [.w4 [5, 0, 0, 0], .q yb none 0 ([] : List Int), .i 0])) rfl rfl (by have h := (S.get 6 (.agg [.w4 [5, 0, 0, 0], .s none 0 0, .i 0]) rfl).2; exact ⟨h.1, ok_nil, h.2.2.1, trivial⟩)
 refine s_bldSl S (ty' := Y56) (ds := [(0, (.agg [.w4 [0, 0, 0, 0], .q yb none 0 ([] : List Int), .i 1])), (1, (.agg [.w4 [5, 0, 0, 0], .q yb none 0 ([] : List Int), .i 0]))]) (z := ([0, 0, 0, 0], ([] : List Int), 0)) (c0 := ((), (none, 0), ())) (ys := [([0, 0, 0, 0], ([] : List Int), 1), ([5, 0, 0, 0], ([] : List Int), 0)]) (cs := [((), (none, 0), ()), ((), (none, 0), ())]) rfl underlying38 J56 Z56 rfl ⟨rfl, ⟨Nat.le_refl _, Nat.zero_le _, RdS.nil _ _ _, RdS.mono _ _ _⟩, rfl, trivial⟩ rfl rfl rfl rfl rfl rfl fun g1 a w S => ?_
 replace S := S.rowfro .h
 obtain ⟨m, le1, S, hro⟩ := S
 replace S := S.slotro (u := 7) rfl hro
 refine bindX h0 fun t1 et1 h1 => s_callP S _ N17 rfl rfl (ff0_.ok k txt0 [([0, 0, 0, 0], ([] : List Int), 1), ([5, 0, 0, 0], ([] : List Int), 0)] (ad g1) 2 t1 et1 _ _) fun ch1 m le1 a w S => s_move S rfl rfl fun a S => s_extract S rfl rfl rfl rfl fun a S => s_extract S rfl rfl rfl rfl fun a S => s_assign S rfl rfl fun a S => s_assign S rfl rfl fun a S => c_end (c_region (s_move S rfl rfl fun a S => s_bin S rfl rfl rfl rfl fun a S => s_move S rfl rfl fun a S => ?_))
 rcases ite_of h1 with ⟨c1, h2⟩ | ⟨c1, h2⟩
 ·refine s_gT S (b := (t1.2 == 0)) rfl rfl c1 (s_move S rfl rfl fun a S => s_gT S (b := (t1.2 == 0)) rfl rfl c1 (s_lenS S rfl underlying26 rfl fun a S => s_gT S (b := (t1.2 == 0)) rfl rfl c1 (s_bin S rfl rfl rfl rfl fun a S => s_pick S (b := true) (hc_of rfl c1) rfl rfl fun a S => s_move S rfl rfl fun a S => ?_)))
  rcases ite_of h2 with ⟨c2, h3⟩ | ⟨c2, h3⟩
  ·refine s_gT S (b := (((t1.1).length : Int) == 32)) rfl rfl c2 (s_move S rfl rfl fun a S => s_gT S (b := (((t1.1).length : Int) == 32)) rfl rfl c2 ?_)
   obtain ⟨c3, h4⟩ := chk_of h3; clear h3
   refine s_iaddrS S rfl rfl rfl underlying26 T5 c3.1 c3.2 rfl fun p1 a S => s_gT S (b := (((t1.1).length : Int) == 32)) rfl rfl c2 (s_ld1 S (v := (.int .u8 (rd t1.1 31))) rfl T5 (fun _ => rfl) rfl fun a S => s_gT S (b := (((t1.1).length : Int) == 32)) rfl rfl c2 (s_bin S rfl rfl rfl rfl fun a S => s_pick S (b := true) (hc_of rfl c2) rfl rfl fun a S => s_move S rfl rfl fun a S => ?_))
   rcases ite_of h4 with ⟨c4, h5⟩ | ⟨c4, h5⟩
   ·refine s_gT S (b := ((rd t1.1 31) == 5)) rfl rfl c4 (bindX h5 fun t2 et2 h6 => s_callP S _ N9 rfl rfl (fe8_.ok k txt15 t2 et2 _ _ (G.mono (S.leB hb))) fun ch2 m le1 a w S => s_gT S (b := ((rd t1.1 31) == 5)) rfl rfl c4 (s_build S (ds := [(0, (.v (.int .u8 169))), (1, (.v (.int .u8 5))), (2, (.v (.int .u8 156))), (3, (.v (.int .u8 187)))]) (dv := (.agg [.ints .u8 [169, 5, 156, 187] 4])) rfl (fun _ => by kernel_rfl) ⟨rfl, trivial⟩ rfl fun a S => s_gT S (b := ((rd t1.1 31) == 5)) rfl rfl c4 (s_eqa S rfl rfl underlying27 underlying5 T5 Q27 rfl fun a S => s_pick S (b := true) (hc_of rfl c4) rfl rfl fun a S => s_assign S rfl rfl fun a S => c_end (wp_ret ?_))))
    obtain rfl := Option.some.inj h6
    exact b_ret1 (d := (.b (decide (t2 = [169, 5, 156, 187])))) S rfl rfl (S.rt hb)
   ·refine s_gF S (b := ((rd t1.1 31) == 5)) rfl rfl c4 rfl fun a S => s_gF S (b := ((rd t1.1 31) == 5)) rfl rfl c4 rfl fun a S => s_gF S (b := ((rd t1.1 31) == 5)) rfl rfl c4 rfl fun a S => s_pick S (b := false) (hc_of rfl c4) rfl rfl fun a S => s_assign S rfl rfl fun a S => c_end (wp_ret ?_)
    obtain rfl := Option.some.inj h5
    exact b_ret1 (d := (.b false)) S rfl rfl (S.rt hb)
  ·refine s_gF S (b := (((t1.1).length : Int) == 32)) rfl rfl c2 rfl fun a S => s_gF S (b := (((t1.1).length : Int) == 32)) rfl rfl c2 rfl fun a S => s_gF S (b := (((t1.1).length : Int) == 32)) rfl rfl c2 rfl fun a S => s_gF S (b := (((t1.1).length : Int) == 32)) rfl rfl c2 rfl fun a S => s_pick S (b := false) (hc_of rfl c2) rfl rfl fun a S => s_move S rfl rfl fun a S => s_gF S (b := false) rfl rfl rfl rfl fun a S => s_gF S (b := false) rfl rfl rfl rfl fun a S => s_gF S (b := false) rfl rfl rfl rfl fun a S => s_pick S (b := false) (hc_of rfl rfl) rfl rfl fun a S => s_assign S rfl rfl fun a S => c_end (wp_ret ?_)
   obtain rfl := Option.some.inj h3
   exact b_ret1 (d := (.b false)) S rfl rfl (S.rt hb)
 ·refine s_gF S (b := (t1.2 == 0)) rfl rfl c1 rfl fun a S => s_gF S (b := (t1.2 == 0)) rfl rfl c1 rfl fun a S => s_gF S (b := (t1.2 == 0)) rfl rfl c1 rfl fun a S => s_pick S (b := false) (hc_of rfl c1) rfl rfl fun a S => s_move S rfl rfl fun a S => s_gF S (b := false) rfl rfl rfl rfl fun a S => s_gF S (b := false) rfl rfl rfl rfl fun a S => s_gF S (b := false) rfl rfl rfl rfl fun a S => s_gF S (b := false) rfl rfl rfl rfl fun a S => s_pick S (b := false) (hc_of rfl rfl) rfl rfl fun a S => s_move S rfl rfl fun a S => s_gF S (b := false) rfl rfl rfl rfl fun a S => s_gF S (b := false) rfl rfl rfl rfl fun a S => s_gF S (b := false) rfl rfl rfl rfl fun a S => s_pick S (b := false) (hc_of rfl rfl) rfl rfl fun a S => s_assign S rfl rfl fun a S => c_end (wp_ret ?_)
  obtain rfl := Option.some.inj h2
  exact b_ret1 (d := (.b false)) S rfl rfl (S.rt hb)
end
end GW
