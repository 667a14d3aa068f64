import Derived.Test.YtjgdpkmbnooemaaDoorProg
import Derived.Test.YtjgdpkmbnooemaaDoorGB
set_option linter.unusedVariables false
set_option linter.unusedSimpArgs false
set_option maxRecDepth 10000
set_option maxHeartbeats 4000000
namespace GW
open Go Go.RowKit Go.Proofs Go.Proofs.Tryd
noncomputable section
abbrev keccak_round.Ty : Type := (List Int) → Option ((List Int))
def keccak_round.Ctr (s : keccak_round.Ty) : Prop := ∀ (x1 : List Int) (r : (List Int)), CtG (C := Unit) Tryd.prog Glob 80 (s x1 = some r) [] [(.agg [.ints .u64 x1 25])] (fun _ => (.agg [.ints .u64 r 25])) fun _ => []
def keccak_round.j4 (y38 : List Int) : Option ((List Int)) := some y38
def keccak_round.j5 (y51 : Int) (rec1 : Int → (List Int) → Option ((List Int))) (y57 : List Int) : Option ((List Int)) := rec1 (wr .i64 (y51 + 5)) y57
def keccak_round.b2 (y51 : Int) (y52 : List Int) (rec1 : Int → (List Int) → Option ((List Int))) (rec2 : Int → (List Int) → Option ((List Int))) (y60 : Int) (y61 : List Int) : Option ((List Int)) := if (decide (y60 < 5)) = true then (if (0 : Int) ≤ y60 ∧ y60 < 5 then (if (0 : Int) ≤ (Int.tmod (wr .i64 (y60 + 1)) 5) ∧ (Int.tmod (wr .i64 (y60 + 1)) 5) < 5 then (if (0 : Int) ≤ (Int.tmod (wr .i64 (y60 + 2)) 5) ∧ (Int.tmod (wr .i64 (y60 + 2)) 5) < 5 then (if (0 : Int) ≤ (wr .i64 (y60 + y51)) ∧ (wr .i64 (y60 + y51)) < 25 then (rec2 (wr .i64 (y60 + 1)) (y61.set (Int.toNat (wr .i64 (y60 + y51))) (bits .xor .u64 (rd (((y52).drop (Int.toNat y51)).take 5) y60) (bits .and .u64 (bnot .u64 (rd (((y52).drop (Int.toNat y51)).take 5) (Int.tmod (wr .i64 (y60 + 1)) 5))) (rd (((y52).drop (Int.toNat y51)).take 5) (Int.tmod (wr .i64 (y60 + 2)) 5)))))) else none) else none) else none) else none) else (keccak_round.j5 y51 rec1 y61)
def keccak_round.l2 (y51 : Int) (y52 : List Int) (rec1 : Int → (List Int) → Option ((List Int))) : Nat → Int → (List Int) → Option ((List Int))
  | 0, _, _ => none
  | q + 1, y60, y61 => keccak_round.b2 y51 y52 rec1 (keccak_round.l2 y51 y52 rec1 q) y60 y61
def keccak_round.b1 (k : Nat) (rec1 : Int → (List Int) → Option ((List Int))) (y51 : Int) (y52 : List Int) : Option ((List Int)) := if (decide (y51 < 25)) = true then (if (0 : Int) ≤ y51 ∧ (y51 : Int) ≤ (wr .i64 (y51 + 5)) ∧ (wr .i64 (y51 + 5)) ≤ ((25 : Nat) : Int) then (if 5 ≤ (Int.toNat (wr .i64 (y51 + 5)) - Int.toNat y51) then (keccak_round.l2 y51 y52 rec1 k 0 y52) else none) else none) else (keccak_round.j4 y52)
def keccak_round.l1 (k : Nat) : Nat → Int → (List Int) → Option ((List Int))
  | 0, _, _ => none
  | q + 1, y51, y52 => keccak_round.b1 k (keccak_round.l1 k q) y51 y52
def keccak_round.j3 (k : Nat) (y23 : List Int) : Option ((List Int)) := keccak_round.l1 k k 0 y23
def keccak_round.b3 (k : Nat) (rec3 : Int → Int → (List Int) → Option ((List Int))) (y65 : Int) (y66 : Int) (y67 : List Int) : Option ((List Int)) := if (decide (y65 < 24)) = true then (if (0 : Int) ≤ y65 ∧ y65 < 24 then (if (0 : Int) ≤ (rd tbl_keccak_places y65) ∧ (rd tbl_keccak_places y65) < 25 then ((bits_RotateLeft64.f y66 (rd tbl_keccak_turns y65)).bind fun t1 => (rec3 (wr .i64 (y65 + 1)) (rd y67 (rd tbl_keccak_places y65)) (y67.set (Int.toNat (rd tbl_keccak_places y65)) t1))) else none) else none) else (keccak_round.j3 k y67)
def keccak_round.l3 (k : Nat) : Nat → Int → Int → (List Int) → Option ((List Int))
  | 0, _, _, _ => none
  | q + 1, y65, y66, y67 => keccak_round.b3 k (keccak_round.l3 k q) y65 y66 y67
def keccak_round.j2 (k : Nat) (y16 : List Int) : Option ((List Int)) := keccak_round.l3 k k 0 (rd y16 1) y16
def keccak_round.j6 (y80 : Int) (rec4 : Int → (List Int) → Option ((List Int))) (y86 : List Int) : Option ((List Int)) := rec4 (wr .i64 (y80 + 1)) y86
def keccak_round.b5 (y1 : List Int) (y80 : Int) (rec4 : Int → (List Int) → Option ((List Int))) (t3 : Int) (rec5 : Int → (List Int) → Option ((List Int))) (y89 : Int) (y90 : List Int) : Option ((List Int)) := if (decide (y89 < 25)) = true then (if (0 : Int) ≤ (wr .i64 (y80 + y89)) ∧ (wr .i64 (y80 + y89)) < 25 then (rec5 (wr .i64 (y89 + 5)) (y90.set (Int.toNat (wr .i64 (y80 + y89))) (bits .xor .u64 (rd y90 (wr .i64 (y80 + y89))) (bits .xor .u64 (rd y1 (Int.tmod (wr .i64 (y80 + 4)) 5)) t3)))) else none) else (keccak_round.j6 y80 rec4 y90)
def keccak_round.l5 (y1 : List Int) (y80 : Int) (rec4 : Int → (List Int) → Option ((List Int))) (t3 : Int) : Nat → Int → (List Int) → Option ((List Int))
  | 0, _, _ => none
  | q + 1, y89, y90 => keccak_round.b5 y1 y80 rec4 t3 (keccak_round.l5 y1 y80 rec4 t3 q) y89 y90
def keccak_round.b4 (k : Nat) (y1 : List Int) (rec4 : Int → (List Int) → Option ((List Int))) (y80 : Int) (y81 : List Int) : Option ((List Int)) := if (decide (y80 < 5)) = true then (if (0 : Int) ≤ (Int.tmod (wr .i64 (y80 + 4)) 5) ∧ (Int.tmod (wr .i64 (y80 + 4)) 5) < 5 then (if (0 : Int) ≤ (Int.tmod (wr .i64 (y80 + 1)) 5) ∧ (Int.tmod (wr .i64 (y80 + 1)) 5) < 5 then ((bits_RotateLeft64.f (rd y1 (Int.tmod (wr .i64 (y80 + 1)) 5)) 1).bind fun t3 => (keccak_round.l5 y1 y80 rec4 t3 k 0 y81)) else none) else none) else (keccak_round.j2 k y81)
def keccak_round.l4 (k : Nat) (y1 : List Int) : Nat → Int → (List Int) → Option ((List Int))
  | 0, _, _ => none
  | q + 1, y80, y81 => keccak_round.b4 k y1 (keccak_round.l4 k y1 q) y80 y81
def keccak_round.j1 (k : Nat) (x1 : List Int) (y1 : List Int) : Option ((List Int)) := keccak_round.l4 k y1 k 0 x1
def keccak_round.b6 (k : Nat) (x1 : List Int) (rec6 : Int → (List Int) → Option ((List Int))) (y93 : Int) (y94 : List Int) : Option ((List Int)) := if (decide (y93 < 5)) = true then (if (0 : Int) ≤ y93 ∧ y93 < 25 then (if (0 : Int) ≤ (wr .i64 (y93 + 5)) ∧ (wr .i64 (y93 + 5)) < 25 then (if (0 : Int) ≤ (wr .i64 (y93 + 10)) ∧ (wr .i64 (y93 + 10)) < 25 then (if (0 : Int) ≤ (wr .i64 (y93 + 15)) ∧ (wr .i64 (y93 + 15)) < 25 then (if (0 : Int) ≤ (wr .i64 (y93 + 20)) ∧ (wr .i64 (y93 + 20)) < 25 then (if (0 : Int) ≤ y93 ∧ y93 < 5 then (rec6 (wr .i64 (y93 + 1)) (y94.set (Int.toNat y93) (bits .xor .u64 (bits .xor .u64 (bits .xor .u64 (bits .xor .u64 (rd x1 y93) (rd x1 (wr .i64 (y93 + 5)))) (rd x1 (wr .i64 (y93 + 10)))) (rd x1 (wr .i64 (y93 + 15)))) (rd x1 (wr .i64 (y93 + 20)))))) else none) else none) else none) else none) else none) else none) else (keccak_round.j1 k x1 y94)
def keccak_round.l6 (k : Nat) (x1 : List Int) : Nat → Int → (List Int) → Option ((List Int))
  | 0, _, _ => none
  | q + 1, y93, y94 => keccak_round.b6 k x1 (keccak_round.l6 k x1 q) y93 y94
def keccak_round.f (k : Nat) (x1 : List Int) : Option ((List Int)) := keccak_round.l6 k x1 k 0 [0, 0, 0, 0, 0]
theorem keccak_round.ok (k : Nat) : keccak_round.Ctr (keccak_round.f k) := by
 intro x1 r h0 mi w0 G ok hm
 delta keccak_round.f at h0
 refine c_enterZ (n := 126) ok hm func80 rfl rfl rfl fun b0 hb a S => ?_
 replace S := S.addfro (g := 2) 138 G.2.2
 replace S := S.addfro (g := 1) 138 G.2.1
 replace S := S.addfro (g := 0) 83 G.1
 refine c_region (s_box S rfl rfl rfl fun g1 a w S => s_alloc S Z57 rfl ⟨rfl, trivial⟩ rfl fun g2 a w S => c_end (c_region (s_alloc S Z119 rfl ⟨rfl, trivial⟩ rfl fun g3 a w S => c_end (wp_seq_k fun K1 hK1 => ?_))))
 have j1 : ∀ m g13 g14 g15 y1 a w, St 126 m b0 [(3, (.p g13)), (2, (.p g14)), (1, (.p g15))] [Res.cells g13 119 [.ints .u64 y1 5], Res.cells g14 57 [.ints .u64 z25 25], Res.cells g15 57 [.ints .u64 x1 25], Res.fro 0 83 [.ints .u64 tbl_keccak_constants 24], Res.fro 1 138 [.ints .i64 tbl_keccak_places 24], Res.fro 2 138 [.ints .i64 tbl_keccak_turns 24]] a w → keccak_round.j1 k x1 y1 = some r → K1 a w := by
  intro m g13 g14 g15 y1 a w S h0
  delta keccak_round.j1 at h0
  refine hK1 a w (wp_seq_k fun K2 hK2 => ?_)
  have j2 : ∀ m g49 g50 y16 a w, St 126 m b0 [(2, (.p g49)), (1, (.p g50))] [Res.cells g49 57 [.ints .u64 z25 25], Res.cells g50 57 [.ints .u64 y16 25], Res.fro 0 83 [.ints .u64 tbl_keccak_constants 24], Res.fro 1 138 [.ints .i64 tbl_keccak_places 24], Res.fro 2 138 [.ints .i64 tbl_keccak_turns 24]] a w → keccak_round.j2 k y16 = some r → K2 a w := by
   intro m g49 g50 y16 a w S h0
   delta keccak_round.j2 at h0
   refine hK2 a w (c_region (s_iaddr S (o' := 1) rfl rfl underlying57 T52 (by decide) (by decide) rfl rfl fun a S => s_loadi S (i := 1) rfl .h1 T52 .h rfl (by decide) (by decide) rfl fun a S => s_assign S rfl rfl fun a S => c_end (wp_seq_k fun K3 hK3 => ?_)))
   have j3 : ∀ m g57 g58 y23 a w, St 126 m b0 [(2, (.p g57)), (1, (.p g58))] [Res.cells g57 57 [.ints .u64 z25 25], Res.cells g58 57 [.ints .u64 y23 25], Res.fro 0 83 [.ints .u64 tbl_keccak_constants 24], Res.fro 1 138 [.ints .i64 tbl_keccak_places 24], Res.fro 2 138 [.ints .i64 tbl_keccak_turns 24]] a w → keccak_round.j3 k y23 = some r → K3 a w := by
    intro m g57 g58 y23 a w S h0
    delta keccak_round.j3 at h0
    refine hK3 a w (wp_seq_k fun K4 hK4 => ?_)
    have j4 : ∀ m g89 g90 y38 a w, St 126 m b0 [(2, (.p g89)), (1, (.p g90))] [Res.cells g89 57 [.ints .u64 z25 25], Res.cells g90 57 [.ints .u64 y38 25], Res.fro 0 83 [.ints .u64 tbl_keccak_constants 24], Res.fro 1 138 [.ints .i64 tbl_keccak_places 24], Res.fro 2 138 [.ints .i64 tbl_keccak_turns 24]] a w → keccak_round.j4 y38 = some r → K4 a w := by
     intro m g89 g90 y38 a w S h0
     delta keccak_round.j4 at h0
     refine hK4 a w (c_region (s_loada S rfl .h1 T57 (s' := [.ints .u64 y38 25]) rfl rfl fun a S => s_store S rfl rfl rfl (s' := [.ints .u64 y38 25]) .h T57 rfl rfl fun w S => c_end (wp_ret ?_)))
     obtain rfl := Option.some.inj h0
     exact b_ret1 (d := (.agg [.ints .u64 y38 25])) S rfl (resD_cell rfl .h T57 rfl rfl) (S.rt hb)
    refine c_region (s_assign S rfl rfl fun a S => c_end (wp_block ?_))
    refine c_loop (fun q1 a w => ∃ m y51 g119 g120 y52, St 126 m b0 [(12, (.i y51)), (2, (.p g119)), (1, (.p g120))] [Res.cells g119 57 [.ints .u64 z25 25], Res.cells g120 57 [.ints .u64 y52 25], Res.fro 0 83 [.ints .u64 tbl_keccak_constants 24], Res.fro 1 138 [.ints .i64 tbl_keccak_places 24], Res.fro 2 138 [.ints .i64 tbl_keccak_turns 24]] a w ∧ keccak_round.l1 k q1 y51 y52 = some r) ?_ ?_ (k := k) ⟨_, 0, g57, g58, y23, (S.sb rfl (.c0 (.c0 (.c0 (.c0 (.c0 .n)))))), h0⟩
    ·rintro a w ⟨m, y51, g119, g120, y52, S, h0⟩
     exact (nomatch (show (none : Option ((List Int))) = some r from h0))
    ·clear S h0
     rintro q1 a w ⟨m, y51, g119, g120, y52, S, h0⟩
     replace h0 : keccak_round.b1 k (keccak_round.l1 k q1) y51 y52 = some r := h0
     delta keccak_round.b1 at h0
     refine wp_seq (c_region (s_move S rfl rfl fun a S => s_bin S rfl rfl rfl rfl fun a S => c_end ?_))
     rcases ite_of h0 with ⟨c1, h1⟩ | ⟨c1, h1⟩
     ·refine c_condT S rfl c1 (wp_skip (x_thenN (wp_seq_k fun K5 hK5 => ?_)))
      have j5 : ∀ m g131 g132 y57 a w, St 126 m b0 [(12, (.i y51)), (2, (.p g131)), (1, (.p g132))] [Res.cells g131 57 [.ints .u64 z25 25], Res.cells g132 57 [.ints .u64 y57 25], Res.fro 0 83 [.ints .u64 tbl_keccak_constants 24], Res.fro 1 138 [.ints .i64 tbl_keccak_places 24], Res.fro 2 138 [.ints .i64 tbl_keccak_turns 24]] a w → keccak_round.j5 y51 (keccak_round.l1 k q1) y57 = some r → K5 a w := by
       intro m g131 g132 y57 a w S h0
       delta keccak_round.j5 at h0
       refine hK5 a w (c_region' (s_move S rfl rfl fun a S => s_bin S rfl rfl rfl rfl fun a S => s_assign S rfl rfl fun a S => c_end' (x_thenN ?_)))
       exact ⟨_, (wr .i64 (y51 + 5)), g131, g132, y57, (S.sb rfl (.c0 (.c0 (.c0 (.c0 (.c0 .n)))))), h0⟩
      refine wp_block (c_region (s_move S rfl rfl fun a S => s_move S rfl rfl fun a S => s_bin S rfl rfl rfl rfl fun a S => ?_))
      obtain ⟨c2, h2⟩ := chk_of h1; clear h1
      refine s_sliceA S (i := y51) (j := (wr .i64 (y51 + 5))) (o' := if 25 = Int.toNat y51 then 0 else 0 + Int.toNat y51 * 1) (len := Int.toNat (wr .i64 (y51 + 5)) - Int.toNat y51) (cap := 25 - Int.toNat y51) rfl underlying57 T52 (.inr ⟨_, _, rfl, rfl⟩) (.inr ⟨_, _, rfl, rfl⟩) c2 rfl rfl rfl rfl fun a S => ?_
      obtain ⟨c3, h3⟩ := chk_of h2; clear h2
      refine s_arrp S rfl underlying119 c3 rfl fun a S => s_ldInts S (lo := (Int.toNat y51)) (ys := ((y52).drop (Int.toNat y51)).take 5) rfl .h1 T119 .h (ho_rng c2 c3) (by have h := c2; have h' := c3; omega) rfl rfl fun a S => s_alloc S Z119 rfl ⟨rfl, trivial⟩ rfl fun g133 a w S => s_store S rfl rfl rfl (s' := [.ints .u64 (((y52).drop (Int.toNat y51)).take 5) 5]) .h T119 rfl rfl fun w S => c_end (c_region (s_move S rfl rfl fun a S => c_end (wp_block ?_)))
      refine c_loop (fun q2 a w => ∃ m y60 g140 g141 g142 y61, St 126 m b0 [(101, (.i y60)), (13, (.p g140)), (12, (.i y51)), (2, (.p g141)), (1, (.p g142))] [Res.cells g140 119 [.ints .u64 (((y52).drop (Int.toNat y51)).take 5) 5], Res.cells g141 57 [.ints .u64 z25 25], Res.cells g142 57 [.ints .u64 y61 25], Res.fro 0 83 [.ints .u64 tbl_keccak_constants 24], Res.fro 1 138 [.ints .i64 tbl_keccak_places 24], Res.fro 2 138 [.ints .i64 tbl_keccak_turns 24]] a w ∧ keccak_round.l2 y51 y52 (keccak_round.l1 k q1) q2 y60 y61 = some r) ?_ ?_ (k := k) ⟨_, 0, g133, g119, g120, y52, (S.sb rfl (.c0 (.c0 (.c0 (.c0 (.c0 (.c0 .n))))))), h3⟩
      ·rintro a w ⟨m, y60, g140, g141, g142, y61, S, h0⟩
       exact (nomatch (show (none : Option ((List Int))) = some r from h0))
      ·clear S h3
       rintro q2 a w ⟨m, y60, g140, g141, g142, y61, S, h0⟩
       replace h0 : keccak_round.b2 y51 y52 (keccak_round.l1 k q1) (keccak_round.l2 y51 y52 (keccak_round.l1 k q1) q2) y60 y61 = some r := h0
       delta keccak_round.b2 at h0
       refine c_region (s_bin S rfl rfl rfl rfl fun a S => c_end (wp_seq ?_))
       rcases ite_of h0 with ⟨c4, h1⟩ | ⟨c4, h1⟩
       ·refine c_condT S rfl c4 (wp_skip (x_thenN (wp_seq (wp_block (c_region (s_move S rfl rfl fun a S => s_assign S rfl rfl fun a S => c_end (c_heldS S (.take 0 (.take 1 (.take 2 (.take 3 (.take 4 (.take 5 (.take 6 (.take 7 (.take 8 (.take 9 (.take 10 (.take 11 (.take 12 (.take 13 (.take 14 (.take 15 (.take 16 (.take 17 (.take 18 (.take 19 (.alts (.run 20 false .done .nil)))))))))))))))))))))) 20 [Res.cells g140 119 [.ints .u64 (((y52).drop (Int.toNat y51)).take 5) 5], Res.cells g141 57 [.ints .u64 z25 25], Res.cells g142 57 [.ints .u64 y61 25], Res.fro 0 83 [.ints .u64 tbl_keccak_constants 24], Res.fro 1 138 [.ints .i64 tbl_keccak_places 24], Res.fro 2 138 [.ints .i64 tbl_keccak_turns 24]] (.c0 (.c0 (.c0 (.c0 (.c0 (.c0 .n)))))) ⟨Res.stay_cells, Res.stay_cells, Res.stay_cells, Res.stay_fro, Res.stay_fro, Res.stay_fro, trivial⟩ [(14, (.i y60)), (13, (.p g140)), (12, (.i y51)), (1, (.p g142))] (subR rfl) (by kernel_rfl) (by kernel_rfl) fun w S CL hw le => ?_)))))))
        refine h_move S CL hw le (subR rfl) rfl rfl rfl trivial fun a S CL => h_move S CL hw le (subR rfl) rfl rfl rfl trivial fun a S CL => h_bin S CL hw le (subR rfl) rfl rfl rfl rfl rfl trivial fun a S CL => h_move S CL hw le (subR rfl) rfl rfl rfl trivial fun a S CL => ?_
        obtain ⟨c5, h2⟩ := chk_of h1; clear h1
        refine h_iaddr S CL hw le (subR rfl) rfl rfl underlying119 T52 c5.1 c5.2 (mul1 _ _) rfl rfl trivial fun a S CL => h_loadi S CL hw le (subR rfl) (i := y60) rfl .h T52 .h rfl c5.1 c5.2 rfl rfl trivial fun a S CL => h_move S CL hw le (subR rfl) rfl rfl rfl trivial fun a S CL => h_bin S CL hw le (subR rfl) rfl rfl rfl rfl rfl trivial fun a S CL => h_rem S CL hw le (subR rfl) rfl rfl (by decide) rfl rfl trivial fun a S CL => ?_
        obtain ⟨c6, h3⟩ := chk_of h2; clear h2
        refine h_iaddr S CL hw le (subR rfl) rfl rfl underlying119 T52 c6.1 c6.2 (mul1 _ _) rfl rfl trivial fun a S CL => h_loadi S CL hw le (subR rfl) (i := (Int.tmod (wr .i64 (y60 + 1)) 5)) rfl .h T52 .h rfl c6.1 c6.2 rfl rfl trivial fun a S CL => h_un S CL hw le (subR rfl) rfl rfl rfl rfl trivial fun a S CL => h_move S CL hw le (subR rfl) rfl rfl rfl trivial fun a S CL => h_bin S CL hw le (subR rfl) rfl rfl rfl rfl rfl trivial fun a S CL => h_rem S CL hw le (subR rfl) rfl rfl (by decide) rfl rfl trivial fun a S CL => ?_
        obtain ⟨c7, h4⟩ := chk_of h3; clear h3
        refine h_iaddr S CL hw le (subR rfl) rfl rfl underlying119 T52 c7.1 c7.2 (mul1 _ _) rfl rfl trivial fun a S CL => h_loadi S CL hw le (subR rfl) (i := (Int.tmod (wr .i64 (y60 + 2)) 5)) rfl .h T52 .h rfl c7.1 c7.2 rfl rfl trivial fun a S CL => h_bin S CL hw le (subR rfl) rfl rfl rfl rfl rfl trivial fun a S CL => h_bin S CL hw le (subR rfl) rfl rfl rfl rfl rfl trivial fun a S CL => ?_
        obtain ⟨c8, h5⟩ := chk_of h4; clear h4
        refine h_iaddr S CL hw le (subR rfl) rfl rfl underlying57 T52 c8.1 c8.2 (mul1 _ _) rfl rfl trivial fun a S CL => h_run' S rfl trivial (s_storei S (i := (wr .i64 (y60 + y51))) rfl rfl .h2 T52 .h rfl c8.1 c8.2 fun w S => ?_)
        refine h_back ⟨fun h => (nomatch h), ?_⟩
        refine h_done ?_; clear CL hw le
        refine x_blockN (x_thenN (c_region' (s_bin S rfl rfl rfl rfl fun a S => s_move S rfl rfl fun a S => c_end' (x_thenN ?_))))
        exact ⟨_, (wr .i64 (y60 + 1)), g140, g141, g142, (y61.set (Int.toNat (wr .i64 (y60 + y51))) (bits .xor .u64 (rd (((y52).drop (Int.toNat y51)).take 5) y60) (bits .and .u64 (bnot .u64 (rd (((y52).drop (Int.toNat y51)).take 5) (Int.tmod (wr .i64 (y60 + 1)) 5))) (rd (((y52).drop (Int.toNat y51)).take 5) (Int.tmod (wr .i64 (y60 + 2)) 5))))), (S.sb rfl (.c0 (.c0 (.c0 (.c0 (.c0 (.c0 .n))))))), h5⟩
       ·refine c_condF S rfl c4 (wp_exit (x_thenX (x_thenX (x_blockX (x_blockN (x_thenN ?_))))))
        exact j5 _ g141 g142 y61 a w (S.sb rfl (.c1 (.c1 (.c1 (.c1 (.c1 .n)))))) h1
     ·refine c_condF S rfl c1 (wp_exit (x_thenX (x_thenX (x_blockX (x_thenN ?_)))))
      exact j4 _ g119 g120 y52 a w (S.sb rfl (.c0 (.c0 (.c0 (.c0 (.c0 .n)))))) h1
   refine c_region (s_loadaF S rfl .h3 T138 (s' := [.ints .i64 tbl_keccak_places 24]) rfl rfl fun a S => s_move S rfl rfl fun a S => c_end (wp_block ?_))
   refine c_loop (fun q3 a w => ∃ m y65 y66 g147 g148 y67, St 126 m b0 [(75, (.i y65)), (74, (.agg [.ints .i64 tbl_keccak_places 24])), (8, (.w y66)), (2, (.p g147)), (1, (.p g148))] [Res.cells g147 57 [.ints .u64 z25 25], Res.cells g148 57 [.ints .u64 y67 25], Res.fro 0 83 [.ints .u64 tbl_keccak_constants 24], Res.fro 1 138 [.ints .i64 tbl_keccak_places 24], Res.fro 2 138 [.ints .i64 tbl_keccak_turns 24]] a w ∧ keccak_round.l3 k q3 y65 y66 y67 = some r) ?_ ?_ (k := k) ⟨_, 0, (rd y16 1), g49, g50, y16, (S.sb rfl (.c0 (.c0 (.c0 (.c0 (.c0 .n)))))), h0⟩
   ·rintro a w ⟨m, y65, y66, g147, g148, y67, S, h0⟩
    exact (nomatch (show (none : Option ((List Int))) = some r from h0))
   ·clear S h0
    rintro q3 a w ⟨m, y65, y66, g147, g148, y67, S, h0⟩
    replace h0 : keccak_round.b3 k (keccak_round.l3 k q3) y65 y66 y67 = some r := h0
    delta keccak_round.b3 at h0
    refine c_region (s_bin S rfl rfl rfl rfl fun a S => c_end (wp_seq ?_))
    rcases ite_of h0 with ⟨c9, h1⟩ | ⟨c9, h1⟩
    ·refine c_condT S rfl c9 (wp_skip (x_thenN (wp_seq (wp_block (c_region (s_move S rfl rfl fun a S => ?_))))))
     obtain ⟨c10, h2⟩ := chk_of h1; clear h1
     refine s_index S rfl rfl underlying138 T3 c10.1 c10.2 rfl fun a S => s_assign S rfl rfl fun a S => s_assign S rfl rfl fun a S => c_end (c_region (s_move S rfl rfl fun a S => ?_))
     obtain ⟨c11, h3⟩ := chk_of h2; clear h2
     refine s_iaddr S rfl rfl underlying57 T52 c11.1 c11.2 (mul1 _ _) rfl fun a S => s_loadi S (i := (rd tbl_keccak_places y65)) rfl .h1 T52 .h rfl c11.1 c11.2 rfl fun a S => s_assign S rfl rfl fun a S => c_end (c_region (s_move S rfl rfl fun a S => s_move S rfl rfl fun a S => s_move S rfl rfl fun a S => s_iaddr S rfl rfl underlying138 T3 c10.1 c10.2 (mul1 _ _) rfl fun a S => s_loadiF S (i := y65) rfl .h4 T3 .h rfl c10.1 c10.2 rfl fun a S => bindX h3 fun t1 et1 h4 => s_callP S _ N85 rfl rfl (bits_RotateLeft64.ok y66 (rd tbl_keccak_turns y65) t1 et1 _ _) fun ch1 m le1 a w S => s_iaddr S rfl rfl underlying57 T52 c11.1 c11.2 (mul1 _ _) rfl fun a S => s_storei S (i := (rd tbl_keccak_places y65)) rfl rfl .h1 T52 .h rfl c11.1 c11.2 fun w S => c_end (c_region' (s_move S rfl rfl fun a S => s_assign S rfl rfl fun a S => c_end' (x_blockN (x_thenN (c_region' (s_bin S rfl rfl rfl rfl fun a S => s_move S rfl rfl fun a S => c_end' (x_thenN ?_)))))))))
     exact ⟨_, (wr .i64 (y65 + 1)), (rd y67 (rd tbl_keccak_places y65)), g147, g148, (y67.set (Int.toNat (rd tbl_keccak_places y65)) t1), (S.sb rfl (.c0 (.c0 (.c0 (.c0 (.c0 .n)))))), h4⟩
    ·refine c_condF S rfl c9 (wp_exit (x_thenX (x_thenX (x_blockX (x_thenN ?_)))))
     exact j3 _ g147 g148 y67 a w (S.sb rfl (.c0 (.c0 (.c0 (.c0 (.c0 .n)))))) h1
  refine c_region (s_move S rfl rfl fun a S => c_end (wp_block ?_))
  refine c_loop (fun q4 a w => ∃ m y80 g179 g180 g181 y81, St 126 m b0 [(44, (.i y80)), (3, (.p g179)), (2, (.p g180)), (1, (.p g181))] [Res.cells g179 119 [.ints .u64 y1 5], Res.cells g180 57 [.ints .u64 z25 25], Res.cells g181 57 [.ints .u64 y81 25], Res.fro 0 83 [.ints .u64 tbl_keccak_constants 24], Res.fro 1 138 [.ints .i64 tbl_keccak_places 24], Res.fro 2 138 [.ints .i64 tbl_keccak_turns 24]] a w ∧ keccak_round.l4 k y1 q4 y80 y81 = some r) ?_ ?_ (k := k) ⟨_, 0, g13, g14, g15, x1, (S.sb rfl (.c0 (.c0 (.c0 (.c0 (.c0 (.c0 .n))))))), h0⟩
  ·rintro a w ⟨m, y80, g179, g180, g181, y81, S, h0⟩
   exact (nomatch (show (none : Option ((List Int))) = some r from h0))
  ·clear S h0
   rintro q4 a w ⟨m, y80, g179, g180, g181, y81, S, h0⟩
   replace h0 : keccak_round.b4 k y1 (keccak_round.l4 k y1 q4) y80 y81 = some r := h0
   delta keccak_round.b4 at h0
   refine c_region (s_bin S rfl rfl rfl rfl fun a S => c_end (wp_seq ?_))
   rcases ite_of h0 with ⟨c12, h1⟩ | ⟨c12, h1⟩
   ·refine c_condT S rfl c12 (wp_skip (x_thenN (wp_seq_k fun K6 hK6 => ?_)))
    have j6 : ∀ m g191 g192 g193 y86 a w, St 126 m b0 [(44, (.i y80)), (3, (.p g191)), (2, (.p g192)), (1, (.p g193))] [Res.cells g191 119 [.ints .u64 y1 5], Res.cells g192 57 [.ints .u64 z25 25], Res.cells g193 57 [.ints .u64 y86 25], Res.fro 0 83 [.ints .u64 tbl_keccak_constants 24], Res.fro 1 138 [.ints .i64 tbl_keccak_places 24], Res.fro 2 138 [.ints .i64 tbl_keccak_turns 24]] a w → keccak_round.j6 y80 (keccak_round.l4 k y1 q4) y86 = some r → K6 a w := by
     intro m g191 g192 g193 y86 a w S h0
     delta keccak_round.j6 at h0
     refine hK6 a w (c_region' (s_bin S rfl rfl rfl rfl fun a S => s_move S rfl rfl fun a S => c_end' (x_thenN ?_)))
     exact ⟨_, (wr .i64 (y80 + 1)), g191, g192, g193, y86, (S.sb rfl (.c0 (.c0 (.c0 (.c0 (.c0 (.c0 .n))))))), h0⟩
    refine wp_block (c_region (s_move S rfl rfl fun a S => s_assign S rfl rfl fun a S => c_end ?_))
    refine wp_seq (c_heldS S (.take 0 (.take 1 (.take 2 (.take 3 (.take 4 (.take 5 (.take 6 (.take 7 (.take 8 (.take 9 (.alts (.run 10 true (.take 11 (.take 12 .done)) .nil)))))))))))) 13 [Res.cells g179 119 [.ints .u64 y1 5], Res.cells g180 57 [.ints .u64 z25 25], Res.cells g181 57 [.ints .u64 y81 25], Res.fro 0 83 [.ints .u64 tbl_keccak_constants 24], Res.fro 1 138 [.ints .i64 tbl_keccak_places 24], Res.fro 2 138 [.ints .i64 tbl_keccak_turns 24]] (.c0 (.c0 (.c0 (.c0 (.c0 (.c0 .n)))))) ⟨Res.stay_cells, Res.stay_cells, Res.stay_cells, Res.stay_fro, Res.stay_fro, Res.stay_fro, trivial⟩ [(5, (.i y80)), (3, (.p g179))] (subR rfl) (by kernel_rfl) (by kernel_rfl) ?_); clear S; intro w S CL hw le
    refine h_move S CL hw le (subR rfl) rfl rfl rfl trivial fun a S CL => h_bin S CL hw le (subR rfl) rfl rfl rfl rfl rfl trivial fun a S CL => h_rem S CL hw le (subR rfl) rfl rfl (by decide) rfl rfl trivial fun a S CL => ?_
    obtain ⟨c13, h2⟩ := chk_of h1; clear h1
    refine h_iaddr S CL hw le (subR rfl) rfl rfl underlying119 T52 c13.1 c13.2 (mul1 _ _) rfl rfl trivial fun a S CL => h_loadi S CL hw le (subR rfl) (i := (Int.tmod (wr .i64 (y80 + 4)) 5)) rfl .h T52 .h rfl c13.1 c13.2 rfl rfl trivial fun a S CL => h_move S CL hw le (subR rfl) rfl rfl rfl trivial fun a S CL => h_bin S CL hw le (subR rfl) rfl rfl rfl rfl rfl trivial fun a S CL => h_rem S CL hw le (subR rfl) rfl rfl (by decide) rfl rfl trivial fun a S CL => ?_
    obtain ⟨c14, h3⟩ := chk_of h2; clear h2
    refine h_iaddr S CL hw le (subR rfl) rfl rfl underlying119 T52 c14.1 c14.2 (mul1 _ _) rfl rfl trivial fun a S CL => h_loadi S CL hw le (subR rfl) (i := (Int.tmod (wr .i64 (y80 + 1)) 5)) rfl .h T52 .h rfl c14.1 c14.2 rfl rfl trivial fun a S CL => h_run' S rfl trivial (bindX h3 fun t3 et3 h4 => s_callP S _ N85 rfl rfl (bits_RotateLeft64.ok (rd y1 (Int.tmod (wr .i64 (y80 + 1)) 5)) 1 t3 et3 _ _) fun ch2 m le1 a w S => ?_)
    replace le := le.trans le1
    refine CL.bk hw S (.c0 (.c0 (.c0 (.c0 (.c0 (.c0 .n)))))) le fun hw => ?_
    replace CL := CL.add (t := 57) (d := (.w t3)) S rfl rfl
    refine h_bin S CL hw le (subR rfl) rfl rfl rfl rfl rfl trivial fun a S CL => h_assign S CL hw le (subR rfl) rfl rfl rfl trivial fun a S CL => ?_
    refine h_done ?_; clear CL hw le
    refine x_thenN (c_region (s_assign S rfl rfl fun a S => c_end (wp_block ?_)))
    refine c_loop (fun q5 a w => ∃ m y89 g200 g201 g202 y90, St 126 m b0 [(7, (.i y89)), (6, (.w (bits .xor .u64 (rd y1 (Int.tmod (wr .i64 (y80 + 4)) 5)) t3))), (5, (.i y80)), (44, (.i y80)), (3, (.p g200)), (2, (.p g201)), (1, (.p g202))] [Res.cells g200 119 [.ints .u64 y1 5], Res.cells g201 57 [.ints .u64 z25 25], Res.cells g202 57 [.ints .u64 y90 25], Res.fro 0 83 [.ints .u64 tbl_keccak_constants 24], Res.fro 1 138 [.ints .i64 tbl_keccak_places 24], Res.fro 2 138 [.ints .i64 tbl_keccak_turns 24]] a w ∧ keccak_round.l5 y1 y80 (keccak_round.l4 k y1 q4) t3 q5 y89 y90 = some r) ?_ ?_ (k := k) ⟨_, 0, g179, g180, g181, y81, (S.sb rfl (.c0 (.c0 (.c0 (.c0 (.c0 (.c0 .n))))))), h4⟩
    ·rintro a w ⟨m, y89, g200, g201, g202, y90, S, h0⟩
     exact (nomatch (show (none : Option ((List Int))) = some r from h0))
    ·clear S h4
     rintro q5 a w ⟨m, y89, g200, g201, g202, y90, S, h0⟩
     replace h0 : keccak_round.b5 y1 y80 (keccak_round.l4 k y1 q4) t3 (keccak_round.l5 y1 y80 (keccak_round.l4 k y1 q4) t3 q5) y89 y90 = some r := h0
     delta keccak_round.b5 at h0
     refine wp_seq (c_region (s_move S rfl rfl fun a S => s_bin S rfl rfl rfl rfl fun a S => c_end ?_))
     rcases ite_of h0 with ⟨c15, h1⟩ | ⟨c15, h1⟩
     ·refine c_condT S rfl c15 (wp_skip (x_thenN (wp_seq (wp_block (c_region' (s_move S rfl rfl fun a S => s_move S rfl rfl fun a S => s_bin S rfl rfl rfl rfl fun a S => ?_))))))
      obtain ⟨c16, h2⟩ := chk_of h1; clear h1
      refine s_iaddr S rfl rfl underlying57 T52 c16.1 c16.2 (mul1 _ _) rfl fun a S => s_loadi S (i := (wr .i64 (y80 + y89))) rfl .h2 T52 .h rfl c16.1 c16.2 rfl fun a S => s_move S rfl rfl fun a S => s_bin S rfl rfl rfl rfl fun a S => s_iaddr S rfl rfl underlying57 T52 c16.1 c16.2 (mul1 _ _) rfl fun a S => s_storei S (i := (wr .i64 (y80 + y89))) rfl rfl .h2 T52 .h rfl c16.1 c16.2 fun w S => c_end' (x_blockN (x_thenN (c_region' (s_move S rfl rfl fun a S => s_bin S rfl rfl rfl rfl fun a S => s_assign S rfl rfl fun a S => c_end' (x_thenN ?_)))))
      exact ⟨_, (wr .i64 (y89 + 5)), g200, g201, g202, (y90.set (Int.toNat (wr .i64 (y80 + y89))) (bits .xor .u64 (rd y90 (wr .i64 (y80 + y89))) (bits .xor .u64 (rd y1 (Int.tmod (wr .i64 (y80 + 4)) 5)) t3))), (S.sb rfl (.c0 (.c0 (.c0 (.c0 (.c0 (.c0 .n))))))), h2⟩
     ·refine c_condF S rfl c15 (wp_exit (x_thenX (x_thenX (x_blockX (x_blockN (x_thenN ?_))))))
      exact j6 _ g200 g201 g202 y90 a w (S.sb rfl (.c0 (.c0 (.c0 (.c0 (.c0 (.c0 .n))))))) h1
   ·refine c_condF S rfl c12 (wp_exit (x_thenX (x_thenX (x_blockX (x_thenN ?_)))))
    exact j2 _ g180 g181 y81 a w (S.sb rfl (.c1 (.c1 (.c1 (.c1 (.c1 .n)))))) h1
 refine c_region (s_move S rfl rfl fun a S => c_end (wp_block ?_))
 refine c_loop (fun q6 a w => ∃ m y93 g209 g210 g211 y94, St 126 m b0 [(15, (.i y93)), (3, (.p g209)), (2, (.p g210)), (1, (.p g211))] [Res.cells g209 119 [.ints .u64 y94 5], Res.cells g210 57 [.ints .u64 z25 25], Res.cells g211 57 [.ints .u64 x1 25], Res.fro 0 83 [.ints .u64 tbl_keccak_constants 24], Res.fro 1 138 [.ints .i64 tbl_keccak_places 24], Res.fro 2 138 [.ints .i64 tbl_keccak_turns 24]] a w ∧ keccak_round.l6 k x1 q6 y93 y94 = some r) ?_ ?_ (k := k) ⟨_, 0, g3, g2, g1, [0, 0, 0, 0, 0], (S.sb rfl (.c0 (.c0 (.c0 (.c0 (.c0 (.c0 .n))))))), h0⟩
 ·rintro a w ⟨m, y93, g209, g210, g211, y94, S, h0⟩
  exact (nomatch (show (none : Option ((List Int))) = some r from h0))
 ·clear S h0
  rintro q6 a w ⟨m, y93, g209, g210, g211, y94, S, h0⟩
  replace h0 : keccak_round.b6 k x1 (keccak_round.l6 k x1 q6) y93 y94 = some r := h0
  delta keccak_round.b6 at h0
  refine c_region (s_bin S rfl rfl rfl rfl fun a S => c_end (wp_seq ?_))
  rcases ite_of h0 with ⟨c17, h1⟩ | ⟨c17, h1⟩
  ·refine c_condT S rfl c17 (wp_skip (x_thenN (wp_seq (wp_block (c_region (s_move S rfl rfl fun a S => s_assign S rfl rfl fun a S => c_end (c_heldS S (.take 0 (.take 1 (.take 2 (.take 3 (.take 4 (.take 5 (.take 6 (.take 7 (.take 8 (.take 9 (.take 10 (.take 11 (.take 12 (.take 13 (.take 14 (.take 15 (.take 16 (.take 17 (.take 18 (.take 19 (.take 20 (.take 21 (.take 22 (.take 23 (.take 24 (.alts (.run 25 false .done .nil))))))))))))))))))))))))))) 25 [Res.cells g209 119 [.ints .u64 y94 5], Res.cells g210 57 [.ints .u64 z25 25], Res.cells g211 57 [.ints .u64 x1 25], Res.fro 0 83 [.ints .u64 tbl_keccak_constants 24], Res.fro 1 138 [.ints .i64 tbl_keccak_places 24], Res.fro 2 138 [.ints .i64 tbl_keccak_turns 24]] (.c0 (.c0 (.c0 (.c0 (.c0 (.c0 .n)))))) ⟨Res.stay_cells, Res.stay_cells, Res.stay_cells, Res.stay_fro, Res.stay_fro, Res.stay_fro, trivial⟩ [(4, (.i y93)), (3, (.p g209)), (1, (.p g211))] (subR rfl) (by kernel_rfl) (by kernel_rfl) fun w S CL hw le => ?_)))))))
   refine h_move S CL hw le (subR rfl) rfl rfl rfl trivial fun a S CL => h_move S CL hw le (subR rfl) rfl rfl rfl trivial fun a S CL => ?_
   obtain ⟨c18, h2⟩ := chk_of h1; clear h1
   refine h_iaddr S CL hw le (subR rfl) rfl rfl underlying57 T52 c18.1 c18.2 (mul1 _ _) rfl rfl trivial fun a S CL => h_loadi S CL hw le (subR rfl) (i := y93) rfl .h2 T52 .h rfl c18.1 c18.2 rfl rfl trivial fun a S CL => h_move S CL hw le (subR rfl) rfl rfl rfl trivial fun a S CL => h_bin S CL hw le (subR rfl) rfl rfl rfl rfl rfl trivial fun a S CL => ?_
   obtain ⟨c19, h3⟩ := chk_of h2; clear h2
   refine h_iaddr S CL hw le (subR rfl) rfl rfl underlying57 T52 c19.1 c19.2 (mul1 _ _) rfl rfl trivial fun a S CL => h_loadi S CL hw le (subR rfl) (i := (wr .i64 (y93 + 5))) rfl .h2 T52 .h rfl c19.1 c19.2 rfl rfl trivial fun a S CL => h_bin S CL hw le (subR rfl) rfl rfl rfl rfl rfl trivial fun a S CL => h_move S CL hw le (subR rfl) rfl rfl rfl trivial fun a S CL => h_bin S CL hw le (subR rfl) rfl rfl rfl rfl rfl trivial fun a S CL => ?_
   obtain ⟨c20, h4⟩ := chk_of h3; clear h3
   refine h_iaddr S CL hw le (subR rfl) rfl rfl underlying57 T52 c20.1 c20.2 (mul1 _ _) rfl rfl trivial fun a S CL => h_loadi S CL hw le (subR rfl) (i := (wr .i64 (y93 + 10))) rfl .h2 T52 .h rfl c20.1 c20.2 rfl rfl trivial fun a S CL => h_bin S CL hw le (subR rfl) rfl rfl rfl rfl rfl trivial fun a S CL => h_move S CL hw le (subR rfl) rfl rfl rfl trivial fun a S CL => h_bin S CL hw le (subR rfl) rfl rfl rfl rfl rfl trivial fun a S CL => ?_
   obtain ⟨c21, h5⟩ := chk_of h4; clear h4
   refine h_iaddr S CL hw le (subR rfl) rfl rfl underlying57 T52 c21.1 c21.2 (mul1 _ _) rfl rfl trivial fun a S CL => h_loadi S CL hw le (subR rfl) (i := (wr .i64 (y93 + 15))) rfl .h2 T52 .h rfl c21.1 c21.2 rfl rfl trivial fun a S CL => h_bin S CL hw le (subR rfl) rfl rfl rfl rfl rfl trivial fun a S CL => h_move S CL hw le (subR rfl) rfl rfl rfl trivial fun a S CL => h_bin S CL hw le (subR rfl) rfl rfl rfl rfl rfl trivial fun a S CL => ?_
   obtain ⟨c22, h6⟩ := chk_of h5; clear h5
   refine h_iaddr S CL hw le (subR rfl) rfl rfl underlying57 T52 c22.1 c22.2 (mul1 _ _) rfl rfl trivial fun a S CL => h_loadi S CL hw le (subR rfl) (i := (wr .i64 (y93 + 20))) rfl .h2 T52 .h rfl c22.1 c22.2 rfl rfl trivial fun a S CL => h_bin S CL hw le (subR rfl) rfl rfl rfl rfl rfl trivial fun a S CL => ?_
   obtain ⟨c23, h7⟩ := chk_of h6; clear h6
   refine h_iaddr S CL hw le (subR rfl) rfl rfl underlying119 T52 c23.1 c23.2 (mul1 _ _) rfl rfl trivial fun a S CL => h_run' S rfl trivial (s_storei S (i := y93) rfl rfl .h T52 .h rfl c23.1 c23.2 fun w S => ?_)
   refine h_back ⟨fun h => (nomatch h), ?_⟩
   refine h_done ?_; clear CL hw le
   refine x_blockN (x_thenN (c_region' (s_bin S rfl rfl rfl rfl fun a S => s_move S rfl rfl fun a S => c_end' (x_thenN ?_))))
   exact ⟨_, (wr .i64 (y93 + 1)), g209, g210, g211, (y94.set (Int.toNat y93) (bits .xor .u64 (bits .xor .u64 (bits .xor .u64 (bits .xor .u64 (rd x1 y93) (rd x1 (wr .i64 (y93 + 5)))) (rd x1 (wr .i64 (y93 + 10)))) (rd x1 (wr .i64 (y93 + 15)))) (rd x1 (wr .i64 (y93 + 20))))), (S.sb rfl (.c0 (.c0 (.c0 (.c0 (.c0 (.c0 .n))))))), h7⟩
  ·refine c_condF S rfl c17 (wp_exit (x_thenX (x_thenX (x_blockX (x_thenN ?_)))))
   exact j1 _ g209 g210 g211 y94 a w (S.sb rfl (.c0 (.c0 (.c0 (.c0 (.c0 (.c0 .n))))))) h1
abbrev keccak_Turn.Ty : Type := (List Int) → Option ((List Int))
def keccak_Turn.Ctr (s : keccak_Turn.Ty) : Prop := ∀ (x1 : List Int) (r : (List Int)), CtG (C := Unit) Tryd.prog Glob 65 (s x1 = some r) [] [(.agg [.ints .u64 x1 25])] (fun _ => (.agg [.ints .u64 r 25])) fun _ => []
def keccak_Turn.j1 (y1 : List Int) : Option ((List Int)) := some y1
def keccak_Turn.b1 (k : Nat) (rec1 : Int → (List Int) → Option ((List Int))) (y4 : Int) (y5 : List Int) : Option ((List Int)) := if (decide (y4 < 24)) = true then (if (0 : Int) ≤ y4 ∧ y4 < 24 then ((keccak_round.f k y5).bind fun t1 => (rec1 (wr .i64 (y4 + 1)) (t1.set (Int.toNat 0) (bits .xor .u64 (rd t1 0) (rd tbl_keccak_constants y4))))) else none) else (keccak_Turn.j1 y5)
def keccak_Turn.l1 (k : Nat) : Nat → Int → (List Int) → Option ((List Int))
  | 0, _, _ => none
  | q + 1, y4, y5 => keccak_Turn.b1 k (keccak_Turn.l1 k q) y4 y5
def keccak_Turn.f (k : Nat) (x1 : List Int) : Option ((List Int)) := keccak_Turn.l1 k k 0 x1
theorem keccak_Turn.ok (k : Nat) : keccak_Turn.Ctr (keccak_Turn.f k) := by
 intro x1 r h0 mi w0 G ok hm
 delta keccak_Turn.f at h0
 refine c_enterZ (n := 18) ok hm func65 rfl rfl rfl fun b0 hb a S => ?_
 replace S := S.addfro (g := 2) 138 G.2.2
 replace S := S.addfro (g := 1) 138 G.2.1
 replace S := S.addfro (g := 0) 83 G.1
 refine c_region (s_box S rfl rfl rfl fun g1 a w S => s_alloc S Z57 rfl ⟨rfl, trivial⟩ rfl fun g2 a w S => c_end (wp_seq_k fun K1 hK1 => ?_))
 have j1 : ∀ m g9 g10 y1 a w, St 18 m b0 [(2, (.p g9)), (1, (.p g10))] [Res.cells g9 57 [.ints .u64 z25 25], Res.cells g10 57 [.ints .u64 y1 25], Res.fro 0 83 [.ints .u64 tbl_keccak_constants 24], Res.fro 1 138 [.ints .i64 tbl_keccak_places 24], Res.fro 2 138 [.ints .i64 tbl_keccak_turns 24]] a w → keccak_Turn.j1 y1 = some r → K1 a w := by
  intro m g9 g10 y1 a w S h0
  delta keccak_Turn.j1 at h0
  refine hK1 a w (c_region (s_loada S rfl .h1 T57 (s' := [.ints .u64 y1 25]) rfl rfl fun a S => s_store S rfl rfl rfl (s' := [.ints .u64 y1 25]) .h T57 rfl rfl fun w S => c_end (wp_ret ?_)))
  obtain rfl := Option.some.inj h0
  exact b_ret1 (d := (.agg [.ints .u64 y1 25])) S rfl (resD_cell rfl .h T57 rfl rfl) (S.rt hb)
 refine c_region (s_loadaF S rfl .h2 T83 (s' := [.ints .u64 tbl_keccak_constants 24]) rfl rfl fun a S => s_move S rfl rfl fun a S => c_end (wp_block ?_))
 refine c_loop (fun q1 a w => ∃ m y4 g15 g16 y5, St 18 m b0 [(6, (.i y4)), (5, (.agg [.ints .u64 tbl_keccak_constants 24])), (2, (.p g15)), (1, (.p g16))] [Res.cells g15 57 [.ints .u64 z25 25], Res.cells g16 57 [.ints .u64 y5 25], Res.fro 0 83 [.ints .u64 tbl_keccak_constants 24], Res.fro 1 138 [.ints .i64 tbl_keccak_places 24], Res.fro 2 138 [.ints .i64 tbl_keccak_turns 24]] a w ∧ keccak_Turn.l1 k q1 y4 y5 = some r) ?_ ?_ (k := k) ⟨_, 0, g2, g1, x1, (S.sb rfl (.c0 (.c0 (.c0 (.c0 (.c0 .n)))))), h0⟩
 ·rintro a w ⟨m, y4, g15, g16, y5, S, h0⟩
  exact (nomatch (show (none : Option ((List Int))) = some r from h0))
 ·clear S h0
  rintro q1 a w ⟨m, y4, g15, g16, y5, S, h0⟩
  replace h0 : keccak_Turn.b1 k (keccak_Turn.l1 k q1) y4 y5 = some r := h0
  delta keccak_Turn.b1 at h0
  refine c_region (s_bin S rfl rfl rfl rfl fun a S => c_end (wp_seq ?_))
  rcases ite_of h0 with ⟨c1, h1⟩ | ⟨c1, h1⟩
  ·refine c_condT S rfl c1 (wp_skip (x_thenN (wp_seq (wp_block (c_region ?_)))))
   obtain ⟨c2, h2⟩ := chk_of h1; clear h1
   refine s_index S rfl rfl underlying83 T52 c2.1 c2.2 rfl fun a S => s_assign S rfl rfl fun a S => c_end (c_region (s_loada S rfl .h1 T57 (s' := [.ints .u64 y5 25]) rfl rfl fun a S => bindX h2 fun t1 et1 h3 => s_callP S _ N80 rfl rfl (keccak_round.ok k y5 t1 et1 _ _ (G.mono (S.leB hb))) fun ch1 m le1 a w S => s_store S rfl rfl rfl (s' := [.ints .u64 t1 25]) .h1 T57 rfl rfl fun w S => c_end (c_region' (s_iaddr S (o' := 0) rfl rfl underlying57 T52 (by decide) (by decide) rfl rfl fun a S => s_loadi S (i := 0) rfl .h1 T52 .h rfl (by decide) (by decide) rfl fun a S => s_move S rfl rfl fun a S => s_bin S rfl rfl rfl rfl fun a S => s_iaddr S (o' := 0) rfl rfl underlying57 T52 (by decide) (by decide) rfl rfl fun a S => s_storei S (i := 0) rfl rfl .h1 T52 .h rfl (by decide) (by decide) fun w S => c_end' (x_blockN (x_thenN (c_region' (s_bin S rfl rfl rfl rfl fun a S => s_move S rfl rfl fun a S => c_end' (x_thenN ?_)))))))))
   exact ⟨_, (wr .i64 (y4 + 1)), g15, g16, (t1.set (Int.toNat 0) (bits .xor .u64 (rd t1 0) (rd tbl_keccak_constants y4))), (S.sb rfl (.c0 (.c0 (.c0 (.c0 (.c0 .n)))))), h3⟩
  ·refine c_condF S rfl c1 (wp_exit (x_thenX (x_thenX (x_blockX (x_thenN ?_)))))
   exact j1 _ g15 g16 y5 a w (S.sb rfl (.c0 (.c0 (.c0 (.c0 (.c0 .n)))))) h1
abbrev keccak_absorb.Ty : Type := (List Int) → (List Int) → Option ((List Int))
def keccak_absorb.Ctr (s : keccak_absorb.Ty) : Prop := ∀ (x1 : List Int) (x2 : List Int) (ch_1_0 : Option Addr) (ch_1_1 : Nat) (r : (List Int)), CtG (C := Unit) Tryd.prog Glob 39 (s x1 x2 = some r) [] [(.agg [.ints .u64 x1 25]), (.q yb ch_1_0 ch_1_1 x2)] (fun _ => (.agg [.ints .u64 r 25])) fun _ => []
def keccak_absorb.j1 (k : Nat) (y1 : List Int) : Option ((List Int)) := (keccak_Turn.f k y1).bind fun t1 => (some t1)
def keccak_absorb.b1 (k : Nat) (x2 : List Int) (rec1 : Int → (List Int) → Option ((List Int))) (y4 : Int) (y5 : List Int) : Option ((List Int)) := if (decide (y4 < ((x2).length : Int))) = true then (if (0 : Int) ≤ y4 ∧ y4 < ((x2).length : Int) then (if (0 : Int) ≤ (wr .i64 (Int.tdiv y4 8)) ∧ (wr .i64 (Int.tdiv y4 8)) < 25 then (if (0 : Int) ≤ (wr .i64 ((Int.tmod y4 8) * 8)) then (rec1 (wr .i64 (y4 + 1)) (y5.set (Int.toNat (wr .i64 (Int.tdiv y4 8))) (bits .xor .u64 (rd y5 (wr .i64 (Int.tdiv y4 8))) (shl .u64 (wr .u64 (rd x2 y4)) (min (Int.toNat (wr .i64 ((Int.tmod y4 8) * 8))) 64))))) else none) else none) else none) else (keccak_absorb.j1 k y5)
def keccak_absorb.l1 (k : Nat) (x2 : List Int) : Nat → Int → (List Int) → Option ((List Int))
  | 0, _, _ => none
  | q + 1, y4, y5 => keccak_absorb.b1 k x2 (keccak_absorb.l1 k x2 q) y4 y5
def keccak_absorb.f (k : Nat) (x1 : List Int) (x2 : List Int) : Option ((List Int)) := keccak_absorb.l1 k x2 k 0 x1
theorem keccak_absorb.ok (k : Nat) : keccak_absorb.Ctr (keccak_absorb.f k) := by
 intro x1 x2 ch_1_0 ch_1_1 r h0 mi w0 G ok hm
 delta keccak_absorb.f at h0
 refine c_enterZ (n := 29) ok hm func39 rfl rfl rfl fun b0 hb a S => c_region (s_box S rfl rfl rfl fun g1 a w S => s_alloc S Z57 rfl ⟨rfl, trivial⟩ rfl fun g2 a w S => c_end (wp_seq_k fun K1 hK1 => ?_))
 have j1 : ∀ m g9 g10 y1 a w, St 29 m b0 [(4, (.p g9)), (2, (.p g10))] [Res.cells g9 57 [.ints .u64 z25 25], Res.cells g10 57 [.ints .u64 y1 25]] a w → keccak_absorb.j1 k y1 = some r → K1 a w := by
  intro m g9 g10 y1 a w S h0
  delta keccak_absorb.j1 at h0
  refine hK1 a w (c_region (s_loada S rfl .h1 T57 (s' := [.ints .u64 y1 25]) rfl rfl fun a S => bindX h0 fun t1 et1 h1 => s_callP S _ N65 rfl rfl (keccak_Turn.ok k y1 t1 et1 _ _ (G.mono (S.leB hb))) fun ch1 m le1 a w S => s_store S rfl rfl rfl (s' := [.ints .u64 t1 25]) .h T57 rfl rfl fun w S => c_end (wp_ret ?_)))
  obtain rfl := Option.some.inj h1
  exact b_ret1 (d := (.agg [.ints .u64 t1 25])) S rfl (resD_cell rfl .h T57 rfl rfl) (S.rt hb)
 refine c_region (s_move S rfl rfl fun a S => s_lenS S rfl underlying26 rfl fun a S => s_move S rfl rfl fun a S => c_end (wp_block ?_))
 refine c_loop (fun q1 a w => ∃ m y4 g15 g16 y5, St 29 m b0 [(9, (.i y4)), (8, (.i ((x2).length : Int))), (7, (.q yb ch_1_0 ch_1_1 x2)), (4, (.p g15)), (2, (.p g16))] [Res.cells g15 57 [.ints .u64 z25 25], Res.cells g16 57 [.ints .u64 y5 25]] a w ∧ keccak_absorb.l1 k x2 q1 y4 y5 = some r) ?_ ?_ (k := k) ⟨_, 0, g2, g1, x1, (S.sb rfl (.c0 (.c0 .n))), h0⟩
 ·rintro a w ⟨m, y4, g15, g16, y5, S, h0⟩
  exact (nomatch (show (none : Option ((List Int))) = some r from h0))
 ·clear S h0
  rintro q1 a w ⟨m, y4, g15, g16, y5, S, h0⟩
  replace h0 : keccak_absorb.b1 k x2 (keccak_absorb.l1 k x2 q1) y4 y5 = some r := h0
  delta keccak_absorb.b1 at h0
  refine c_region (s_bin S rfl rfl rfl rfl fun a S => c_end (wp_seq ?_))
  rcases ite_of h0 with ⟨c1, h1⟩ | ⟨c1, h1⟩
  ·refine c_condT S rfl c1 (wp_skip (x_thenN (wp_seq (wp_block (c_region (s_move S rfl rfl fun a S => ?_))))))
   obtain ⟨c2, h2⟩ := chk_of h1; clear h1
   refine s_iaddrS S rfl rfl rfl underlying26 T5 c2.1 c2.2 rfl fun p1 a S => s_ld1 S (v := (.int .u8 (rd x2 y4))) rfl T5 (fun _ => rfl) rfl fun a S => s_assign S rfl rfl fun a S => s_assign S rfl rfl fun a S => c_end (c_heldS S (.take 0 (.take 1 (.take 2 (.take 3 (.take 4 (.take 5 (.take 6 (.take 7 (.take 8 (.take 9 (.take 10 (.take 11 (.alts (.run 12 false .done .nil)))))))))))))) 12 [Res.cells g15 57 [.ints .u64 z25 25], Res.cells g16 57 [.ints .u64 y5 25]] (.c0 (.c0 .n)) ⟨Res.stay_cells, Res.stay_cells, trivial⟩ [(6, (.v (.int .u8 (rd x2 y4)))), (5, (.i y4)), (2, (.p g16))] (subR rfl) (by kernel_rfl) (by kernel_rfl) fun w S CL hw le => ?_)
   refine h_move S CL hw le (subR rfl) rfl rfl rfl trivial fun a S CL => h_quo S CL hw le (subR rfl) rfl rfl (by decide) rfl rfl trivial fun a S CL => ?_
   obtain ⟨c3, h3⟩ := chk_of h2; clear h2
   refine h_iaddr S CL hw le (subR rfl) rfl rfl underlying57 T52 c3.1 c3.2 (mul1 _ _) rfl rfl trivial fun a S CL => h_loadi S CL hw le (subR rfl) (i := (wr .i64 (Int.tdiv y4 8))) rfl .h1 T52 .h rfl c3.1 c3.2 rfl rfl trivial fun a S CL => h_move S CL hw le (subR rfl) rfl rfl rfl trivial fun a S CL => h_conv S CL hw le (subR rfl) rfl rfl underlying52 rfl rfl trivial fun a S CL => h_move S CL hw le (subR rfl) rfl rfl rfl trivial fun a S CL => h_rem S CL hw le (subR rfl) rfl rfl (by decide) rfl rfl trivial fun a S CL => h_bin S CL hw le (subR rfl) rfl rfl rfl rfl rfl trivial fun a S CL => ?_
   obtain ⟨c4, h4⟩ := chk_of h3; clear h3
   refine h_shl S CL hw le (subR rfl) (e := (min (Int.toNat (wr .i64 ((Int.tmod y4 8) * 8))) 64)) rfl rfl c4 rfl rfl rfl trivial fun a S CL => h_bin S CL hw le (subR rfl) rfl rfl rfl rfl rfl trivial fun a S CL => h_iaddr S CL hw le (subR rfl) rfl rfl underlying57 T52 c3.1 c3.2 (mul1 _ _) rfl rfl trivial fun a S CL => h_run' S rfl trivial (s_storei S (i := (wr .i64 (Int.tdiv y4 8))) rfl rfl .h1 T52 .h rfl c3.1 c3.2 fun w S => ?_)
   refine h_back ⟨fun h => (nomatch h), ?_⟩
   refine h_done ?_; clear CL hw le
   refine x_blockN (x_thenN (c_region' (s_bin S rfl rfl rfl rfl fun a S => s_move S rfl rfl fun a S => c_end' (x_thenN ?_))))
   exact ⟨_, (wr .i64 (y4 + 1)), g15, g16, (y5.set (Int.toNat (wr .i64 (Int.tdiv y4 8))) (bits .xor .u64 (rd y5 (wr .i64 (Int.tdiv y4 8))) (shl .u64 (wr .u64 (rd x2 y4)) (min (Int.toNat (wr .i64 ((Int.tmod y4 8) * 8))) 64)))), (S.sb rfl (.c0 (.c0 .n))), h4⟩
  ·refine c_condF S rfl c1 (wp_exit (x_thenX (x_thenX (x_blockX (x_thenN ?_)))))
   exact j1 _ g15 g16 y5 a w (S.sb rfl (.c0 (.c0 .n))) h1
abbrev keccak_Sum.Ty : Type := (List Int) → Option ((List Int))
def keccak_Sum.Ctr (s : keccak_Sum.Ty) : Prop := ∀ (x1 : List Int) (ch_0_0 : Option Addr) (ch_0_1 : Nat) (r : (List Int)), CtG (C := Unit) Tryd.prog Glob 23 (s x1 = some r) [] [(.q yb ch_0_0 ch_0_1 x1)] (fun _ => (.a32 r)) fun _ => []
def keccak_Sum.j2 (y7 : List Int) : Option ((List Int)) := some y7
def keccak_Sum.b1 (t1 : (List Int)) (rec1 : Int → (List Int) → Option ((List Int))) (y10 : Int) (y11 : List Int) : Option ((List Int)) := if (decide (y10 < 32)) = true then (if (0 : Int) ≤ (wr .i64 (Int.tdiv y10 8)) ∧ (wr .i64 (Int.tdiv y10 8)) < 25 then (if (0 : Int) ≤ (wr .i64 ((Int.tmod y10 8) * 8)) then (if (0 : Int) ≤ y10 ∧ y10 < 32 then (rec1 (wr .i64 (y10 + 1)) (y11.set (Int.toNat y10) (wr .u8 (shr (rd t1 (wr .i64 (Int.tdiv y10 8))) (min (Int.toNat (wr .i64 ((Int.tmod y10 8) * 8))) 64))))) else none) else none) else none) else (keccak_Sum.j2 y11)
def keccak_Sum.l1 (t1 : (List Int)) : Nat → Int → (List Int) → Option ((List Int))
  | 0, _, _ => none
  | q + 1, y10, y11 => keccak_Sum.b1 t1 (keccak_Sum.l1 t1 q) y10 y11
def keccak_Sum.j1 (k : Nat) (y1 : List Int) (y2 : List Int) : Option ((List Int)) := if (0 : Int) ≤ ((min (y1).length 136 : Nat) : Int) ∧ ((min (y1).length 136 : Nat) : Int) < 136 then ((keccak_absorb.f k y2 (((((cpy (List.replicate 136 0) 0 y1 (min (y1).length 136)).set (Int.toNat ((min (y1).length 136 : Nat) : Int)) 1).set (Int.toNat 135) (bits .or .u8 (rd ((cpy (List.replicate 136 0) 0 y1 (min (y1).length 136)).set (Int.toNat ((min (y1).length 136 : Nat) : Int)) 1) 135) 128)).drop 0).take 136)).bind fun t1 => (keccak_Sum.l1 t1 k 0 [0, 0, 0, 0, 0, 0, 0, 0, 0, 0, 0, 0, 0, 0, 0, 0, 0, 0, 0, 0, 0, 0, 0, 0, 0, 0, 0, 0, 0, 0, 0, 0])) else none
def keccak_Sum.b2 (k : Nat) (rec2 : (List Int) → (List Int) → Option ((List Int))) (y14 : List Int) (y15 : List Int) : Option ((List Int)) := if (decide (136 ≤ ((y14).length : Int))) = true then (if (0 : Int) ≤ 0 ∧ (0 : Int) ≤ 136 ∧ 136 ≤ ((y14).length : Int) then ((keccak_absorb.f k y15 (y14.take (Int.toNat 136))).bind fun t4 => (if (0 : Int) ≤ 136 ∧ (136 : Int) ≤ ((y14).length : Int) ∧ ((y14).length : Int) ≤ ((y14).length : Int) then (rec2 (y14.drop (Int.toNat 136)) t4) else none)) else none) else (keccak_Sum.j1 k y14 y15)
def keccak_Sum.l2 (k : Nat) : Nat → (List Int) → (List Int) → Option ((List Int))
  | 0, _, _ => none
  | q + 1, y14, y15 => keccak_Sum.b2 k (keccak_Sum.l2 k q) y14 y15
def keccak_Sum.f (k : Nat) (x1 : List Int) : Option ((List Int)) := keccak_Sum.l2 k k x1 [0, 0, 0, 0, 0, 0, 0, 0, 0, 0, 0, 0, 0, 0, 0, 0, 0, 0, 0, 0, 0, 0, 0, 0, 0]
theorem keccak_Sum.ok (k : Nat) : keccak_Sum.Ctr (keccak_Sum.f k) := by
 intro x1 ch_0_0 ch_0_1 r h0 mi w0 G ok hm
 delta keccak_Sum.f at h0
 refine c_enterZ (n := 45) ok hm func23 rfl rfl rfl fun b0 hb a S => c_region (s_alloc S Z24 rfl ⟨rfl, trivial⟩ rfl fun g1 a w S => c_end (c_region (s_alloc S Z57 rfl ⟨rfl, trivial⟩ rfl fun g2 a w S => c_end (wp_seq_k fun K1 hK1 => ?_))))
 have j1 : ∀ m g9 g10 A1 cp1 y1 y2 a w, St 45 m b0 [(3, (.p g9)), (2, (.p g10)), (0, (.q yb A1 cp1 y1))] [Res.cells g9 57 [.ints .u64 y2 25], Res.cells g10 24 [.b32 z32]] a w → keccak_Sum.j1 k y1 y2 = some r → K1 a w := by
  intro m g9 g10 A1 cp1 y1 y2 a w S h0
  delta keccak_Sum.j1 at h0
  refine hK1 a w (c_region (s_alloc S Z87 rfl ⟨rfl, trivial⟩ rfl fun g11 a w S => c_end (c_region (s_sliceA S (i := 0) (j := 136) (o' := 0) (len := 136) (cap := 136) rfl underlying87 T5 (.inl ⟨rfl, rfl⟩) (.inl ⟨rfl, rfl⟩) (by decide) rfl rfl rfl rfl fun a S => s_move S rfl rfl fun a S => s_copyA S (N := min (y1).length 136) (lo := 0) rfl .h rfl rfl (RdS.srcI (S.get 18 (.q yb A1 cp1 y1) rfl).2.2.2.1 S.frz) rfl .h (.inl rfl) (by decide) underlying26 T5 rfl fun a w S => s_assign S rfl rfl fun a S => c_end (c_region (s_move S rfl rfl fun a S => ?_))))))
  obtain ⟨c1, h1⟩ := chk_of h0; clear h0
  refine s_iaddr S rfl rfl underlying87 T5 c1.1 c1.2 (mul1 _ _) rfl fun a S => s_storei S (i := ((min (y1).length 136 : Nat) : Int)) rfl rfl .h T5 .h rfl c1.1 c1.2 fun w S => c_end (c_region (s_iaddr S (o' := 135) rfl rfl underlying87 T5 (by decide) (by decide) rfl rfl fun a S => s_loadi S (i := 135) rfl .h T5 .h rfl (by decide) (by decide) rfl fun a S => s_bin S rfl rfl rfl rfl fun a S => s_iaddr S (o' := 135) rfl rfl underlying87 T5 (by decide) (by decide) rfl rfl fun a S => s_storei S (i := 135) rfl rfl .h T5 .h rfl (by decide) (by decide) fun w S => c_end ?_))
  replace S := S.freeze .h
  obtain ⟨m, le1, S⟩ := S
  refine wp_seq (c_heldS S (.take 0 (.take 1 (.alts (.run 2 true (.alts (.run 3 false .done .nil)) .nil)))) 3 [Res.fro g11 87 [.ints .u8 (((cpy (List.replicate 136 0) 0 y1 (min (y1).length 136)).set (Int.toNat ((min (y1).length 136 : Nat) : Int)) 1).set (Int.toNat 135) (bits .or .u8 (rd ((cpy (List.replicate 136 0) 0 y1 (min (y1).length 136)).set (Int.toNat ((min (y1).length 136 : Nat) : Int)) 1) 135) 128)) 136], Res.cells g9 57 [.ints .u64 y2 25], Res.cells g10 24 [.b32 z32]] (.c0 (.c0 (.c0 .n))) ⟨Res.stay_fro, Res.stay_cells, Res.stay_cells, trivial⟩ [(4, (.p g11)), (3, (.p g9))] (subR rfl) (by kernel_rfl) (by kernel_rfl) ?_); clear S; intro w S CL hw le
  refine h_loada S CL hw le (subR rfl) rfl .h1 T57 (s' := [.ints .u64 y2 25]) rfl rfl rfl trivial fun a S CL => h_sliceA S CL hw le (subR rfl) (i := 0) (j := 136) (o' := 0) (len := 136) (cap := 136) rfl underlying87 T5 (.inl ⟨rfl, rfl⟩) (.inl ⟨rfl, rfl⟩) (by decide) rfl rfl rfl rfl rfl trivial fun a S CL => h_run' S rfl trivial ?_
  replace S := (S.slup' (u := 27) (lo := 0) (c := 136) (ys := ((((cpy (List.replicate 136 0) 0 y1 (min (y1).length 136)).set (Int.toNat ((min (y1).length 136 : Nat) : Int)) 1).set (Int.toNat 135) (bits .or .u8 (rd ((cpy (List.replicate 136 0) 0 y1 (min (y1).length 136)).set (Int.toNat ((min (y1).length 136 : Nat) : Int)) 1) 135) 128)).drop 0).take 136) rfl (Pull.mem .h).1 .h (.inl rfl) (by decide) (by decide) rfl).2
  replace CL := CL.drop (lq' := [(26, (.agg [.ints .u64 y2 25])), (4, (.p g11)), (3, (.p g9))]) (subR rfl)
  refine bindX h1 fun t1 et1 h2 => s_callP S _ N39 rfl rfl (keccak_absorb.ok k y2 (((((cpy (List.replicate 136 0) 0 y1 (min (y1).length 136)).set (Int.toNat ((min (y1).length 136 : Nat) : Int)) 1).set (Int.toNat 135) (bits .or .u8 (rd ((cpy (List.replicate 136 0) 0 y1 (min (y1).length 136)).set (Int.toNat ((min (y1).length 136 : Nat) : Int)) 1) 135) 128)).drop 0).take 136) (ad g11) 136 t1 et1 _ _ (G.mono (S.leB hb))) fun ch1 m le1 a w S => ?_
  replace le := le.trans le1
  refine CL.bk hw S (.c0 (.c0 (.c0 .n))) le fun hw => h_run' S rfl trivial (s_store S rfl rfl rfl (s' := [.ints .u64 t1 25]) .h1 T57 rfl rfl fun w S => ?_)
  refine h_back ⟨fun h => (nomatch h), ?_⟩
  refine h_done ?_; clear CL hw le
  refine x_thenN (c_region (s_alloc S Z24 rfl ⟨rfl, trivial⟩ rfl fun g12 a w S => c_end (wp_seq_k fun K2 hK2 => ?_)))
  have j2 : ∀ m g22 g23 y7 a w, St 45 m b0 [(6, (.p g22)), (2, (.p g23))] [Res.cells g22 24 [.b32 y7], Res.cells g23 24 [.b32 z32]] a w → keccak_Sum.j2 y7 = some r → K2 a w := by
   intro m g22 g23 y7 a w S h0
   delta keccak_Sum.j2 at h0
   refine hK2 a w (c_region (s_loada S rfl .h T24 (s' := [.b32 y7]) rfl rfl fun a S => s_store S rfl rfl rfl (s' := [.b32 y7]) .h1 T24 rfl rfl fun w S => c_end (wp_ret ?_)))
   obtain rfl := Option.some.inj h0
   exact b_ret1 (d := (.a32 y7)) S rfl (resD_cell rfl .h1 T24 rfl rfl) (S.rt hb)
  refine c_region (s_move S rfl rfl fun a S => c_end (wp_block ?_))
  refine c_loop (fun q1 a w => ∃ m y10 g30 g31 g32 y11, St 45 m b0 [(29, (.i y10)), (6, (.p g30)), (3, (.p g31)), (2, (.p g32))] [Res.cells g30 24 [.b32 y11], Res.cells g31 57 [.ints .u64 t1 25], Res.cells g32 24 [.b32 z32]] a w ∧ keccak_Sum.l1 t1 q1 y10 y11 = some r) ?_ ?_ (k := k) ⟨_, 0, g12, g9, g10, z32, (S.sb rfl (.c0 (.c1 (.c1 .n)))), h2⟩
  ·rintro a w ⟨m, y10, g30, g31, g32, y11, S, h0⟩
   exact (nomatch (show (none : Option ((List Int))) = some r from h0))
  ·clear S h2
   rintro q1 a w ⟨m, y10, g30, g31, g32, y11, S, h0⟩
   replace h0 : keccak_Sum.b1 t1 (keccak_Sum.l1 t1 q1) y10 y11 = some r := h0
   delta keccak_Sum.b1 at h0
   refine c_region (s_bin S rfl rfl rfl rfl fun a S => c_end (wp_seq ?_))
   rcases ite_of h0 with ⟨c2, h1⟩ | ⟨c2, h1⟩
   ·refine c_condT S rfl c2 (wp_skip (x_thenN (wp_seq (wp_block (c_region (s_move S rfl rfl fun a S => s_assign S rfl rfl fun a S => c_end (c_region' (s_move S rfl rfl fun a S => s_move S rfl rfl fun a S => s_quo S rfl rfl (by decide) rfl fun a S => ?_))))))))
    obtain ⟨c3, h2⟩ := chk_of h1; clear h1
    refine s_iaddr S rfl rfl underlying57 T52 c3.1 c3.2 (mul1 _ _) rfl fun a S => s_loadi S (i := (wr .i64 (Int.tdiv y10 8))) rfl .h1 T52 .h rfl c3.1 c3.2 rfl fun a S => s_move S rfl rfl fun a S => s_rem S rfl rfl (by decide) rfl fun a S => s_bin S rfl rfl rfl rfl fun a S => ?_
    obtain ⟨c4, h3⟩ := chk_of h2; clear h2
    refine s_shr S (e := (min (Int.toNat (wr .i64 ((Int.tmod y10 8) * 8))) 64)) rfl rfl c4 rfl rfl fun a S => s_conv S rfl rfl underlying5 rfl fun a S => ?_
    obtain ⟨c5, h4⟩ := chk_of h3; clear h3
    refine s_iaddr S rfl rfl underlying24 T5 c5.1 c5.2 (mul1 _ _) rfl fun a S => s_storei S (i := y10) rfl rfl .h T5 .h rfl c5.1 c5.2 fun w S => c_end' (x_blockN (x_thenN (c_region' (s_bin S rfl rfl rfl rfl fun a S => s_move S rfl rfl fun a S => c_end' (x_thenN ?_)))))
    exact ⟨_, (wr .i64 (y10 + 1)), g30, g31, g32, (y11.set (Int.toNat y10) (wr .u8 (shr (rd t1 (wr .i64 (Int.tdiv y10 8))) (min (Int.toNat (wr .i64 ((Int.tmod y10 8) * 8))) 64)))), (S.sb rfl (.c0 (.c0 (.c0 .n)))), h4⟩
   ·refine c_condF S rfl c2 (wp_exit (x_thenX (x_thenX (x_blockX (x_thenN ?_)))))
    exact j2 _ g30 g32 y11 a w (S.sb rfl (.c0 (.c1 .n))) h1
 refine wp_block ?_
 refine c_loop (fun q2 a w => ∃ m g37 g38 A2 cp7 y14 y15, St 45 m b0 [(3, (.p g37)), (2, (.p g38)), (0, (.q yb A2 cp7 y14))] [Res.cells g37 57 [.ints .u64 y15 25], Res.cells g38 24 [.b32 z32]] a w ∧ keccak_Sum.l2 k q2 y14 y15 = some r) ?_ ?_ (k := k) ⟨_, g2, g1, ch_0_0, ch_0_1, x1, z25, (S.sb rfl (.c0 (.c0 .n))), h0⟩
 ·rintro a w ⟨m, g37, g38, A2, cp7, y14, y15, S, h0⟩
  exact (nomatch (show (none : Option ((List Int))) = some r from h0))
 ·clear S h0
  rintro q2 a w ⟨m, g37, g38, A2, cp7, y14, y15, S, h0⟩
  replace h0 : keccak_Sum.b2 k (keccak_Sum.l2 k q2) y14 y15 = some r := h0
  delta keccak_Sum.b2 at h0
  refine wp_seq (c_region (s_move S rfl rfl fun a S => s_lenS S rfl underlying26 rfl fun a S => s_bin S rfl rfl rfl rfl fun a S => c_end ?_))
  rcases ite_of h0 with ⟨c6, h1⟩ | ⟨c6, h1⟩
  ·refine c_condT S rfl c6 (wp_skip (x_thenN (wp_block ?_)))
   refine wp_seq (c_heldS S (.take 0 (.take 1 (.take 2 (.alts (.run 3 true (.alts (.run 4 false .done .nil)) .nil))))) 4 [Res.cells g37 57 [.ints .u64 y15 25], Res.cells g38 24 [.b32 z32]] (.c0 (.c0 .n)) ⟨Res.stay_cells, Res.stay_cells, trivial⟩ [(3, (.p g37)), (0, (.q yb A2 cp7 y14))] (subR rfl) (by kernel_rfl) (by kernel_rfl) ?_); clear S; intro w S CL hw le
   refine h_loada S CL hw le (subR rfl) rfl .h T57 (s' := [.ints .u64 y15 25]) rfl rfl rfl trivial fun a S CL => h_move S CL hw le (subR rfl) rfl rfl rfl trivial fun a S CL => ?_
   obtain ⟨c7, h2⟩ := chk_of h1; clear h1
   refine h_cutS S CL hw le (subR rfl) (i := 0) (j := 136) (ys := y14.take (Int.toNat 136)) rfl rfl underlying26 T5 (.inl ⟨rfl, rfl⟩) (.inr ⟨_, _, rfl, rfl⟩) c7 rfl (cut_pre rfl) rfl trivial fun A3 cp8 a S CL => h_run' S rfl trivial (bindX h2 fun t4 et4 h3 => s_callP S _ N39 rfl rfl (keccak_absorb.ok k y15 (y14.take (Int.toNat 136)) A3 cp8 t4 et4 _ _ (G.mono (S.leB hb))) fun ch2 m le1 a w S => ?_)
   replace le := le.trans le1
   refine CL.bk hw S (.c0 (.c0 .n)) le fun hw => h_run' S rfl trivial (s_store S rfl rfl rfl (s' := [.ints .u64 t4 25]) .h T57 rfl rfl fun w S => ?_)
   refine h_back ⟨fun h => (nomatch h), ?_⟩
   refine h_done ?_; clear CL hw le
   refine x_thenN (c_region' (s_move S rfl rfl fun a S => ?_))
   obtain ⟨c8, h4⟩ := chk_of h3; clear h3
   refine s_cutS S (i := 136) (j := ((y14).length : Int)) (ys := y14.drop (Int.toNat 136)) rfl rfl underlying26 T5 (.inr ⟨_, _, rfl, rfl⟩) (.inl ⟨rfl, rfl⟩) c8 rfl (cut_end rfl) fun A4 cp9 a S => s_assign S rfl rfl fun a S => c_end' (x_blockN (x_thenN ?_))
   exact ⟨_, g37, g38, A4, cp9, (y14.drop (Int.toNat 136)), t4, (S.sb rfl (.c0 (.c0 .n))), h4⟩
  ·refine c_condF S rfl c6 (wp_exit (x_thenX (x_thenX (x_blockX (x_thenN ?_)))))
   exact j1 _ g37 g38 A2 cp7 y14 y15 a w (S.sb rfl (.c0 (.c0 .n))) h1
abbrev abi_Selector.Ty : Type := ByteArray → Option ((List Int))
def abi_Selector.Ctr (s : abi_Selector.Ty) : Prop := ∀ (x1 : ByteArray) (r : (List Int)), CtG (C := Unit) Tryd.prog Glob 9 (s x1 = some r) [] [(.v (.string x1))] (fun _ => (.agg [.ints .u8 r 4])) fun _ => []
def abi_Selector.f (k : Nat) (x1 : ByteArray) : Option ((List Int)) := if (x1).size ≤ maxLen then ((keccak_Sum.f k (sbytes x1)).bind fun t1 => (some (((t1).drop 0).take 4))) else none
theorem abi_Selector.ok (k : Nat) : abi_Selector.Ctr (abi_Selector.f k) := by
 intro x1 r h0 mi w0 G ok hm
 delta abi_Selector.f at h0
 refine c_enterZ (n := 10) ok hm func9 rfl rfl rfl fun b0 hb a S => c_region (s_alloc S Z27 rfl ⟨rfl, trivial⟩ rfl fun g1 a w S => c_end (c_region (s_move S rfl rfl fun a S => ?_)))
 obtain ⟨c1, h1⟩ := chk_of h0; clear h0
 refine s_bytesT S rfl underlying9 underlying26 underlying5 c1 rfl fun A1 cp1 m le1 a w S => bindX h1 fun t1 et1 h2 => s_callP S _ N23 rfl rfl (keccak_Sum.ok k (sbytes x1) A1 cp1 t1 et1 _ _ (G.mono (S.leB hb))) fun ch1 m le1 a w S => s_alloc S Z24 rfl ⟨rfl, trivial⟩ rfl fun g2 a w S => s_store S rfl rfl rfl (s' := [.b32 t1]) .h T24 rfl rfl fun w S => c_end (c_region (s_sliceA S (i := 0) (j := 4) (o' := 0) (len := 4) (cap := 32) rfl underlying24 T5 (.inl ⟨rfl, rfl⟩) (.inr ⟨_, _, rfl, rfl⟩) (by decide) rfl rfl rfl rfl fun a S => s_arrp S rfl underlying27 (by decide) rfl fun a S => s_ldInts S (lo := 0) (ys := ((t1).drop 0).take 4) rfl .h T27 .h rfl (by decide) rfl rfl fun a S => s_store S rfl rfl rfl (s' := [.ints .u8 (((t1).drop 0).take 4) 4]) .h1 T27 rfl rfl fun w S => c_end (wp_ret ?_)))
 obtain rfl := Option.some.inj h2
 exact b_ret1 (d := (.agg [.ints .u8 (((t1).drop 0).take 4) 4])) S rfl (resD_cell rfl .h1 T27 rfl rfl) (S.rt hb)
abbrev smithylaw28_fixed.Ty : Type := Option Bool
def smithylaw28_fixed.Ctr (s : smithylaw28_fixed.Ty) : Prop := ∀ (r : Bool), CtG (C := Unit) Tryd.prog Glob 7 (s = some r) [] [] (fun _ => (.b r)) fun _ => []
def smithylaw28_fixed.f (k : Nat) : Option Bool := (abi_Encode.f k txt0 [([0, 0, 0, 0], ([] : List Int), 1), ([5, 0, 0, 0], ([] : List Int), 0)]).bind fun t1 => (if (t1.2 == 0) = true then (if (((t1.1).length : Int) == 32) = true then (if (0 : Int) ≤ 31 ∧ 31 < ((t1.1).length : Int) then (if ((rd t1.1 31) == 5) = true then ((abi_Selector.f k txt15).bind fun t2 => (some (decide (t2 = [169, 5, 156, 187])))) else (some false)) else none) else (some false)) else (some false))
theorem smithylaw28_fixed.ok (k : Nat) : smithylaw28_fixed.Ctr (smithylaw28_fixed.f k) := by
 intro r h0 mi w0 G ok hm
 delta smithylaw28_fixed.f at h0
 refine c_enterZ (n := 29) ok hm func7 rfl rfl rfl fun b0 hb a S => c_region (s_assign S rfl rfl fun a S => c_end (c_region (s_bldS S (ds := [(2, (.i 1))]) (zs := [.w4 [0, 0, 0, 0], .s none 0 0, .i 0]) (s' := [.w4 [0, 0, 0, 0], .s none 0 0, .i 1]) rfl underlying56 P56 Z56 ⟨rfl, rfl, rfl, trivial⟩ rfl rfl fun a S => s_build S (ds := [(0, (.w 5))]) (dv := (.a4 [5, 0, 0, 0])) rfl (fun _ => by kernel_rfl) ⟨rfl, trivial⟩ rfl fun a S => s_bldS S (ds := [(0, (.a4 [5, 0, 0, 0]))]) (zs := [.w4 [0, 0, 0, 0], .s none 0 0, .i 0]) (s' := [.w4 [5, 0, 0, 0], .s none 0 0, .i 0]) rfl underlying56 P56 Z56 ⟨rfl, rfl, rfl, trivial⟩ rfl rfl fun a S => ?_)))
 replace S := S.slot (u := 4) (d' := (.agg [.w4 [0, 0, 0, 0], .q yb none 0 ([] : List Int), .i 1])) rfl rfl (by have h := (S.get 4 (.agg [.w4 [0, 0, 0, 0], .s none 0 0, .i 1]) rfl).2; exact ⟨h.1, ok_nil, h.2.2.1, trivial⟩)
 replace S := S.slot (u := 6) (d' := (.agg [.w4 [5, 0, 0, 0], .q yb none 0 ([] : List Int), .i 0])) rfl rfl (by have h := (S.get 6 (.agg [.w4 [5, 0, 0, 0], .s none 0 0, .i 0]) rfl).2; exact ⟨h.1, ok_nil, h.2.2.1, trivial⟩)
 refine s_bldSl S (ty' := Y56) (ds := [(0, (.agg [.w4 [0, 0, 0, 0], .q yb none 0 ([] : List Int), .i 1])), (1, (.agg [.w4 [5, 0, 0, 0], .q yb none 0 ([] : List Int), .i 0]))]) (z := ([0, 0, 0, 0], ([] : List Int), 0)) (c0 := ((), (none, 0), ())) (ys := [([0, 0, 0, 0], ([] : List Int), 1), ([5, 0, 0, 0], ([] : List Int), 0)]) (cs := [((), (none, 0), ()), ((), (none, 0), ())]) rfl underlying38 J56 Z56 rfl ⟨rfl, ⟨Nat.le_refl _, Nat.zero_le _, RdS.nil _ _ _, RdS.mono _ _ _⟩, rfl, trivial⟩ rfl rfl rfl rfl rfl rfl fun g1 a w S => ?_
 replace S := S.rowfro .h
 obtain ⟨m, le1, S, hro⟩ := S
 replace S := S.slotro (u := 7) rfl hro
 refine bindX h0 fun t1 et1 h1 => s_callP S _ N17 rfl rfl (abi_Encode.ok k txt0 [([0, 0, 0, 0], ([] : List Int), 1), ([5, 0, 0, 0], ([] : List Int), 0)] (ad g1) 2 t1 et1 _ _) fun ch1 m le1 a w S => s_move S rfl rfl fun a S => s_extract S rfl rfl rfl rfl fun a S => s_extract S rfl rfl rfl rfl fun a S => s_assign S rfl rfl fun a S => s_assign S rfl rfl fun a S => c_end (c_region (s_move S rfl rfl fun a S => s_bin S rfl rfl rfl rfl fun a S => s_move S rfl rfl fun a S => ?_))
 rcases ite_of h1 with ⟨c1, h2⟩ | ⟨c1, h2⟩
 ·refine s_gT S (b := (t1.2 == 0)) rfl rfl c1 (s_move S rfl rfl fun a S => s_gT S (b := (t1.2 == 0)) rfl rfl c1 (s_lenS S rfl underlying26 rfl fun a S => s_gT S (b := (t1.2 == 0)) rfl rfl c1 (s_bin S rfl rfl rfl rfl fun a S => s_pick S (b := true) (hc_of rfl c1) rfl rfl fun a S => s_move S rfl rfl fun a S => ?_)))
  rcases ite_of h2 with ⟨c2, h3⟩ | ⟨c2, h3⟩
  ·refine s_gT S (b := (((t1.1).length : Int) == 32)) rfl rfl c2 (s_move S rfl rfl fun a S => s_gT S (b := (((t1.1).length : Int) == 32)) rfl rfl c2 ?_)
   obtain ⟨c3, h4⟩ := chk_of h3; clear h3
   refine s_iaddrS S rfl rfl rfl underlying26 T5 c3.1 c3.2 rfl fun p1 a S => s_gT S (b := (((t1.1).length : Int) == 32)) rfl rfl c2 (s_ld1 S (v := (.int .u8 (rd t1.1 31))) rfl T5 (fun _ => rfl) rfl fun a S => s_gT S (b := (((t1.1).length : Int) == 32)) rfl rfl c2 (s_bin S rfl rfl rfl rfl fun a S => s_pick S (b := true) (hc_of rfl c2) rfl rfl fun a S => s_move S rfl rfl fun a S => ?_))
   rcases ite_of h4 with ⟨c4, h5⟩ | ⟨c4, h5⟩
   ·refine s_gT S (b := ((rd t1.1 31) == 5)) rfl rfl c4 (bindX h5 fun t2 et2 h6 => s_callP S _ N9 rfl rfl (abi_Selector.ok k txt15 t2 et2 _ _ (G.mono (S.leB hb))) fun ch2 m le1 a w S => s_gT S (b := ((rd t1.1 31) == 5)) rfl rfl c4 (s_build S (ds := [(0, (.v (.int .u8 169))), (1, (.v (.int .u8 5))), (2, (.v (.int .u8 156))), (3, (.v (.int .u8 187)))]) (dv := (.agg [.ints .u8 [169, 5, 156, 187] 4])) rfl (fun _ => by kernel_rfl) ⟨rfl, trivial⟩ rfl fun a S => s_gT S (b := ((rd t1.1 31) == 5)) rfl rfl c4 (s_eqa S rfl rfl underlying27 underlying5 T5 Q27 rfl fun a S => s_pick S (b := true) (hc_of rfl c4) rfl rfl fun a S => s_assign S rfl rfl fun a S => c_end (wp_ret ?_))))
    obtain rfl := Option.some.inj h6
    exact b_ret1 (d := (.b (decide (t2 = [169, 5, 156, 187])))) S rfl rfl (S.rt hb)
   ·refine s_gF S (b := ((rd t1.1 31) == 5)) rfl rfl c4 rfl fun a S => s_gF S (b := ((rd t1.1 31) == 5)) rfl rfl c4 rfl fun a S => s_gF S (b := ((rd t1.1 31) == 5)) rfl rfl c4 rfl fun a S => s_pick S (b := false) (hc_of rfl c4) rfl rfl fun a S => s_assign S rfl rfl fun a S => c_end (wp_ret ?_)
    obtain rfl := Option.some.inj h5
    exact b_ret1 (d := (.b false)) S rfl rfl (S.rt hb)
  ·refine s_gF S (b := (((t1.1).length : Int) == 32)) rfl rfl c2 rfl fun a S => s_gF S (b := (((t1.1).length : Int) == 32)) rfl rfl c2 rfl fun a S => s_gF S (b := (((t1.1).length : Int) == 32)) rfl rfl c2 rfl fun a S => s_gF S (b := (((t1.1).length : Int) == 32)) rfl rfl c2 rfl fun a S => s_pick S (b := false) (hc_of rfl c2) rfl rfl fun a S => s_move S rfl rfl fun a S => s_gF S (b := false) rfl rfl rfl rfl fun a S => s_gF S (b := false) rfl rfl rfl rfl fun a S => s_gF S (b := false) rfl rfl rfl rfl fun a S => s_pick S (b := false) (hc_of rfl rfl) rfl rfl fun a S => s_assign S rfl rfl fun a S => c_end (wp_ret ?_)
   obtain rfl := Option.some.inj h3
   exact b_ret1 (d := (.b false)) S rfl rfl (S.rt hb)
 ·refine s_gF S (b := (t1.2 == 0)) rfl rfl c1 rfl fun a S => s_gF S (b := (t1.2 == 0)) rfl rfl c1 rfl fun a S => s_gF S (b := (t1.2 == 0)) rfl rfl c1 rfl fun a S => s_pick S (b := false) (hc_of rfl c1) rfl rfl fun a S => s_move S rfl rfl fun a S => s_gF S (b := false) rfl rfl rfl rfl fun a S => s_gF S (b := false) rfl rfl rfl rfl fun a S => s_gF S (b := false) rfl rfl rfl rfl fun a S => s_gF S (b := false) rfl rfl rfl rfl fun a S => s_pick S (b := false) (hc_of rfl rfl) rfl rfl fun a S => s_move S rfl rfl fun a S => s_gF S (b := false) rfl rfl rfl rfl fun a S => s_gF S (b := false) rfl rfl rfl rfl fun a S => s_gF S (b := false) rfl rfl rfl rfl fun a S => s_pick S (b := false) (hc_of rfl rfl) rfl rfl fun a S => s_assign S rfl rfl fun a S => c_end (wp_ret ?_)
  obtain rfl := Option.some.inj h2
  exact b_ret1 (d := (.b false)) S rfl rfl (S.rt hb)
abbrev smithyref05_Constants.Ty : Type := Option ((List Int))
def smithyref05_Constants.Ctr (s : smithyref05_Constants.Ty) : Prop := ∀ (r : (List Int)), Ct (C := Unit) Tryd.prog 37 (s = some r) [] [] (fun _ => (.agg [.ints .u64 r 24])) fun _ => []
def smithyref05_Constants.j1 (y1 : List Int) : Option ((List Int)) := some y1
def smithyref05_Constants.j2 (y31 : Int) (rec1 : Int → Int → (List Int) → Option ((List Int))) (y46 : Int) (y47 : List Int) : Option ((List Int)) := rec1 (wr .i64 (y31 + 1)) y46 y47
def smithyref05_Constants.j3 (y57 : Int) (rec2 : Int → Int → (List Int) → Option ((List Int))) (y61 : Int) (y62 : List Int) : Option ((List Int)) := rec2 (wr .i64 (y57 + 1)) y61 y62
def smithyref05_Constants.j4 (y57 : Int) (y58 : Int) (rec2 : Int → Int → (List Int) → Option ((List Int))) (y63 : List Int) : Option ((List Int)) := if (decide (256 ≤ (wr .i64 (y58 * 2)))) = true then (smithyref05_Constants.j3 y57 rec2 (bits .xor .i64 (wr .i64 (y58 * 2)) 369) y63) else (smithyref05_Constants.j3 y57 rec2 (wr .i64 (y58 * 2)) y63)
def smithyref05_Constants.b2 (y31 : Int) (rec1 : Int → Int → (List Int) → Option ((List Int))) (rec2 : Int → Int → (List Int) → Option ((List Int))) (y57 : Int) (y58 : Int) (y59 : List Int) : Option ((List Int)) := if (decide (y57 < 7)) = true then (if ((Int.tmod y58 2) == 1) = true then (if (0 : Int) ≤ y31 ∧ y31 < 24 then (if (0 : Int) ≤ y57 then (if (0 : Int) ≤ (wr .u64 ((shl .u64 1 (min (Int.toNat y57) 64)) - 1)) then (smithyref05_Constants.j4 y57 y58 rec2 (y59.set (Int.toNat y31) (bits .or .u64 (rd y59 y31) (shl .u64 1 (min (Int.toNat (wr .u64 ((shl .u64 1 (min (Int.toNat y57) 64)) - 1))) 64))))) else none) else none) else none) else (smithyref05_Constants.j4 y57 y58 rec2 y59)) else (smithyref05_Constants.j2 y31 rec1 y58 y59)
def smithyref05_Constants.l2 (y31 : Int) (rec1 : Int → Int → (List Int) → Option ((List Int))) : Nat → Int → Int → (List Int) → Option ((List Int))
  | 0, _, _, _ => none
  | q + 1, y57, y58, y59 => smithyref05_Constants.b2 y31 rec1 (smithyref05_Constants.l2 y31 rec1 q) y57 y58 y59
def smithyref05_Constants.b1 (k : Nat) (rec1 : Int → Int → (List Int) → Option ((List Int))) (y31 : Int) (y32 : Int) (y33 : List Int) : Option ((List Int)) := if (decide (y31 < 24)) = true then (smithyref05_Constants.l2 y31 rec1 k 0 y32 y33) else (smithyref05_Constants.j1 y33)
def smithyref05_Constants.l1 (k : Nat) : Nat → Int → Int → (List Int) → Option ((List Int))
  | 0, _, _, _ => none
  | q + 1, y31, y32, y33 => smithyref05_Constants.b1 k (smithyref05_Constants.l1 k q) y31 y32 y33
def smithyref05_Constants.f (k : Nat) : Option ((List Int)) := smithyref05_Constants.l1 k k 0 1 [0, 0, 0, 0, 0, 0, 0, 0, 0, 0, 0, 0, 0, 0, 0, 0, 0, 0, 0, 0, 0, 0, 0, 0]
theorem smithyref05_Constants.ok (k : Nat) : smithyref05_Constants.Ctr (smithyref05_Constants.f k) := by
 intro r h0 mi w0 ok hm
 delta smithyref05_Constants.f at h0
 refine c_enterZ (n := 34) ok hm func37 rfl rfl rfl fun b0 hb a S => c_region (s_alloc S Z83 rfl ⟨rfl, trivial⟩ rfl fun g1 a w S => c_end (c_region (s_build S (ds := []) (dv := (.agg [.ints .u64 z24 24])) rfl (fun _ => by kernel_rfl) ⟨rfl, trivial⟩ rfl fun a S => s_alloc S Z83 rfl ⟨rfl, trivial⟩ rfl fun g2 a w S => s_store S rfl rfl rfl (s' := [.ints .u64 z24 24]) .h T83 rfl rfl fun w S => c_end (c_region (s_assign S rfl rfl fun a S => c_end (wp_seq_k fun K1 hK1 => ?_))))))
 have j1 : ∀ m g39 g40 y1 a w, St 34 m b0 [(1, (.p g39)), (0, (.p g40))] [Res.cells g39 83 [.ints .u64 y1 24], Res.cells g40 83 [.ints .u64 z24 24]] a w → smithyref05_Constants.j1 y1 = some r → K1 a w := by
  intro m g39 g40 y1 a w S h0
  delta smithyref05_Constants.j1 at h0
  refine hK1 a w (c_region (s_loada S rfl .h T83 (s' := [.ints .u64 y1 24]) rfl rfl fun a S => s_store S rfl rfl rfl (s' := [.ints .u64 y1 24]) .h1 T83 rfl rfl fun w S => c_end (wp_ret ?_)))
  obtain rfl := Option.some.inj h0
  exact b_ret1 (d := (.agg [.ints .u64 y1 24])) S rfl (resD_cell rfl .h1 T83 rfl rfl) (S.rt hb)
 refine c_region (s_assign S rfl rfl fun a S => c_end (wp_block ?_))
 refine c_loop (fun q1 a w => ∃ m y31 y32 g75 g76 y33, St 34 m b0 [(3, (.i y31)), (2, (.i y32)), (1, (.p g75)), (0, (.p g76))] [Res.cells g75 83 [.ints .u64 y33 24], Res.cells g76 83 [.ints .u64 z24 24]] a w ∧ smithyref05_Constants.l1 k q1 y31 y32 y33 = some r) ?_ ?_ (k := k) ⟨_, 0, 1, g2, g1, z24, (S.sb rfl (.c0 (.c0 .n))), h0⟩
 ·rintro a w ⟨m, y31, y32, g75, g76, y33, S, h0⟩
  exact (nomatch (show (none : Option ((List Int))) = some r from h0))
 ·clear S h0
  rintro q1 a w ⟨m, y31, y32, g75, g76, y33, S, h0⟩
  replace h0 : smithyref05_Constants.b1 k (smithyref05_Constants.l1 k q1) y31 y32 y33 = some r := h0
  delta smithyref05_Constants.b1 at h0
  refine wp_seq (c_region (s_move S rfl rfl fun a S => s_bin S rfl rfl rfl rfl fun a S => c_end ?_))
  rcases ite_of h0 with ⟨c1, h1⟩ | ⟨c1, h1⟩
  ·refine c_condT S rfl c1 (wp_skip (x_thenN (wp_seq_k fun K2 hK2 => ?_)))
   have j2 : ∀ m y46 g91 g92 y47 a w, St 34 m b0 [(3, (.i y31)), (2, (.i y46)), (1, (.p g91)), (0, (.p g92))] [Res.cells g91 83 [.ints .u64 y47 24], Res.cells g92 83 [.ints .u64 z24 24]] a w → smithyref05_Constants.j2 y31 (smithyref05_Constants.l1 k q1) y46 y47 = some r → K2 a w := by
    intro m y46 g91 g92 y47 a w S h0
    delta smithyref05_Constants.j2 at h0
    refine hK2 a w (c_region' (s_move S rfl rfl fun a S => s_bin S rfl rfl rfl rfl fun a S => s_assign S rfl rfl fun a S => c_end' (x_thenN ?_)))
    exact ⟨_, (wr .i64 (y31 + 1)), y46, g91, g92, y47, (S.sb rfl (.c0 (.c0 .n))), h0⟩
   refine wp_block (c_region (s_assign S rfl rfl fun a S => c_end (wp_block ?_)))
   refine c_loop (fun q2 a w => ∃ m y57 y58 g105 g106 y59, St 34 m b0 [(4, (.i y57)), (3, (.i y31)), (2, (.i y58)), (1, (.p g105)), (0, (.p g106))] [Res.cells g105 83 [.ints .u64 y59 24], Res.cells g106 83 [.ints .u64 z24 24]] a w ∧ smithyref05_Constants.l2 y31 (smithyref05_Constants.l1 k q1) q2 y57 y58 y59 = some r) ?_ ?_ (k := k) ⟨_, 0, y32, g75, g76, y33, (S.sb rfl (.c0 (.c0 .n))), h1⟩
   ·rintro a w ⟨m, y57, y58, g105, g106, y59, S, h0⟩
    exact (nomatch (show (none : Option ((List Int))) = some r from h0))
   ·clear S h1
    rintro q2 a w ⟨m, y57, y58, g105, g106, y59, S, h0⟩
    replace h0 : smithyref05_Constants.b2 y31 (smithyref05_Constants.l1 k q1) (smithyref05_Constants.l2 y31 (smithyref05_Constants.l1 k q1) q2) y57 y58 y59 = some r := h0
    delta smithyref05_Constants.b2 at h0
    refine wp_seq (c_region (s_move S rfl rfl fun a S => s_bin S rfl rfl rfl rfl fun a S => c_end ?_))
    rcases ite_of h0 with ⟨c2, h1⟩ | ⟨c2, h1⟩
    ·refine c_condT S rfl c2 (wp_skip (x_thenN (wp_seq_k fun K3 hK3 => ?_)))
     have j3 : ∀ m y61 g109 g110 y62 a w, St 34 m b0 [(2, (.i y61)), (4, (.i y57)), (3, (.i y31)), (1, (.p g109)), (0, (.p g110))] [Res.cells g109 83 [.ints .u64 y62 24], Res.cells g110 83 [.ints .u64 z24 24]] a w → smithyref05_Constants.j3 y57 (smithyref05_Constants.l2 y31 (smithyref05_Constants.l1 k q1) q2) y61 y62 = some r → K3 a w := by
      intro m y61 g109 g110 y62 a w S h0
      delta smithyref05_Constants.j3 at h0
      refine hK3 a w (c_region' (s_move S rfl rfl fun a S => s_bin S rfl rfl rfl rfl fun a S => s_assign S rfl rfl fun a S => c_end' (x_thenN ?_)))
      exact ⟨_, (wr .i64 (y57 + 1)), y61, g109, g110, y62, (S.sb rfl (.c0 (.c0 .n))), h0⟩
     refine wp_block (wp_seq_k fun K4 hK4 => ?_)
     have j4 : ∀ m g111 g112 y63 a w, St 34 m b0 [(4, (.i y57)), (3, (.i y31)), (2, (.i y58)), (1, (.p g111)), (0, (.p g112))] [Res.cells g111 83 [.ints .u64 y63 24], Res.cells g112 83 [.ints .u64 z24 24]] a w → smithyref05_Constants.j4 y57 y58 (smithyref05_Constants.l2 y31 (smithyref05_Constants.l1 k q1) q2) y63 = some r → K4 a w := by
      intro m g111 g112 y63 a w S h0
      delta smithyref05_Constants.j4 at h0
      refine hK4 a w (c_region (s_move S rfl rfl fun a S => s_bin S rfl rfl rfl rfl fun a S => s_assign S rfl rfl fun a S => c_end (c_region (s_move S rfl rfl fun a S => s_bin S rfl rfl rfl rfl fun a S => c_end ?_))))
      rcases ite_of h0 with ⟨c3, h1⟩ | ⟨c3, h1⟩
      ·refine c_condT S rfl c3 (c_region' (s_move S rfl rfl fun a S => s_bin S rfl rfl rfl rfl fun a S => s_assign S rfl rfl fun a S => c_end' (x_blockN (x_thenN ?_))))
       exact j3 _ (bits .xor .i64 (wr .i64 (y58 * 2)) 369) g111 g112 y63 a w (S.sb rfl (.c0 (.c0 .n))) h1
      ·refine c_condF S rfl c3 (wp_skip (x_blockN (x_thenN ?_)))
       exact j3 _ (wr .i64 (y58 * 2)) g111 g112 y63 a w (S.sb rfl (.c0 (.c0 .n))) h1
     refine c_region (s_move S rfl rfl fun a S => s_rem S rfl rfl (by decide) rfl fun a S => s_bin S rfl rfl rfl rfl fun a S => c_end ?_)
     rcases ite_of h1 with ⟨c4, h2⟩ | ⟨c4, h2⟩
     ·refine c_condT S rfl c4 (c_heldS S (.take 0 (.take 1 (.take 2 (.take 3 (.take 4 (.take 5 (.take 6 (.take 7 (.take 8 (.take 9 (.alts (.run 10 false .done .nil)))))))))))) 10 [Res.cells g105 83 [.ints .u64 y59 24], Res.cells g106 83 [.ints .u64 z24 24]] (.c0 (.c0 .n)) ⟨Res.stay_cells, Res.stay_cells, trivial⟩ [(4, (.i y57)), (3, (.i y31)), (1, (.p g105))] (subR rfl) (by kernel_rfl) (by kernel_rfl) fun w S CL hw le => ?_)
      refine h_move S CL hw le (subR rfl) rfl rfl rfl trivial fun a S CL => h_move S CL hw le (subR rfl) rfl rfl rfl trivial fun a S CL => ?_
      obtain ⟨c5, h3⟩ := chk_of h2; clear h2
      refine h_iaddr S CL hw le (subR rfl) rfl rfl underlying83 T52 c5.1 c5.2 (mul1 _ _) rfl rfl trivial fun a S CL => h_loadi S CL hw le (subR rfl) (i := y31) rfl .h T52 .h rfl c5.1 c5.2 rfl rfl trivial fun a S CL => h_move S CL hw le (subR rfl) rfl rfl rfl trivial fun a S CL => ?_
      obtain ⟨c6, h4⟩ := chk_of h3; clear h3
      refine h_shl S CL hw le (subR rfl) (e := (min (Int.toNat y57) 64)) rfl rfl c6 rfl rfl rfl trivial fun a S CL => h_bin S CL hw le (subR rfl) rfl rfl rfl rfl rfl trivial fun a S CL => ?_
      obtain ⟨c7, h5⟩ := chk_of h4; clear h4
      refine h_shl S CL hw le (subR rfl) (e := (min (Int.toNat (wr .u64 ((shl .u64 1 (min (Int.toNat y57) 64)) - 1))) 64)) rfl rfl c7 rfl rfl rfl trivial fun a S CL => h_bin S CL hw le (subR rfl) rfl rfl rfl rfl rfl trivial fun a S CL => h_iaddr S CL hw le (subR rfl) rfl rfl underlying83 T52 c5.1 c5.2 (mul1 _ _) rfl rfl trivial fun a S CL => h_run' S rfl trivial (s_storei S (i := y31) rfl rfl .h T52 .h rfl c5.1 c5.2 fun w S => ?_)
      refine h_back ⟨fun h => (nomatch h), ?_⟩
      refine h_done ?_; clear CL hw le
      refine x_thenN ?_
      exact j4 _ g105 g106 (y59.set (Int.toNat y31) (bits .or .u64 (rd y59 y31) (shl .u64 1 (min (Int.toNat (wr .u64 ((shl .u64 1 (min (Int.toNat y57) 64)) - 1))) 64)))) a w (S.sb rfl (.c0 (.c0 .n))) h5
     ·refine c_condF S rfl c4 (wp_skip (x_thenN ?_))
      exact j4 _ g105 g106 y59 a w (S.sb rfl (.c0 (.c0 .n))) h2
    ·refine c_condF S rfl c2 (wp_exit (x_thenX (x_thenX (x_blockX (x_blockN (x_thenN ?_))))))
     exact j2 _ y58 g105 g106 y59 a w (S.sb rfl (.c0 (.c0 .n))) h1
  ·refine c_condF S rfl c1 (wp_exit (x_thenX (x_thenX (x_blockX (x_thenN ?_)))))
   exact j1 _ g75 g76 y33 a w (S.sb rfl (.c0 (.c0 .n))) h1
abbrev smithyref05_up.Ty : Type := Int → Int → Option Int
def smithyref05_up.Ctr (s : smithyref05_up.Ty) : Prop := ∀ (x1 : Int) (x2 : Int) (r : Int), Ct (C := Unit) Tryd.prog 64 (s x1 x2 = some r) [] [(.w x1), (.i x2)] (fun _ => (.w r)) fun _ => []
def smithyref05_up.f (x1 : Int) (x2 : Int) : Option Int := if ((Int.tmod x2 64) == 0) = true then (some x1) else (if (0 : Int) ≤ (Int.tmod x2 64) then (if (0 : Int) ≤ (wr .i64 (64 - (Int.tmod x2 64))) then (some (bits .or .u64 (shl .u64 x1 (min (Int.toNat (Int.tmod x2 64)) 64)) (shr x1 (min (Int.toNat (wr .i64 (64 - (Int.tmod x2 64)))) 64)))) else none) else none)
theorem smithyref05_up.ok : smithyref05_up.Ctr (smithyref05_up.f) := by
 intro x1 x2 r h0 mi w0 ok hm
 delta smithyref05_up.f at h0
 refine c_enterZ (n := 18) ok hm func64 rfl rfl rfl fun b0 hb a S => c_region (s_assign S rfl rfl fun a S => c_end (c_region (s_move S rfl rfl fun a S => s_rem S rfl rfl (by decide) rfl fun a S => s_assign S rfl rfl fun a S => c_end (wp_seq (c_region (s_move S rfl rfl fun a S => s_bin S rfl rfl rfl rfl fun a S => c_end ?_))))))
 rcases ite_of h0 with ⟨c1, h1⟩ | ⟨c1, h1⟩
 ·refine c_condT S rfl c1 (c_region (s_move S rfl rfl fun a S => s_assign S rfl rfl fun a S => c_end (wp_ret (x_thenR ?_))))
  obtain rfl := Option.some.inj h1
  exact b_ret1 (d := (.w x1)) S rfl rfl (S.rt hb)
 ·refine c_condF S rfl c1 (wp_skip (x_thenN ?_))
  refine wp_seq (c_heldS S (.take 0 (.take 1 (.take 2 (.take 3 (.take 4 (.take 5 (.take 6 (.take 7 (.take 8 .done))))))))) 9 [] .nil trivial [(1, (.i (Int.tmod x2 64))), (0, (.w x1))] (subR rfl) (by kernel_rfl) (by kernel_rfl) ?_); clear S; intro w S CL hw le
  refine h_move S CL hw le (subR rfl) rfl rfl rfl trivial fun a S CL => h_move S CL hw le (subR rfl) rfl rfl rfl trivial fun a S CL => ?_
  obtain ⟨c2, h2⟩ := chk_of h1; clear h1
  refine h_shl S CL hw le (subR rfl) (e := (min (Int.toNat (Int.tmod x2 64)) 64)) rfl rfl c2 rfl rfl rfl trivial fun a S CL => h_move S CL hw le (subR rfl) rfl rfl rfl trivial fun a S CL => h_move S CL hw le (subR rfl) rfl rfl rfl trivial fun a S CL => h_bin S CL hw le (subR rfl) rfl rfl rfl rfl rfl trivial fun a S CL => ?_
  obtain ⟨c3, h3⟩ := chk_of h2; clear h2
  refine h_shr S CL hw le (subR rfl) (e := (min (Int.toNat (wr .i64 (64 - (Int.tmod x2 64)))) 64)) rfl rfl c3 rfl rfl rfl trivial fun a S CL => h_bin S CL hw le (subR rfl) rfl rfl rfl rfl rfl trivial fun a S CL => h_assign S CL hw le (subR rfl) rfl rfl rfl trivial fun a S CL => ?_
  refine h_done ?_; clear CL hw le
  refine x_thenN (wp_ret ?_)
  obtain rfl := Option.some.inj h3
  exact b_ret1 (d := (.w (bits .or .u64 (shl .u64 x1 (min (Int.toNat (Int.tmod x2 64)) 64)) (shr x1 (min (Int.toNat (wr .i64 (64 - (Int.tmod x2 64)))) 64))))) S rfl rfl (S.rt hb)
abbrev smithyref05_Round.Ty : Type := (List Int) → Int → Option ((List Int))
def smithyref05_Round.Ctr (s : smithyref05_Round.Ty) : Prop := ∀ (x1 : List Int) (x2 : Int) (r : (List Int)), Ct (C := Unit) Tryd.prog 38 (s x1 x2 = some r) [] [(.agg [.ints .u64 x1 25]), (.w x2)] (fun _ => (.agg [.ints .u64 r 25])) fun _ => []
def smithyref05_Round.j4 (x2 : Int) (y40 : List Int) : Option ((List Int)) := some (y40.set (Int.toNat 0) (bits .xor .u64 (rd y40 0) x2))
def smithyref05_Round.j5 (y53 : Int) (rec1 : Int → (List Int) → Option ((List Int))) (y59 : List Int) : Option ((List Int)) := rec1 (wr .i64 (y53 + 1)) y59
def smithyref05_Round.b2 (y25 : List Int) (y53 : Int) (rec1 : Int → (List Int) → Option ((List Int))) (rec2 : Int → (List Int) → Option ((List Int))) (y62 : Int) (y63 : List Int) : Option ((List Int)) := if (decide (y62 < 5)) = true then (if (0 : Int) ≤ (wr .i64 (y53 + (wr .i64 (5 * y62)))) ∧ (wr .i64 (y53 + (wr .i64 (5 * y62)))) < 25 then (if (0 : Int) ≤ (wr .i64 ((Int.tmod (wr .i64 (y53 + 1)) 5) + (wr .i64 (5 * y62)))) ∧ (wr .i64 ((Int.tmod (wr .i64 (y53 + 1)) 5) + (wr .i64 (5 * y62)))) < 25 then (if (0 : Int) ≤ (wr .i64 ((Int.tmod (wr .i64 (y53 + 2)) 5) + (wr .i64 (5 * y62)))) ∧ (wr .i64 ((Int.tmod (wr .i64 (y53 + 2)) 5) + (wr .i64 (5 * y62)))) < 25 then (rec2 (wr .i64 (y62 + 1)) (y63.set (Int.toNat (wr .i64 (y53 + (wr .i64 (5 * y62))))) (bits .xor .u64 (rd y25 (wr .i64 (y53 + (wr .i64 (5 * y62))))) (bits .and .u64 (wr .u64 (18446744073709551615 - (rd y25 (wr .i64 ((Int.tmod (wr .i64 (y53 + 1)) 5) + (wr .i64 (5 * y62))))))) (rd y25 (wr .i64 ((Int.tmod (wr .i64 (y53 + 2)) 5) + (wr .i64 (5 * y62))))))))) else none) else none) else none) else (smithyref05_Round.j5 y53 rec1 y63)
def smithyref05_Round.l2 (y25 : List Int) (y53 : Int) (rec1 : Int → (List Int) → Option ((List Int))) : Nat → Int → (List Int) → Option ((List Int))
  | 0, _, _ => none
  | q + 1, y62, y63 => smithyref05_Round.b2 y25 y53 rec1 (smithyref05_Round.l2 y25 y53 rec1 q) y62 y63
def smithyref05_Round.b1 (k : Nat) (x2 : Int) (y25 : List Int) (rec1 : Int → (List Int) → Option ((List Int))) (y53 : Int) (y54 : List Int) : Option ((List Int)) := if (decide (y53 < 5)) = true then (smithyref05_Round.l2 y25 y53 rec1 k 0 y54) else (smithyref05_Round.j4 x2 y54)
def smithyref05_Round.l1 (k : Nat) (x2 : Int) (y25 : List Int) : Nat → Int → (List Int) → Option ((List Int))
  | 0, _, _ => none
  | q + 1, y53, y54 => smithyref05_Round.b1 k x2 y25 (smithyref05_Round.l1 k x2 y25 q) y53 y54
def smithyref05_Round.j3 (k : Nat) (x2 : Int) (y25 : List Int) : Option ((List Int)) := smithyref05_Round.l1 k x2 y25 k 0 [0, 0, 0, 0, 0, 0, 0, 0, 0, 0, 0, 0, 0, 0, 0, 0, 0, 0, 0, 0, 0, 0, 0, 0, 0]
def smithyref05_Round.b3 (k : Nat) (x2 : Int) (y16 : List Int) (rec3 : Int → Int → Int → (List Int) → Option ((List Int))) (y68 : Int) (y69 : Int) (y70 : Int) (y71 : List Int) : Option ((List Int)) := if (decide (y68 < 24)) = true then (if (0 : Int) ≤ (wr .i64 (y70 + (wr .i64 (5 * y69)))) ∧ (wr .i64 (y70 + (wr .i64 (5 * y69)))) < 25 then ((smithyref05_up.f (rd y16 (wr .i64 (y70 + (wr .i64 (5 * y69))))) (wr .i64 (Int.tdiv (wr .i64 ((wr .i64 (y68 + 1)) * (wr .i64 (y68 + 2)))) 2))).bind fun t1 => (if (0 : Int) ≤ (wr .i64 (y69 + (wr .i64 (5 * (Int.tmod (wr .i64 ((wr .i64 (2 * y70)) + (wr .i64 (3 * y69)))) 5))))) ∧ (wr .i64 (y69 + (wr .i64 (5 * (Int.tmod (wr .i64 ((wr .i64 (2 * y70)) + (wr .i64 (3 * y69)))) 5))))) < 25 then (rec3 (wr .i64 (y68 + 1)) (Int.tmod (wr .i64 ((wr .i64 (2 * y70)) + (wr .i64 (3 * y69)))) 5) y69 (y71.set (Int.toNat (wr .i64 (y69 + (wr .i64 (5 * (Int.tmod (wr .i64 ((wr .i64 (2 * y70)) + (wr .i64 (3 * y69)))) 5)))))) t1)) else none)) else none) else (smithyref05_Round.j3 k x2 y71)
def smithyref05_Round.l3 (k : Nat) (x2 : Int) (y16 : List Int) : Nat → Int → Int → Int → (List Int) → Option ((List Int))
  | 0, _, _, _, _ => none
  | q + 1, y68, y69, y70, y71 => smithyref05_Round.b3 k x2 y16 (smithyref05_Round.l3 k x2 y16 q) y68 y69 y70 y71
def smithyref05_Round.j2 (k : Nat) (x2 : Int) (y16 : List Int) : Option ((List Int)) := smithyref05_Round.l3 k x2 y16 k 0 0 1 ([0, 0, 0, 0, 0, 0, 0, 0, 0, 0, 0, 0, 0, 0, 0, 0, 0, 0, 0, 0, 0, 0, 0, 0, 0].set (Int.toNat 0) (rd y16 0))
def smithyref05_Round.j6 (y84 : Int) (rec4 : Int → (List Int) → Option ((List Int))) (y90 : List Int) : Option ((List Int)) := rec4 (wr .i64 (y84 + 1)) y90
def smithyref05_Round.b5 (x1 : List Int) (y1 : List Int) (y84 : Int) (rec4 : Int → (List Int) → Option ((List Int))) (rec5 : Int → (List Int) → Option ((List Int))) (y93 : Int) (y94 : List Int) : Option ((List Int)) := if (decide (y93 < 5)) = true then (if (0 : Int) ≤ (wr .i64 (y84 + (wr .i64 (5 * y93)))) ∧ (wr .i64 (y84 + (wr .i64 (5 * y93)))) < 25 then (if (0 : Int) ≤ (Int.tmod (wr .i64 (y84 + 4)) 5) ∧ (Int.tmod (wr .i64 (y84 + 4)) 5) < 5 then (if (0 : Int) ≤ (Int.tmod (wr .i64 (y84 + 1)) 5) ∧ (Int.tmod (wr .i64 (y84 + 1)) 5) < 5 then ((smithyref05_up.f (rd y1 (Int.tmod (wr .i64 (y84 + 1)) 5)) 1).bind fun t4 => (rec5 (wr .i64 (y93 + 1)) (y94.set (Int.toNat (wr .i64 (y84 + (wr .i64 (5 * y93))))) (bits .xor .u64 (bits .xor .u64 (rd x1 (wr .i64 (y84 + (wr .i64 (5 * y93))))) (rd y1 (Int.tmod (wr .i64 (y84 + 4)) 5))) t4)))) else none) else none) else none) else (smithyref05_Round.j6 y84 rec4 y94)
def smithyref05_Round.l5 (x1 : List Int) (y1 : List Int) (y84 : Int) (rec4 : Int → (List Int) → Option ((List Int))) : Nat → Int → (List Int) → Option ((List Int))
  | 0, _, _ => none
  | q + 1, y93, y94 => smithyref05_Round.b5 x1 y1 y84 rec4 (smithyref05_Round.l5 x1 y1 y84 rec4 q) y93 y94
def smithyref05_Round.b4 (k : Nat) (x1 : List Int) (x2 : Int) (y1 : List Int) (rec4 : Int → (List Int) → Option ((List Int))) (y84 : Int) (y85 : List Int) : Option ((List Int)) := if (decide (y84 < 5)) = true then (smithyref05_Round.l5 x1 y1 y84 rec4 k 0 y85) else (smithyref05_Round.j2 k x2 y85)
def smithyref05_Round.l4 (k : Nat) (x1 : List Int) (x2 : Int) (y1 : List Int) : Nat → Int → (List Int) → Option ((List Int))
  | 0, _, _ => none
  | q + 1, y84, y85 => smithyref05_Round.b4 k x1 x2 y1 (smithyref05_Round.l4 k x1 x2 y1 q) y84 y85
def smithyref05_Round.j1 (k : Nat) (x1 : List Int) (x2 : Int) (y1 : List Int) : Option ((List Int)) := smithyref05_Round.l4 k x1 x2 y1 k 0 [0, 0, 0, 0, 0, 0, 0, 0, 0, 0, 0, 0, 0, 0, 0, 0, 0, 0, 0, 0, 0, 0, 0, 0, 0]
def smithyref05_Round.j7 (y107 : Int) (rec6 : Int → (List Int) → Option ((List Int))) (y113 : List Int) : Option ((List Int)) := rec6 (wr .i64 (y107 + 1)) y113
def smithyref05_Round.b7 (x1 : List Int) (y107 : Int) (rec6 : Int → (List Int) → Option ((List Int))) (rec7 : Int → (List Int) → Option ((List Int))) (y116 : Int) (y117 : List Int) : Option ((List Int)) := if (decide (y116 < 5)) = true then (if (0 : Int) ≤ y107 ∧ y107 < 5 then (if (0 : Int) ≤ (wr .i64 (y107 + (wr .i64 (5 * y116)))) ∧ (wr .i64 (y107 + (wr .i64 (5 * y116)))) < 25 then (rec7 (wr .i64 (y116 + 1)) (y117.set (Int.toNat y107) (bits .xor .u64 (rd y117 y107) (rd x1 (wr .i64 (y107 + (wr .i64 (5 * y116)))))))) else none) else none) else (smithyref05_Round.j7 y107 rec6 y117)
def smithyref05_Round.l7 (x1 : List Int) (y107 : Int) (rec6 : Int → (List Int) → Option ((List Int))) : Nat → Int → (List Int) → Option ((List Int))
  | 0, _, _ => none
  | q + 1, y116, y117 => smithyref05_Round.b7 x1 y107 rec6 (smithyref05_Round.l7 x1 y107 rec6 q) y116 y117
def smithyref05_Round.b6 (k : Nat) (x1 : List Int) (x2 : Int) (rec6 : Int → (List Int) → Option ((List Int))) (y107 : Int) (y108 : List Int) : Option ((List Int)) := if (decide (y107 < 5)) = true then (smithyref05_Round.l7 x1 y107 rec6 k 0 y108) else (smithyref05_Round.j1 k x1 x2 y108)
def smithyref05_Round.l6 (k : Nat) (x1 : List Int) (x2 : Int) : Nat → Int → (List Int) → Option ((List Int))
  | 0, _, _ => none
  | q + 1, y107, y108 => smithyref05_Round.b6 k x1 x2 (smithyref05_Round.l6 k x1 x2 q) y107 y108
def smithyref05_Round.f (k : Nat) (x1 : List Int) (x2 : Int) : Option ((List Int)) := smithyref05_Round.l6 k x1 x2 k 0 [0, 0, 0, 0, 0]
theorem smithyref05_Round.ok (k : Nat) : smithyref05_Round.Ctr (smithyref05_Round.f k) := by
 intro x1 x2 r h0 mi w0 ok hm
 delta smithyref05_Round.f at h0
 refine c_enterZ (n := 157) ok hm func38 rfl rfl rfl fun b0 hb a S => c_region (s_box S rfl rfl rfl fun g1 a w S => s_alloc S Z57 rfl ⟨rfl, trivial⟩ rfl fun g2 a w S => c_end (c_region (s_build S (ds := []) (dv := (.agg [.ints .u64 [0, 0, 0, 0, 0] 5])) rfl (fun _ => by kernel_rfl) ⟨rfl, trivial⟩ rfl fun a S => s_alloc S Z119 rfl ⟨rfl, trivial⟩ rfl fun g3 a w S => s_store S rfl rfl rfl (s' := [.ints .u64 [0, 0, 0, 0, 0] 5]) .h T119 rfl rfl fun w S => c_end (wp_seq_k fun K1 hK1 => ?_))))
 have j1 : ∀ m g37 g38 g39 y1 a w, St 157 m b0 [(5, (.p g37)), (4, (.p g38)), (2, (.p g39)), (1, (.w x2))] [Res.cells g37 119 [.ints .u64 y1 5], Res.cells g38 57 [.ints .u64 z25 25], Res.cells g39 57 [.ints .u64 x1 25]] a w → smithyref05_Round.j1 k x1 x2 y1 = some r → K1 a w := by
  intro m g37 g38 g39 y1 a w S h0
  delta smithyref05_Round.j1 at h0
  refine hK1 a w (c_region (s_build S (ds := []) (dv := (.agg [.ints .u64 z25 25])) rfl (fun _ => by kernel_rfl) ⟨rfl, trivial⟩ rfl fun a S => s_alloc S Z57 rfl ⟨rfl, trivial⟩ rfl fun g40 a w S => s_store S rfl rfl rfl (s' := [.ints .u64 z25 25]) .h T57 rfl rfl fun w S => c_end (wp_seq_k fun K2 hK2 => ?_)))
  have j2 : ∀ m g85 g86 y16 a w, St 157 m b0 [(8, (.p g85)), (4, (.p g86)), (1, (.w x2))] [Res.cells g85 57 [.ints .u64 y16 25], Res.cells g86 57 [.ints .u64 z25 25]] a w → smithyref05_Round.j2 k x2 y16 = some r → K2 a w := by
   intro m g85 g86 y16 a w S h0
   delta smithyref05_Round.j2 at h0
   refine hK2 a w (c_region (s_build S (ds := []) (dv := (.agg [.ints .u64 z25 25])) rfl (fun _ => by kernel_rfl) ⟨rfl, trivial⟩ rfl fun a S => s_alloc S Z57 rfl ⟨rfl, trivial⟩ rfl fun g87 a w S => s_store S rfl rfl rfl (s' := [.ints .u64 z25 25]) .h T57 rfl rfl fun w S => c_end (c_region (s_iaddr S (o' := 0) rfl rfl underlying57 T52 (by decide) (by decide) rfl rfl fun a S => s_loadi S (i := 0) rfl .h1 T52 .h rfl (by decide) (by decide) rfl fun a S => s_iaddr S (o' := 0) rfl rfl underlying57 T52 (by decide) (by decide) rfl rfl fun a S => s_storei S (i := 0) rfl rfl .h T52 .h rfl (by decide) (by decide) fun w S => c_end (c_region (s_assign S rfl rfl fun a S => c_end (c_region (s_assign S rfl rfl fun a S => c_end (wp_seq_k fun K3 hK3 => ?_)))))))))
   have j3 : ∀ m g97 g98 y25 a w, St 157 m b0 [(11, (.p g97)), (4, (.p g98)), (1, (.w x2))] [Res.cells g97 57 [.ints .u64 y25 25], Res.cells g98 57 [.ints .u64 z25 25]] a w → smithyref05_Round.j3 k x2 y25 = some r → K3 a w := by
    intro m g97 g98 y25 a w S h0
    delta smithyref05_Round.j3 at h0
    refine hK3 a w (c_region (s_build S (ds := []) (dv := (.agg [.ints .u64 z25 25])) rfl (fun _ => by kernel_rfl) ⟨rfl, trivial⟩ rfl fun a S => s_alloc S Z57 rfl ⟨rfl, trivial⟩ rfl fun g99 a w S => s_store S rfl rfl rfl (s' := [.ints .u64 z25 25]) .h T57 rfl rfl fun w S => c_end (wp_seq_k fun K4 hK4 => ?_)))
    have j4 : ∀ m g133 g134 y40 a w, St 157 m b0 [(16, (.p g133)), (4, (.p g134)), (1, (.w x2))] [Res.cells g133 57 [.ints .u64 y40 25], Res.cells g134 57 [.ints .u64 z25 25]] a w → smithyref05_Round.j4 x2 y40 = some r → K4 a w := by
     intro m g133 g134 y40 a w S h0
     delta smithyref05_Round.j4 at h0
     refine hK4 a w (c_region (s_iaddr S (o' := 0) rfl rfl underlying57 T52 (by decide) (by decide) rfl rfl fun a S => s_loadi S (i := 0) rfl .h T52 .h rfl (by decide) (by decide) rfl fun a S => s_move S rfl rfl fun a S => s_bin S rfl rfl rfl rfl fun a S => s_iaddr S (o' := 0) rfl rfl underlying57 T52 (by decide) (by decide) rfl rfl fun a S => s_storei S (i := 0) rfl rfl .h T52 .h rfl (by decide) (by decide) fun w S => c_end (c_region (s_loada S rfl .h T57 (s' := [.ints .u64 (y40.set (Int.toNat 0) (bits .xor .u64 (rd y40 0) x2)) 25]) rfl rfl fun a S => s_store S rfl rfl rfl (s' := [.ints .u64 (y40.set (Int.toNat 0) (bits .xor .u64 (rd y40 0) x2)) 25]) .h1 T57 rfl rfl fun w S => c_end (wp_ret ?_)))))
     obtain rfl := Option.some.inj h0
     exact b_ret1 (d := (.agg [.ints .u64 (y40.set (Int.toNat 0) (bits .xor .u64 (rd y40 0) x2)) 25])) S rfl (resD_cell rfl .h1 T57 rfl rfl) (S.rt hb)
    refine c_region (s_assign S rfl rfl fun a S => c_end (wp_block ?_))
    refine c_loop (fun q1 a w => ∃ m y53 g165 g166 g167 y54, St 157 m b0 [(17, (.i y53)), (16, (.p g165)), (11, (.p g166)), (4, (.p g167)), (1, (.w x2))] [Res.cells g165 57 [.ints .u64 y54 25], Res.cells g166 57 [.ints .u64 y25 25], Res.cells g167 57 [.ints .u64 z25 25]] a w ∧ smithyref05_Round.l1 k x2 y25 q1 y53 y54 = some r) ?_ ?_ (k := k) ⟨_, 0, g99, g97, g98, z25, (S.sb rfl (.c0 (.c0 (.c0 .n)))), h0⟩
    ·rintro a w ⟨m, y53, g165, g166, g167, y54, S, h0⟩
     exact (nomatch (show (none : Option ((List Int))) = some r from h0))
    ·clear S h0
     rintro q1 a w ⟨m, y53, g165, g166, g167, y54, S, h0⟩
     replace h0 : smithyref05_Round.b1 k x2 y25 (smithyref05_Round.l1 k x2 y25 q1) y53 y54 = some r := h0
     delta smithyref05_Round.b1 at h0
     refine wp_seq (c_region (s_move S rfl rfl fun a S => s_bin S rfl rfl rfl rfl fun a S => c_end ?_))
     rcases ite_of h0 with ⟨c1, h1⟩ | ⟨c1, h1⟩
     ·refine c_condT S rfl c1 (wp_skip (x_thenN (wp_seq_k fun K5 hK5 => ?_)))
      have j5 : ∀ m g177 g178 g179 y59 a w, St 157 m b0 [(17, (.i y53)), (16, (.p g177)), (11, (.p g178)), (4, (.p g179)), (1, (.w x2))] [Res.cells g177 57 [.ints .u64 y59 25], Res.cells g178 57 [.ints .u64 y25 25], Res.cells g179 57 [.ints .u64 z25 25]] a w → smithyref05_Round.j5 y53 (smithyref05_Round.l1 k x2 y25 q1) y59 = some r → K5 a w := by
       intro m g177 g178 g179 y59 a w S h0
       delta smithyref05_Round.j5 at h0
       refine hK5 a w (c_region' (s_move S rfl rfl fun a S => s_bin S rfl rfl rfl rfl fun a S => s_assign S rfl rfl fun a S => c_end' (x_thenN ?_)))
       exact ⟨_, (wr .i64 (y53 + 1)), g177, g178, g179, y59, (S.sb rfl (.c0 (.c0 (.c0 .n)))), h0⟩
      refine wp_block (c_region (s_assign S rfl rfl fun a S => c_end (wp_block ?_)))
      refine c_loop (fun q2 a w => ∃ m y62 g186 g187 g188 y63, St 157 m b0 [(18, (.i y62)), (17, (.i y53)), (16, (.p g186)), (11, (.p g187)), (4, (.p g188)), (1, (.w x2))] [Res.cells g186 57 [.ints .u64 y63 25], Res.cells g187 57 [.ints .u64 y25 25], Res.cells g188 57 [.ints .u64 z25 25]] a w ∧ smithyref05_Round.l2 y25 y53 (smithyref05_Round.l1 k x2 y25 q1) q2 y62 y63 = some r) ?_ ?_ (k := k) ⟨_, 0, g165, g166, g167, y54, (S.sb rfl (.c0 (.c0 (.c0 .n)))), h1⟩
      ·rintro a w ⟨m, y62, g186, g187, g188, y63, S, h0⟩
       exact (nomatch (show (none : Option ((List Int))) = some r from h0))
      ·clear S h1
       rintro q2 a w ⟨m, y62, g186, g187, g188, y63, S, h0⟩
       replace h0 : smithyref05_Round.b2 y25 y53 (smithyref05_Round.l1 k x2 y25 q1) (smithyref05_Round.l2 y25 y53 (smithyref05_Round.l1 k x2 y25 q1) q2) y62 y63 = some r := h0
       delta smithyref05_Round.b2 at h0
       refine wp_seq (c_region (s_move S rfl rfl fun a S => s_bin S rfl rfl rfl rfl fun a S => c_end ?_))
       rcases ite_of h0 with ⟨c2, h1⟩ | ⟨c2, h1⟩
       ·refine c_condT S rfl c2 (wp_skip (x_thenN (wp_seq (wp_block (c_heldS S (.take 0 (.take 1 (.take 2 (.take 3 (.take 4 (.take 5 (.take 6 (.take 7 (.take 8 (.take 9 (.take 10 (.take 11 (.take 12 (.take 13 (.take 14 (.take 15 (.take 16 (.take 17 (.take 18 (.take 19 (.take 20 (.take 21 (.take 22 (.take 23 (.take 24 (.take 25 (.take 26 (.take 27 (.take 28 (.take 29 (.alts (.run 30 false .done .nil)))))))))))))))))))))))))))))))) 30 [Res.cells g186 57 [.ints .u64 y63 25], Res.cells g187 57 [.ints .u64 y25 25], Res.cells g188 57 [.ints .u64 z25 25]] (.c0 (.c0 (.c0 .n))) ⟨Res.stay_cells, Res.stay_cells, Res.stay_cells, trivial⟩ [(18, (.i y62)), (17, (.i y53)), (16, (.p g186)), (11, (.p g187))] (subR rfl) (by kernel_rfl) (by kernel_rfl) fun w S CL hw le => ?_)))))
        refine h_move S CL hw le (subR rfl) rfl rfl rfl trivial fun a S CL => h_move S CL hw le (subR rfl) rfl rfl rfl trivial fun a S CL => h_bin S CL hw le (subR rfl) rfl rfl rfl rfl rfl trivial fun a S CL => h_bin S CL hw le (subR rfl) rfl rfl rfl rfl rfl trivial fun a S CL => h_move S CL hw le (subR rfl) rfl rfl rfl trivial fun a S CL => h_move S CL hw le (subR rfl) rfl rfl rfl trivial fun a S CL => h_bin S CL hw le (subR rfl) rfl rfl rfl rfl rfl trivial fun a S CL => h_bin S CL hw le (subR rfl) rfl rfl rfl rfl rfl trivial fun a S CL => ?_
        obtain ⟨c3, h2⟩ := chk_of h1; clear h1
        refine h_iaddr S CL hw le (subR rfl) rfl rfl underlying57 T52 c3.1 c3.2 (mul1 _ _) rfl rfl trivial fun a S CL => h_loadi S CL hw le (subR rfl) (i := (wr .i64 (y53 + (wr .i64 (5 * y62))))) rfl .h1 T52 .h rfl c3.1 c3.2 rfl rfl trivial fun a S CL => h_move S CL hw le (subR rfl) rfl rfl rfl trivial fun a S CL => h_bin S CL hw le (subR rfl) rfl rfl rfl rfl rfl trivial fun a S CL => h_rem S CL hw le (subR rfl) rfl rfl (by decide) rfl rfl trivial fun a S CL => h_move S CL hw le (subR rfl) rfl rfl rfl trivial fun a S CL => h_bin S CL hw le (subR rfl) rfl rfl rfl rfl rfl trivial fun a S CL => h_bin S CL hw le (subR rfl) rfl rfl rfl rfl rfl trivial fun a S CL => ?_
        obtain ⟨c4, h3⟩ := chk_of h2; clear h2
        refine h_iaddr S CL hw le (subR rfl) rfl rfl underlying57 T52 c4.1 c4.2 (mul1 _ _) rfl rfl trivial fun a S CL => h_loadi S CL hw le (subR rfl) (i := (wr .i64 ((Int.tmod (wr .i64 (y53 + 1)) 5) + (wr .i64 (5 * y62))))) rfl .h1 T52 .h rfl c4.1 c4.2 rfl rfl trivial fun a S CL => h_bin S CL hw le (subR rfl) rfl rfl rfl rfl rfl trivial fun a S CL => h_move S CL hw le (subR rfl) rfl rfl rfl trivial fun a S CL => h_bin S CL hw le (subR rfl) rfl rfl rfl rfl rfl trivial fun a S CL => h_rem S CL hw le (subR rfl) rfl rfl (by decide) rfl rfl trivial fun a S CL => h_move S CL hw le (subR rfl) rfl rfl rfl trivial fun a S CL => h_bin S CL hw le (subR rfl) rfl rfl rfl rfl rfl trivial fun a S CL => h_bin S CL hw le (subR rfl) rfl rfl rfl rfl rfl trivial fun a S CL => ?_
        obtain ⟨c5, h4⟩ := chk_of h3; clear h3
        refine h_iaddr S CL hw le (subR rfl) rfl rfl underlying57 T52 c5.1 c5.2 (mul1 _ _) rfl rfl trivial fun a S CL => h_loadi S CL hw le (subR rfl) (i := (wr .i64 ((Int.tmod (wr .i64 (y53 + 2)) 5) + (wr .i64 (5 * y62))))) rfl .h1 T52 .h rfl c5.1 c5.2 rfl rfl trivial fun a S CL => h_bin S CL hw le (subR rfl) rfl rfl rfl rfl rfl trivial fun a S CL => h_bin S CL hw le (subR rfl) rfl rfl rfl rfl rfl trivial fun a S CL => h_iaddr S CL hw le (subR rfl) rfl rfl underlying57 T52 c3.1 c3.2 (mul1 _ _) rfl rfl trivial fun a S CL => h_run' S rfl trivial (s_storei S (i := (wr .i64 (y53 + (wr .i64 (5 * y62))))) rfl rfl .h T52 .h rfl c3.1 c3.2 fun w S => ?_)
        refine h_back ⟨fun h => (nomatch h), ?_⟩
        refine h_done ?_; clear CL hw le
        refine x_blockN (x_thenN (c_region' (s_move S rfl rfl fun a S => s_bin S rfl rfl rfl rfl fun a S => s_assign S rfl rfl fun a S => c_end' (x_thenN ?_))))
        exact ⟨_, (wr .i64 (y62 + 1)), g186, g187, g188, (y63.set (Int.toNat (wr .i64 (y53 + (wr .i64 (5 * y62))))) (bits .xor .u64 (rd y25 (wr .i64 (y53 + (wr .i64 (5 * y62))))) (bits .and .u64 (wr .u64 (18446744073709551615 - (rd y25 (wr .i64 ((Int.tmod (wr .i64 (y53 + 1)) 5) + (wr .i64 (5 * y62))))))) (rd y25 (wr .i64 ((Int.tmod (wr .i64 (y53 + 2)) 5) + (wr .i64 (5 * y62)))))))), (S.sb rfl (.c0 (.c0 (.c0 .n)))), h4⟩
       ·refine c_condF S rfl c2 (wp_exit (x_thenX (x_thenX (x_blockX (x_blockN (x_thenN ?_))))))
        exact j5 _ g186 g187 g188 y63 a w (S.sb rfl (.c0 (.c0 (.c0 .n)))) h1
     ·refine c_condF S rfl c1 (wp_exit (x_thenX (x_thenX (x_blockX (x_thenN ?_)))))
      exact j4 _ g165 g167 y54 a w (S.sb rfl (.c0 (.c1 .n))) h1
   refine c_region (s_assign S rfl rfl fun a S => c_end (wp_block ?_))
   refine c_loop (fun q3 a w => ∃ m y68 y69 y70 g195 g196 g197 y71, St 157 m b0 [(14, (.i y68)), (13, (.i y69)), (12, (.i y70)), (11, (.p g195)), (8, (.p g196)), (4, (.p g197)), (1, (.w x2))] [Res.cells g195 57 [.ints .u64 y71 25], Res.cells g196 57 [.ints .u64 y16 25], Res.cells g197 57 [.ints .u64 z25 25]] a w ∧ smithyref05_Round.l3 k x2 y16 q3 y68 y69 y70 y71 = some r) ?_ ?_ (k := k) ⟨_, 0, 0, 1, g87, g85, g86, (z25.set (Int.toNat 0) (rd y16 0)), (S.sb rfl (.c0 (.c0 (.c0 .n)))), h0⟩
   ·rintro a w ⟨m, y68, y69, y70, g195, g196, g197, y71, S, h0⟩
    exact (nomatch (show (none : Option ((List Int))) = some r from h0))
   ·clear S h0
    rintro q3 a w ⟨m, y68, y69, y70, g195, g196, g197, y71, S, h0⟩
    replace h0 : smithyref05_Round.b3 k x2 y16 (smithyref05_Round.l3 k x2 y16 q3) y68 y69 y70 y71 = some r := h0
    delta smithyref05_Round.b3 at h0
    refine wp_seq (c_region (s_move S rfl rfl fun a S => s_bin S rfl rfl rfl rfl fun a S => c_end ?_))
    rcases ite_of h0 with ⟨c6, h1⟩ | ⟨c6, h1⟩
    ·refine c_condT S rfl c6 (wp_skip (x_thenN (wp_seq (wp_block (c_region (s_move S rfl rfl fun a S => s_move S rfl rfl fun a S => s_bin S rfl rfl rfl rfl fun a S => s_move S rfl rfl fun a S => s_bin S rfl rfl rfl rfl fun a S => s_bin S rfl rfl rfl rfl fun a S => s_rem S rfl rfl (by decide) rfl fun a S => s_bin S rfl rfl rfl rfl fun a S => s_bin S rfl rfl rfl rfl fun a S => s_move S rfl rfl fun a S => s_move S rfl rfl fun a S => s_bin S rfl rfl rfl rfl fun a S => s_bin S rfl rfl rfl rfl fun a S => ?_))))))
     obtain ⟨c7, h2⟩ := chk_of h1; clear h1
     refine s_iaddr S rfl rfl underlying57 T52 c7.1 c7.2 (mul1 _ _) rfl fun a S => s_loadi S (i := (wr .i64 (y70 + (wr .i64 (5 * y69))))) rfl .h1 T52 .h rfl c7.1 c7.2 rfl fun a S => s_move S rfl rfl fun a S => s_bin S rfl rfl rfl rfl fun a S => s_move S rfl rfl fun a S => s_bin S rfl rfl rfl rfl fun a S => s_bin S rfl rfl rfl rfl fun a S => s_quo S rfl rfl (by decide) rfl fun a S => bindX h2 fun t1 et1 h3 => s_callP S _ N64 rfl rfl (smithyref05_up.ok (rd y16 (wr .i64 (y70 + (wr .i64 (5 * y69))))) (wr .i64 (Int.tdiv (wr .i64 ((wr .i64 (y68 + 1)) * (wr .i64 (y68 + 2)))) 2)) t1 et1 _ _) fun ch1 m le1 a w S => ?_
     obtain ⟨c8, h4⟩ := chk_of h3; clear h3
     refine s_iaddr S rfl rfl underlying57 T52 c8.1 c8.2 (mul1 _ _) rfl fun a S => s_storei S (i := (wr .i64 (y69 + (wr .i64 (5 * (Int.tmod (wr .i64 ((wr .i64 (2 * y70)) + (wr .i64 (3 * y69)))) 5)))))) rfl rfl .h T52 .h rfl c8.1 c8.2 fun w S => c_end (c_region (s_move S rfl rfl fun a S => s_bin S rfl rfl rfl rfl fun a S => s_move S rfl rfl fun a S => s_bin S rfl rfl rfl rfl fun a S => s_bin S rfl rfl rfl rfl fun a S => s_rem S rfl rfl (by decide) rfl fun a S => s_assign S rfl rfl fun a S => c_end (c_region (s_move S rfl rfl fun a S => s_assign S rfl rfl fun a S => c_end (c_region' (s_move S rfl rfl fun a S => s_assign S rfl rfl fun a S => c_end' (x_blockN (x_thenN (c_region' (s_move S rfl rfl fun a S => s_bin S rfl rfl rfl rfl fun a S => s_assign S rfl rfl fun a S => c_end' (x_thenN ?_)))))))))))
     exact ⟨_, (wr .i64 (y68 + 1)), (Int.tmod (wr .i64 ((wr .i64 (2 * y70)) + (wr .i64 (3 * y69)))) 5), y69, g195, g196, g197, (y71.set (Int.toNat (wr .i64 (y69 + (wr .i64 (5 * (Int.tmod (wr .i64 ((wr .i64 (2 * y70)) + (wr .i64 (3 * y69)))) 5)))))) t1), (S.sb rfl (.c0 (.c0 (.c0 .n)))), h4⟩
    ·refine c_condF S rfl c6 (wp_exit (x_thenX (x_thenX (x_blockX (x_thenN ?_)))))
     exact j3 _ g195 g197 y71 a w (S.sb rfl (.c0 (.c1 .n))) h1
  refine c_region (s_assign S rfl rfl fun a S => c_end (wp_block ?_))
  refine c_loop (fun q4 a w => ∃ m y84 g238 g239 g240 g241 y85, St 157 m b0 [(9, (.i y84)), (8, (.p g238)), (5, (.p g239)), (4, (.p g240)), (2, (.p g241)), (1, (.w x2))] [Res.cells g238 57 [.ints .u64 y85 25], Res.cells g239 119 [.ints .u64 y1 5], Res.cells g240 57 [.ints .u64 z25 25], Res.cells g241 57 [.ints .u64 x1 25]] a w ∧ smithyref05_Round.l4 k x1 x2 y1 q4 y84 y85 = some r) ?_ ?_ (k := k) ⟨_, 0, g40, g37, g38, g39, z25, (S.sb rfl (.c0 (.c0 (.c0 (.c0 .n))))), h0⟩
  ·rintro a w ⟨m, y84, g238, g239, g240, g241, y85, S, h0⟩
   exact (nomatch (show (none : Option ((List Int))) = some r from h0))
  ·clear S h0
   rintro q4 a w ⟨m, y84, g238, g239, g240, g241, y85, S, h0⟩
   replace h0 : smithyref05_Round.b4 k x1 x2 y1 (smithyref05_Round.l4 k x1 x2 y1 q4) y84 y85 = some r := h0
   delta smithyref05_Round.b4 at h0
   refine wp_seq (c_region (s_move S rfl rfl fun a S => s_bin S rfl rfl rfl rfl fun a S => c_end ?_))
   rcases ite_of h0 with ⟨c9, h1⟩ | ⟨c9, h1⟩
   ·refine c_condT S rfl c9 (wp_skip (x_thenN (wp_seq_k fun K6 hK6 => ?_)))
    have j6 : ∀ m g254 g255 g256 g257 y90 a w, St 157 m b0 [(9, (.i y84)), (8, (.p g254)), (5, (.p g255)), (4, (.p g256)), (2, (.p g257)), (1, (.w x2))] [Res.cells g254 57 [.ints .u64 y90 25], Res.cells g255 119 [.ints .u64 y1 5], Res.cells g256 57 [.ints .u64 z25 25], Res.cells g257 57 [.ints .u64 x1 25]] a w → smithyref05_Round.j6 y84 (smithyref05_Round.l4 k x1 x2 y1 q4) y90 = some r → K6 a w := by
     intro m g254 g255 g256 g257 y90 a w S h0
     delta smithyref05_Round.j6 at h0
     refine hK6 a w (c_region' (s_move S rfl rfl fun a S => s_bin S rfl rfl rfl rfl fun a S => s_assign S rfl rfl fun a S => c_end' (x_thenN ?_)))
     exact ⟨_, (wr .i64 (y84 + 1)), g254, g255, g256, g257, y90, (S.sb rfl (.c0 (.c0 (.c0 (.c0 .n))))), h0⟩
    refine wp_block (c_region (s_assign S rfl rfl fun a S => c_end (wp_block ?_)))
    refine c_loop (fun q5 a w => ∃ m y93 g266 g267 g268 g269 y94, St 157 m b0 [(10, (.i y93)), (9, (.i y84)), (8, (.p g266)), (5, (.p g267)), (4, (.p g268)), (2, (.p g269)), (1, (.w x2))] [Res.cells g266 57 [.ints .u64 y94 25], Res.cells g267 119 [.ints .u64 y1 5], Res.cells g268 57 [.ints .u64 z25 25], Res.cells g269 57 [.ints .u64 x1 25]] a w ∧ smithyref05_Round.l5 x1 y1 y84 (smithyref05_Round.l4 k x1 x2 y1 q4) q5 y93 y94 = some r) ?_ ?_ (k := k) ⟨_, 0, g238, g239, g240, g241, y85, (S.sb rfl (.c0 (.c0 (.c0 (.c0 .n))))), h1⟩
    ·rintro a w ⟨m, y93, g266, g267, g268, g269, y94, S, h0⟩
     exact (nomatch (show (none : Option ((List Int))) = some r from h0))
    ·clear S h1
     rintro q5 a w ⟨m, y93, g266, g267, g268, g269, y94, S, h0⟩
     replace h0 : smithyref05_Round.b5 x1 y1 y84 (smithyref05_Round.l4 k x1 x2 y1 q4) (smithyref05_Round.l5 x1 y1 y84 (smithyref05_Round.l4 k x1 x2 y1 q4) q5) y93 y94 = some r := h0
     delta smithyref05_Round.b5 at h0
     refine wp_seq (c_region (s_move S rfl rfl fun a S => s_bin S rfl rfl rfl rfl fun a S => c_end ?_))
     rcases ite_of h0 with ⟨c10, h1⟩ | ⟨c10, h1⟩
     ·refine c_condT S rfl c10 (wp_skip (x_thenN (wp_seq (wp_block (c_heldS S (.take 0 (.take 1 (.take 2 (.take 3 (.take 4 (.take 5 (.take 6 (.take 7 (.take 8 (.take 9 (.take 10 (.take 11 (.take 12 (.take 13 (.take 14 (.take 15 (.take 16 (.take 17 (.take 18 (.take 19 (.take 20 (.alts (.run 21 true (.take 22 (.take 23 (.alts (.run 24 false .done .nil)))) .nil))))))))))))))))))))))) 24 [Res.cells g266 57 [.ints .u64 y94 25], Res.cells g267 119 [.ints .u64 y1 5], Res.cells g268 57 [.ints .u64 z25 25], Res.cells g269 57 [.ints .u64 x1 25]] (.c0 (.c0 (.c0 (.c0 .n)))) ⟨Res.stay_cells, Res.stay_cells, Res.stay_cells, Res.stay_cells, trivial⟩ [(10, (.i y93)), (9, (.i y84)), (8, (.p g266)), (5, (.p g267)), (2, (.p g269))] (subR rfl) (by kernel_rfl) (by kernel_rfl) fun w S CL hw le => ?_)))))
      refine h_move S CL hw le (subR rfl) rfl rfl rfl trivial fun a S CL => h_move S CL hw le (subR rfl) rfl rfl rfl trivial fun a S CL => h_bin S CL hw le (subR rfl) rfl rfl rfl rfl rfl trivial fun a S CL => h_bin S CL hw le (subR rfl) rfl rfl rfl rfl rfl trivial fun a S CL => h_move S CL hw le (subR rfl) rfl rfl rfl trivial fun a S CL => h_move S CL hw le (subR rfl) rfl rfl rfl trivial fun a S CL => h_bin S CL hw le (subR rfl) rfl rfl rfl rfl rfl trivial fun a S CL => h_bin S CL hw le (subR rfl) rfl rfl rfl rfl rfl trivial fun a S CL => ?_
      obtain ⟨c11, h2⟩ := chk_of h1; clear h1
      refine h_iaddr S CL hw le (subR rfl) rfl rfl underlying57 T52 c11.1 c11.2 (mul1 _ _) rfl rfl trivial fun a S CL => h_loadi S CL hw le (subR rfl) (i := (wr .i64 (y84 + (wr .i64 (5 * y93))))) rfl .h3 T52 .h rfl c11.1 c11.2 rfl rfl trivial fun a S CL => h_move S CL hw le (subR rfl) rfl rfl rfl trivial fun a S CL => h_bin S CL hw le (subR rfl) rfl rfl rfl rfl rfl trivial fun a S CL => h_rem S CL hw le (subR rfl) rfl rfl (by decide) rfl rfl trivial fun a S CL => ?_
      obtain ⟨c12, h3⟩ := chk_of h2; clear h2
      refine h_iaddr S CL hw le (subR rfl) rfl rfl underlying119 T52 c12.1 c12.2 (mul1 _ _) rfl rfl trivial fun a S CL => h_loadi S CL hw le (subR rfl) (i := (Int.tmod (wr .i64 (y84 + 4)) 5)) rfl .h1 T52 .h rfl c12.1 c12.2 rfl rfl trivial fun a S CL => h_bin S CL hw le (subR rfl) rfl rfl rfl rfl rfl trivial fun a S CL => h_move S CL hw le (subR rfl) rfl rfl rfl trivial fun a S CL => h_bin S CL hw le (subR rfl) rfl rfl rfl rfl rfl trivial fun a S CL => h_rem S CL hw le (subR rfl) rfl rfl (by decide) rfl rfl trivial fun a S CL => ?_
      obtain ⟨c13, h4⟩ := chk_of h3; clear h3
      refine h_iaddr S CL hw le (subR rfl) rfl rfl underlying119 T52 c13.1 c13.2 (mul1 _ _) rfl rfl trivial fun a S CL => h_loadi S CL hw le (subR rfl) (i := (Int.tmod (wr .i64 (y84 + 1)) 5)) rfl .h1 T52 .h rfl c13.1 c13.2 rfl rfl trivial fun a S CL => h_run' S rfl trivial (bindX h4 fun t4 et4 h5 => s_callP S _ N64 rfl rfl (smithyref05_up.ok (rd y1 (Int.tmod (wr .i64 (y84 + 1)) 5)) 1 t4 et4 _ _) fun ch2 m le1 a w S => ?_)
      replace le := le.trans le1
      refine CL.bk hw S (.c0 (.c0 (.c0 (.c0 .n)))) le fun hw => ?_
      replace CL := CL.add (t := 70) (d := (.w t4)) S rfl rfl
      refine h_bin S CL hw le (subR rfl) rfl rfl rfl rfl rfl trivial fun a S CL => h_iaddr S CL hw le (subR rfl) rfl rfl underlying57 T52 c11.1 c11.2 (mul1 _ _) rfl rfl trivial fun a S CL => h_run' S rfl trivial (s_storei S (i := (wr .i64 (y84 + (wr .i64 (5 * y93))))) rfl rfl .h T52 .h rfl c11.1 c11.2 fun w S => ?_)
      refine h_back ⟨fun h => (nomatch h), ?_⟩
      refine h_done ?_; clear CL hw le
      refine x_blockN (x_thenN (c_region' (s_move S rfl rfl fun a S => s_bin S rfl rfl rfl rfl fun a S => s_assign S rfl rfl fun a S => c_end' (x_thenN ?_))))
      exact ⟨_, (wr .i64 (y93 + 1)), g266, g267, g268, g269, (y94.set (Int.toNat (wr .i64 (y84 + (wr .i64 (5 * y93))))) (bits .xor .u64 (bits .xor .u64 (rd x1 (wr .i64 (y84 + (wr .i64 (5 * y93))))) (rd y1 (Int.tmod (wr .i64 (y84 + 4)) 5))) t4)), (S.sb rfl (.c0 (.c0 (.c0 (.c0 .n))))), h5⟩
     ·refine c_condF S rfl c10 (wp_exit (x_thenX (x_thenX (x_blockX (x_blockN (x_thenN ?_))))))
      exact j6 _ g266 g267 g268 g269 y94 a w (S.sb rfl (.c0 (.c0 (.c0 (.c0 .n))))) h1
   ·refine c_condF S rfl c9 (wp_exit (x_thenX (x_thenX (x_blockX (x_thenN ?_)))))
    exact j2 _ g238 g240 y85 a w (S.sb rfl (.c0 (.c1 .n))) h1
 refine c_region (s_assign S rfl rfl fun a S => c_end (wp_block ?_))
 refine c_loop (fun q6 a w => ∃ m y107 g300 g301 g302 y108, St 157 m b0 [(6, (.i y107)), (5, (.p g300)), (4, (.p g301)), (2, (.p g302)), (1, (.w x2))] [Res.cells g300 119 [.ints .u64 y108 5], Res.cells g301 57 [.ints .u64 z25 25], Res.cells g302 57 [.ints .u64 x1 25]] a w ∧ smithyref05_Round.l6 k x1 x2 q6 y107 y108 = some r) ?_ ?_ (k := k) ⟨_, 0, g3, g2, g1, [0, 0, 0, 0, 0], (S.sb rfl (.c0 (.c0 (.c0 .n)))), h0⟩
 ·rintro a w ⟨m, y107, g300, g301, g302, y108, S, h0⟩
  exact (nomatch (show (none : Option ((List Int))) = some r from h0))
 ·clear S h0
  rintro q6 a w ⟨m, y107, g300, g301, g302, y108, S, h0⟩
  replace h0 : smithyref05_Round.b6 k x1 x2 (smithyref05_Round.l6 k x1 x2 q6) y107 y108 = some r := h0
  delta smithyref05_Round.b6 at h0
  refine wp_seq (c_region (s_move S rfl rfl fun a S => s_bin S rfl rfl rfl rfl fun a S => c_end ?_))
  rcases ite_of h0 with ⟨c14, h1⟩ | ⟨c14, h1⟩
  ·refine c_condT S rfl c14 (wp_skip (x_thenN (wp_seq_k fun K7 hK7 => ?_)))
   have j7 : ∀ m g312 g313 g314 y113 a w, St 157 m b0 [(6, (.i y107)), (5, (.p g312)), (4, (.p g313)), (2, (.p g314)), (1, (.w x2))] [Res.cells g312 119 [.ints .u64 y113 5], Res.cells g313 57 [.ints .u64 z25 25], Res.cells g314 57 [.ints .u64 x1 25]] a w → smithyref05_Round.j7 y107 (smithyref05_Round.l6 k x1 x2 q6) y113 = some r → K7 a w := by
    intro m g312 g313 g314 y113 a w S h0
    delta smithyref05_Round.j7 at h0
    refine hK7 a w (c_region' (s_move S rfl rfl fun a S => s_bin S rfl rfl rfl rfl fun a S => s_assign S rfl rfl fun a S => c_end' (x_thenN ?_)))
    exact ⟨_, (wr .i64 (y107 + 1)), g312, g313, g314, y113, (S.sb rfl (.c0 (.c0 (.c0 .n)))), h0⟩
   refine wp_block (c_region (s_assign S rfl rfl fun a S => c_end (wp_block ?_)))
   refine c_loop (fun q7 a w => ∃ m y116 g321 g322 g323 y117, St 157 m b0 [(7, (.i y116)), (6, (.i y107)), (5, (.p g321)), (4, (.p g322)), (2, (.p g323)), (1, (.w x2))] [Res.cells g321 119 [.ints .u64 y117 5], Res.cells g322 57 [.ints .u64 z25 25], Res.cells g323 57 [.ints .u64 x1 25]] a w ∧ smithyref05_Round.l7 x1 y107 (smithyref05_Round.l6 k x1 x2 q6) q7 y116 y117 = some r) ?_ ?_ (k := k) ⟨_, 0, g300, g301, g302, y108, (S.sb rfl (.c0 (.c0 (.c0 .n)))), h1⟩
   ·rintro a w ⟨m, y116, g321, g322, g323, y117, S, h0⟩
    exact (nomatch (show (none : Option ((List Int))) = some r from h0))
   ·clear S h1
    rintro q7 a w ⟨m, y116, g321, g322, g323, y117, S, h0⟩
    replace h0 : smithyref05_Round.b7 x1 y107 (smithyref05_Round.l6 k x1 x2 q6) (smithyref05_Round.l7 x1 y107 (smithyref05_Round.l6 k x1 x2 q6) q7) y116 y117 = some r := h0
    delta smithyref05_Round.b7 at h0
    refine wp_seq (c_region (s_move S rfl rfl fun a S => s_bin S rfl rfl rfl rfl fun a S => c_end ?_))
    rcases ite_of h0 with ⟨c15, h1⟩ | ⟨c15, h1⟩
    ·refine c_condT S rfl c15 (wp_skip (x_thenN (wp_seq (wp_block (c_heldS S (.take 0 (.take 1 (.take 2 (.take 3 (.take 4 (.take 5 (.take 6 (.take 7 (.take 8 (.take 9 (.take 10 (.take 11 (.alts (.run 12 false .done .nil)))))))))))))) 12 [Res.cells g321 119 [.ints .u64 y117 5], Res.cells g322 57 [.ints .u64 z25 25], Res.cells g323 57 [.ints .u64 x1 25]] (.c0 (.c0 (.c0 .n))) ⟨Res.stay_cells, Res.stay_cells, Res.stay_cells, trivial⟩ [(7, (.i y116)), (6, (.i y107)), (5, (.p g321)), (2, (.p g323))] (subR rfl) (by kernel_rfl) (by kernel_rfl) fun w S CL hw le => ?_)))))
     refine h_move S CL hw le (subR rfl) rfl rfl rfl trivial fun a S CL => h_move S CL hw le (subR rfl) rfl rfl rfl trivial fun a S CL => ?_
     obtain ⟨c16, h2⟩ := chk_of h1; clear h1
     refine h_iaddr S CL hw le (subR rfl) rfl rfl underlying119 T52 c16.1 c16.2 (mul1 _ _) rfl rfl trivial fun a S CL => h_loadi S CL hw le (subR rfl) (i := y107) rfl .h T52 .h rfl c16.1 c16.2 rfl rfl trivial fun a S CL => h_move S CL hw le (subR rfl) rfl rfl rfl trivial fun a S CL => h_move S CL hw le (subR rfl) rfl rfl rfl trivial fun a S CL => h_bin S CL hw le (subR rfl) rfl rfl rfl rfl rfl trivial fun a S CL => h_bin S CL hw le (subR rfl) rfl rfl rfl rfl rfl trivial fun a S CL => ?_
     obtain ⟨c17, h3⟩ := chk_of h2; clear h2
     refine h_iaddr S CL hw le (subR rfl) rfl rfl underlying57 T52 c17.1 c17.2 (mul1 _ _) rfl rfl trivial fun a S CL => h_loadi S CL hw le (subR rfl) (i := (wr .i64 (y107 + (wr .i64 (5 * y116))))) rfl .h2 T52 .h rfl c17.1 c17.2 rfl rfl trivial fun a S CL => h_bin S CL hw le (subR rfl) rfl rfl rfl rfl rfl trivial fun a S CL => h_iaddr S CL hw le (subR rfl) rfl rfl underlying119 T52 c16.1 c16.2 (mul1 _ _) rfl rfl trivial fun a S CL => h_run' S rfl trivial (s_storei S (i := y107) rfl rfl .h T52 .h rfl c16.1 c16.2 fun w S => ?_)
     refine h_back ⟨fun h => (nomatch h), ?_⟩
     refine h_done ?_; clear CL hw le
     refine x_blockN (x_thenN (c_region' (s_move S rfl rfl fun a S => s_bin S rfl rfl rfl rfl fun a S => s_assign S rfl rfl fun a S => c_end' (x_thenN ?_))))
     exact ⟨_, (wr .i64 (y116 + 1)), g321, g322, g323, (y117.set (Int.toNat y107) (bits .xor .u64 (rd y117 y107) (rd x1 (wr .i64 (y107 + (wr .i64 (5 * y116))))))), (S.sb rfl (.c0 (.c0 (.c0 .n)))), h3⟩
    ·refine c_condF S rfl c15 (wp_exit (x_thenX (x_thenX (x_blockX (x_blockN (x_thenN ?_))))))
     exact j7 _ g321 g322 g323 y117 a w (S.sb rfl (.c0 (.c0 (.c0 .n)))) h1
  ·refine c_condF S rfl c14 (wp_exit (x_thenX (x_thenX (x_blockX (x_thenN ?_)))))
   exact j1 _ g300 g301 g302 y108 a w (S.sb rfl (.c0 (.c0 (.c0 .n)))) h1
abbrev smithyref05_Turn.Ty : Type := (List Int) → Option ((List Int))
def smithyref05_Turn.Ctr (s : smithyref05_Turn.Ty) : Prop := ∀ (x1 : List Int) (r : (List Int)), Ct (C := Unit) Tryd.prog 22 (s x1 = some r) [] [(.agg [.ints .u64 x1 25])] (fun _ => (.agg [.ints .u64 r 25])) fun _ => []
def smithyref05_Turn.j1 (y1 : List Int) : Option ((List Int)) := some y1
def smithyref05_Turn.b1 (k : Nat) (t1 : (List Int)) (rec1 : Int → (List Int) → Option ((List Int))) (y4 : Int) (y5 : List Int) : Option ((List Int)) := if (decide (y4 < 24)) = true then (if (0 : Int) ≤ y4 ∧ y4 < 24 then ((smithyref05_Round.f k y5 (rd t1 y4)).bind fun t4 => (rec1 (wr .i64 (y4 + 1)) t4)) else none) else (smithyref05_Turn.j1 y5)
def smithyref05_Turn.l1 (k : Nat) (t1 : (List Int)) : Nat → Int → (List Int) → Option ((List Int))
  | 0, _, _ => none
  | q + 1, y4, y5 => smithyref05_Turn.b1 k t1 (smithyref05_Turn.l1 k t1 q) y4 y5
def smithyref05_Turn.f (k : Nat) (x1 : List Int) : Option ((List Int)) := (smithyref05_Constants.f k).bind fun t1 => (smithyref05_Turn.l1 k t1 k 0 x1)
theorem smithyref05_Turn.ok (k : Nat) : smithyref05_Turn.Ctr (smithyref05_Turn.f k) := by
 intro x1 r h0 mi w0 ok hm
 delta smithyref05_Turn.f at h0
 refine c_enterZ (n := 16) ok hm func22 rfl rfl rfl fun b0 hb a S => c_region (s_box S rfl rfl rfl fun g1 a w S => s_alloc S Z57 rfl ⟨rfl, trivial⟩ rfl fun g2 a w S => c_end (c_region (bindX h0 fun t1 et1 h1 => s_callP S _ N37 rfl rfl (smithyref05_Constants.ok k t1 et1 _ _) fun ch1 m le1 a w S => s_alloc S Z83 rfl ⟨rfl, trivial⟩ rfl fun g3 a w S => s_store S rfl rfl rfl (s' := [.ints .u64 t1 24]) .h T83 rfl rfl fun w S => c_end (wp_seq_k fun K1 hK1 => ?_))))
 have j1 : ∀ m g13 g14 y1 a w, St 16 m b0 [(2, (.p g13)), (1, (.p g14))] [Res.cells g13 57 [.ints .u64 z25 25], Res.cells g14 57 [.ints .u64 y1 25]] a w → smithyref05_Turn.j1 y1 = some r → K1 a w := by
  intro m g13 g14 y1 a w S h0
  delta smithyref05_Turn.j1 at h0
  refine hK1 a w (c_region (s_loada S rfl .h1 T57 (s' := [.ints .u64 y1 25]) rfl rfl fun a S => s_store S rfl rfl rfl (s' := [.ints .u64 y1 25]) .h T57 rfl rfl fun w S => c_end (wp_ret ?_)))
  obtain rfl := Option.some.inj h0
  exact b_ret1 (d := (.agg [.ints .u64 y1 25])) S rfl (resD_cell rfl .h T57 rfl rfl) (S.rt hb)
 refine c_region (s_assign S rfl rfl fun a S => c_end (wp_block ?_))
 refine c_loop (fun q1 a w => ∃ m y4 g21 g22 g23 y5, St 16 m b0 [(4, (.i y4)), (3, (.p g21)), (2, (.p g22)), (1, (.p g23))] [Res.cells g21 83 [.ints .u64 t1 24], Res.cells g22 57 [.ints .u64 z25 25], Res.cells g23 57 [.ints .u64 y5 25]] a w ∧ smithyref05_Turn.l1 k t1 q1 y4 y5 = some r) ?_ ?_ (k := k) ⟨_, 0, g3, g2, g1, x1, (S.sb rfl (.c0 (.c0 (.c0 .n)))), h1⟩
 ·rintro a w ⟨m, y4, g21, g22, g23, y5, S, h0⟩
  exact (nomatch (show (none : Option ((List Int))) = some r from h0))
 ·clear S h1
  rintro q1 a w ⟨m, y4, g21, g22, g23, y5, S, h0⟩
  replace h0 : smithyref05_Turn.b1 k t1 (smithyref05_Turn.l1 k t1 q1) y4 y5 = some r := h0
  delta smithyref05_Turn.b1 at h0
  refine wp_seq (c_region (s_move S rfl rfl fun a S => s_bin S rfl rfl rfl rfl fun a S => c_end ?_))
  rcases ite_of h0 with ⟨c1, h1⟩ | ⟨c1, h1⟩
  ·refine c_condT S rfl c1 (wp_skip (x_thenN (wp_seq (wp_block (c_heldS S (.take 0 (.take 1 (.take 2 (.take 3 (.alts (.run 4 true (.alts (.run 5 false .done .nil)) .nil)))))) 5 [Res.cells g21 83 [.ints .u64 t1 24], Res.cells g22 57 [.ints .u64 z25 25], Res.cells g23 57 [.ints .u64 y5 25]] (.c0 (.c0 (.c0 .n))) ⟨Res.stay_cells, Res.stay_cells, Res.stay_cells, trivial⟩ [(4, (.i y4)), (3, (.p g21)), (1, (.p g23))] (subR rfl) (by kernel_rfl) (by kernel_rfl) fun w S CL hw le => ?_)))))
   refine h_loada S CL hw le (subR rfl) rfl .h2 T57 (s' := [.ints .u64 y5 25]) rfl rfl rfl trivial fun a S CL => h_move S CL hw le (subR rfl) rfl rfl rfl trivial fun a S CL => ?_
   obtain ⟨c2, h2⟩ := chk_of h1; clear h1
   refine h_iaddr S CL hw le (subR rfl) rfl rfl underlying83 T52 c2.1 c2.2 (mul1 _ _) rfl rfl trivial fun a S CL => h_loadi S CL hw le (subR rfl) (i := y4) rfl .h T52 .h rfl c2.1 c2.2 rfl rfl trivial fun a S CL => h_run' S rfl trivial (bindX h2 fun t4 et4 h3 => s_callP S _ N38 rfl rfl (smithyref05_Round.ok k y5 (rd t1 y4) t4 et4 _ _) fun ch2 m le1 a w S => ?_)
   replace le := le.trans le1
   refine CL.bk hw S (.c0 (.c0 (.c0 .n))) le fun hw => h_run' S rfl trivial (s_store S rfl rfl rfl (s' := [.ints .u64 t4 25]) .h2 T57 rfl rfl fun w S => ?_)
   refine h_back ⟨fun h => (nomatch h), ?_⟩
   refine h_done ?_; clear CL hw le
   refine x_blockN (x_thenN (c_region' (s_move S rfl rfl fun a S => s_bin S rfl rfl rfl rfl fun a S => s_assign S rfl rfl fun a S => c_end' (x_thenN ?_))))
   exact ⟨_, (wr .i64 (y4 + 1)), g21, g22, g23, t4, (S.sb rfl (.c0 (.c0 (.c0 .n)))), h3⟩
  ·refine c_condF S rfl c1 (wp_exit (x_thenX (x_thenX (x_blockX (x_thenN ?_)))))
   exact j1 _ g22 g23 y5 a w (S.sb rfl (.c1 (.c1 .n))) h1
abbrev smithyref05_Sum.Ty : Type := (List Int) → Option ((List Int))
def smithyref05_Sum.Ctr (s : smithyref05_Sum.Ty) : Prop := ∀ (x1 : List Int) (ch_0_0 : Option Addr) (ch_0_1 : Nat) (r : (List Int)), Ct (C := Unit) Tryd.prog 8 (s x1 = some r) [] [(.q yb ch_0_0 ch_0_1 x1)] (fun _ => (.a32 r)) fun _ => []
def smithyref05_Sum.j3 (y13 : List Int) : Option ((List Int)) := some y13
def smithyref05_Sum.b1 (y8 : List Int) (rec1 : Int → (List Int) → Option ((List Int))) (y16 : Int) (y17 : List Int) : Option ((List Int)) := if (decide (y16 < 32)) = true then (if (0 : Int) ≤ (wr .i64 (Int.tdiv y16 8)) ∧ (wr .i64 (Int.tdiv y16 8)) < 25 then (if (0 : Int) ≤ (wr .i64 (8 * (Int.tmod y16 8))) then (if (0 : Int) ≤ y16 ∧ y16 < 32 then (rec1 (wr .i64 (y16 + 1)) (y17.set (Int.toNat y16) (wr .u8 (Int.tmod (shr (rd y8 (wr .i64 (Int.tdiv y16 8))) (min (Int.toNat (wr .i64 (8 * (Int.tmod y16 8)))) 64)) 256)))) else none) else none) else none) else (smithyref05_Sum.j3 y17)
def smithyref05_Sum.l1 (y8 : List Int) : Nat → Int → (List Int) → Option ((List Int))
  | 0, _, _ => none
  | q + 1, y16, y17 => smithyref05_Sum.b1 y8 (smithyref05_Sum.l1 y8 q) y16 y17
def smithyref05_Sum.j2 (k : Nat) (y8 : List Int) : Option ((List Int)) := smithyref05_Sum.l1 y8 k 0 [0, 0, 0, 0, 0, 0, 0, 0, 0, 0, 0, 0, 0, 0, 0, 0, 0, 0, 0, 0, 0, 0, 0, 0, 0, 0, 0, 0, 0, 0, 0, 0]
def smithyref05_Sum.j4 (y22 : Int) (rec2 : Int → (List Int) → Option ((List Int))) (y24 : List Int) : Option ((List Int)) := rec2 (wr .i64 (y22 + 1)) y24
def smithyref05_Sum.b2 (k : Nat) (y1 : List Int) (rec2 : Int → (List Int) → Option ((List Int))) (y22 : Int) (y23 : List Int) : Option ((List Int)) := if (decide (y22 < ((y1.set (Int.toNat (wr .i64 (((y1).length : Int) - 1))) (bits .or .u8 (rd y1 (wr .i64 (((y1).length : Int) - 1))) 128)).length : Int))) = true then (if (0 : Int) ≤ (wr .i64 (Int.tdiv (Int.tmod y22 136) 8)) ∧ (wr .i64 (Int.tdiv (Int.tmod y22 136) 8)) < 25 then (if (0 : Int) ≤ y22 ∧ y22 < ((y1.set (Int.toNat (wr .i64 (((y1).length : Int) - 1))) (bits .or .u8 (rd y1 (wr .i64 (((y1).length : Int) - 1))) 128)).length : Int) then (if (0 : Int) ≤ (wr .i64 (8 * (Int.tmod (Int.tmod y22 136) 8))) then (if ((Int.tmod y22 136) == 135) = true then ((smithyref05_Turn.f k (y23.set (Int.toNat (wr .i64 (Int.tdiv (Int.tmod y22 136) 8))) (bits .xor .u64 (rd y23 (wr .i64 (Int.tdiv (Int.tmod y22 136) 8))) (shl .u64 (wr .u64 (rd (y1.set (Int.toNat (wr .i64 (((y1).length : Int) - 1))) (bits .or .u8 (rd y1 (wr .i64 (((y1).length : Int) - 1))) 128)) y22)) (min (Int.toNat (wr .i64 (8 * (Int.tmod (Int.tmod y22 136) 8)))) 64))))).bind fun t1 => (smithyref05_Sum.j4 y22 rec2 t1)) else (smithyref05_Sum.j4 y22 rec2 (y23.set (Int.toNat (wr .i64 (Int.tdiv (Int.tmod y22 136) 8))) (bits .xor .u64 (rd y23 (wr .i64 (Int.tdiv (Int.tmod y22 136) 8))) (shl .u64 (wr .u64 (rd (y1.set (Int.toNat (wr .i64 (((y1).length : Int) - 1))) (bits .or .u8 (rd y1 (wr .i64 (((y1).length : Int) - 1))) 128)) y22)) (min (Int.toNat (wr .i64 (8 * (Int.tmod (Int.tmod y22 136) 8)))) 64)))))) else none) else none) else none) else (smithyref05_Sum.j2 k y23)
def smithyref05_Sum.l2 (k : Nat) (y1 : List Int) : Nat → Int → (List Int) → Option ((List Int))
  | 0, _, _ => none
  | q + 1, y22, y23 => smithyref05_Sum.b2 k y1 (smithyref05_Sum.l2 k y1 q) y22 y23
def smithyref05_Sum.j1 (k : Nat) (y1 : List Int) : Option ((List Int)) := if (0 : Int) ≤ (wr .i64 (((y1).length : Int) - 1)) ∧ (wr .i64 (((y1).length : Int) - 1)) < ((y1).length : Int) then (smithyref05_Sum.l2 k y1 k 0 [0, 0, 0, 0, 0, 0, 0, 0, 0, 0, 0, 0, 0, 0, 0, 0, 0, 0, 0, 0, 0, 0, 0, 0, 0]) else none
def smithyref05_Sum.b3 (k : Nat) (rec3 : (List Int) → Option ((List Int))) (y26 : List Int) : Option ((List Int)) := if ((Int.tmod ((y26).length : Int) 136) != 0) = true then (if ((y26).length + ([0]).length) * 1 ≤ 140737488355328 then (rec3 (y26 ++ [0])) else none) else (smithyref05_Sum.j1 k y26)
def smithyref05_Sum.l3 (k : Nat) : Nat → (List Int) → Option ((List Int))
  | 0, _ => none
  | q + 1, y26 => smithyref05_Sum.b3 k (smithyref05_Sum.l3 k q) y26
def smithyref05_Sum.f (k : Nat) (x1 : List Int) : Option ((List Int)) := if ((([] : List Int)).length + (x1).length) * 1 ≤ 140737488355328 then (if ((([] : List Int) ++ x1).length + ([1]).length) * 1 ≤ 140737488355328 then (smithyref05_Sum.l3 k k ((([] : List Int) ++ x1) ++ [1])) else none) else none
theorem smithyref05_Sum.ok (k : Nat) : smithyref05_Sum.Ctr (smithyref05_Sum.f k) := by
 intro x1 ch_0_0 ch_0_1 r h0 mi w0 ok hm
 delta smithyref05_Sum.f at h0
 refine c_enterZ (n := 83) ok hm func8 rfl rfl rfl fun b0 hb a S => c_region (s_alloc S Z24 rfl ⟨rfl, trivial⟩ rfl fun g1 a w S => c_end (c_region (s_bldSl S (ty' := yb) (ds := []) (z := 0) (c0 := ()) (ys := ([] : List Int)) (cs := []) rfl underlying26 J5 Z5 rfl ⟨rfl, trivial⟩ rfl rfl rfl rfl rfl rfl fun g2 a w S => s_assign S rfl rfl fun a S => c_end (c_region (s_move S rfl rfl fun a S => s_move S rfl rfl fun a S => ?_)))))
 obtain ⟨c1, h1⟩ := chk_of h0; clear h0
 refine s_app S (k2 := ((x1).length)) (ys := x1) rfl (fun _ _ => .h) rfl rfl rfl (RdS.src (S.get 11 (.q yb ch_0_0 ch_0_1 x1) rfl).2.2.2.1 (by decide) S.frz) underlying26 J5 c1 rfl fun A1 cp1 a w S => s_assign S rfl rfl fun a S => c_end (c_region (s_move S rfl rfl fun a S => s_bldSl S (ty' := yb) (ds := [(0, (.v (.int .u8 1)))]) (z := 0) (c0 := ()) (ys := [1]) (cs := [()]) rfl underlying26 J5 Z5 rfl ⟨rfl, trivial⟩ rfl rfl rfl rfl rfl rfl fun g3 a w S => ?_))
 obtain ⟨c2, h2⟩ := chk_of h1; clear h1
 refine s_app S (k2 := 1) (ys := [1]) rfl (fun _ _ => .h1) rfl rfl (S.holds _ (Pull.mem .h).1).1 (Res.row.src (S.holds _ (Pull.mem .h).1)) underlying26 J5 c2 rfl fun A2 cp2 a w S => s_assign S rfl rfl fun a S => c_end (wp_seq_k fun K1 hK1 => ?_)
 have j1 : ∀ m A3 nn1 cp8 y1 g9 a w, St 83 m b0 [(3, (.s A3 nn1 cp8)), (2, (.p g9))] [Res.row yb 5 A3 nn1 cp8 y1, Res.cells g9 24 [.b32 z32]] a w → smithyref05_Sum.j1 k y1 = some r → K1 a w := by
  intro m A3 nn1 cp8 y1 g9 a w S h0
  delta smithyref05_Sum.j1 at h0
  refine hK1 a w (c_region (s_move S rfl rfl fun a S => s_move S rfl rfl fun a S => s_lenO S rfl .h underlying26 rfl fun a S => s_bin S rfl rfl rfl rfl fun a S => s_move S rfl rfl fun a S => s_move S rfl rfl fun a S => s_lenO S rfl .h underlying26 rfl fun a S => s_bin S rfl rfl rfl rfl fun a S => ?_))
  obtain ⟨c3, h1⟩ := chk_of h0; clear h0
  refine s_iaddrO S (ty' := yb) rfl .h rfl underlying26 T5 c3.1 c3.2 rfl fun g10 a hA1 S => s_ldR1 S (ty' := yb) (i := (wr .i64 (((y1).length : Int) - 1))) (off := 0) (v := (.int .u8 (rd y1 (wr .i64 (((y1).length : Int) - 1))))) rfl hA1 .h T5 c3.1 c3.2 rfl (fun _ => rfl) rfl fun a S => s_bin S rfl rfl rfl rfl fun a S => s_iaddrO S (ty' := yb) rfl .h rfl underlying26 T5 c3.1 c3.2 rfl fun g11 a hA2 S => s_stR S (ty' := yb) (i := (wr .i64 (((y1).length : Int) - 1))) (off := 0) (u := bits .or .u8 (rd y1 (wr .i64 (((y1).length : Int) - 1))) 128) (fun (c : Unit) => ()) rfl rfl rfl hA2 .h T5 c3.1 c3.2 rfl (by decide) rfl (fun _ => rfl) fun w S => c_end (c_region (s_build S (ds := []) (dv := (.agg [.ints .u64 z25 25])) rfl (fun _ => by kernel_rfl) ⟨rfl, trivial⟩ rfl fun a S => s_alloc S Z57 rfl ⟨rfl, trivial⟩ rfl fun g12 a w S => s_store S rfl rfl rfl (s' := [.ints .u64 z25 25]) .h T57 rfl rfl fun w S => c_end (wp_seq_k fun K2 hK2 => ?_)))
  have j2 : ∀ m g25 g26 y8 a w, St 83 m b0 [(4, (.p g25)), (2, (.p g26))] [Res.cells g25 57 [.ints .u64 y8 25], Res.cells g26 24 [.b32 z32]] a w → smithyref05_Sum.j2 k y8 = some r → K2 a w := by
   intro m g25 g26 y8 a w S h0
   delta smithyref05_Sum.j2 at h0
   refine hK2 a w (c_region (s_build S (ds := []) (dv := (.a32 z32)) rfl (fun _ => by kernel_rfl) ⟨rfl, trivial⟩ rfl fun a S => s_alloc S Z24 rfl ⟨rfl, trivial⟩ rfl fun g27 a w S => s_store S rfl rfl rfl (s' := [.b32 z32]) .h T24 rfl rfl fun w S => c_end (wp_seq_k fun K3 hK3 => ?_)))
   have j3 : ∀ m g37 g38 y13 a w, St 83 m b0 [(7, (.p g37)), (2, (.p g38))] [Res.cells g37 24 [.b32 y13], Res.cells g38 24 [.b32 z32]] a w → smithyref05_Sum.j3 y13 = some r → K3 a w := by
    intro m g37 g38 y13 a w S h0
    delta smithyref05_Sum.j3 at h0
    refine hK3 a w (c_region (s_loada S rfl .h T24 (s' := [.b32 y13]) rfl rfl fun a S => s_store S rfl rfl rfl (s' := [.b32 y13]) .h1 T24 rfl rfl fun w S => c_end (wp_ret ?_)))
    obtain rfl := Option.some.inj h0
    exact b_ret1 (d := (.a32 y13)) S rfl (resD_cell rfl .h1 T24 rfl rfl) (S.rt hb)
   refine c_region (s_assign S rfl rfl fun a S => c_end (wp_block ?_))
   refine c_loop (fun q1 a w => ∃ m y16 g45 g46 g47 y17, St 83 m b0 [(8, (.i y16)), (7, (.p g45)), (4, (.p g46)), (2, (.p g47))] [Res.cells g45 24 [.b32 y17], Res.cells g46 57 [.ints .u64 y8 25], Res.cells g47 24 [.b32 z32]] a w ∧ smithyref05_Sum.l1 y8 q1 y16 y17 = some r) ?_ ?_ (k := k) ⟨_, 0, g27, g25, g26, z32, (S.sb rfl (.c0 (.c0 (.c0 .n)))), h0⟩
   ·rintro a w ⟨m, y16, g45, g46, g47, y17, S, h0⟩
    exact (nomatch (show (none : Option ((List Int))) = some r from h0))
   ·clear S h0
    rintro q1 a w ⟨m, y16, g45, g46, g47, y17, S, h0⟩
    replace h0 : smithyref05_Sum.b1 y8 (smithyref05_Sum.l1 y8 q1) y16 y17 = some r := h0
    delta smithyref05_Sum.b1 at h0
    refine wp_seq (c_region (s_move S rfl rfl fun a S => s_bin S rfl rfl rfl rfl fun a S => c_end ?_))
    rcases ite_of h0 with ⟨c4, h1⟩ | ⟨c4, h1⟩
    ·refine c_condT S rfl c4 (wp_skip (x_thenN (wp_seq (wp_block (c_region' (s_move S rfl rfl fun a S => s_move S rfl rfl fun a S => s_quo S rfl rfl (by decide) rfl fun a S => ?_))))))
     obtain ⟨c5, h2⟩ := chk_of h1; clear h1
     refine s_iaddr S rfl rfl underlying57 T52 c5.1 c5.2 (mul1 _ _) rfl fun a S => s_loadi S (i := (wr .i64 (Int.tdiv y16 8))) rfl .h1 T52 .h rfl c5.1 c5.2 rfl fun a S => s_move S rfl rfl fun a S => s_rem S rfl rfl (by decide) rfl fun a S => s_bin S rfl rfl rfl rfl fun a S => ?_
     obtain ⟨c6, h3⟩ := chk_of h2; clear h2
     refine s_shr S (e := (min (Int.toNat (wr .i64 (8 * (Int.tmod y16 8)))) 64)) rfl rfl c6 rfl rfl fun a S => s_rem S rfl rfl (by decide) rfl fun a S => s_conv S rfl rfl underlying5 rfl fun a S => ?_
     obtain ⟨c7, h4⟩ := chk_of h3; clear h3
     refine s_iaddr S rfl rfl underlying24 T5 c7.1 c7.2 (mul1 _ _) rfl fun a S => s_storei S (i := y16) rfl rfl .h T5 .h rfl c7.1 c7.2 fun w S => c_end' (x_blockN (x_thenN (c_region' (s_move S rfl rfl fun a S => s_bin S rfl rfl rfl rfl fun a S => s_assign S rfl rfl fun a S => c_end' (x_thenN ?_)))))
     exact ⟨_, (wr .i64 (y16 + 1)), g45, g46, g47, (y17.set (Int.toNat y16) (wr .u8 (Int.tmod (shr (rd y8 (wr .i64 (Int.tdiv y16 8))) (min (Int.toNat (wr .i64 (8 * (Int.tmod y16 8)))) 64)) 256))), (S.sb rfl (.c0 (.c0 (.c0 .n)))), h4⟩
    ·refine c_condF S rfl c4 (wp_exit (x_thenX (x_thenX (x_blockX (x_thenN ?_)))))
     exact j3 _ g45 g47 y17 a w (S.sb rfl (.c0 (.c1 .n))) h1
  refine c_region (s_assign S rfl rfl fun a S => c_end (wp_block ?_))
  refine c_loop (fun q2 a w => ∃ m y22 g58 g59 y23, St 83 m b0 [(5, (.i y22)), (4, (.p g58)), (3, (.s A3 nn1 cp8)), (2, (.p g59))] [Res.cells g58 57 [.ints .u64 y23 25], Res.row yb 5 A3 nn1 cp8 (y1.set (Int.toNat (wr .i64 (((y1).length : Int) - 1))) (bits .or .u8 (rd y1 (wr .i64 (((y1).length : Int) - 1))) 128)), Res.cells g59 24 [.b32 z32]] a w ∧ smithyref05_Sum.l2 k y1 q2 y22 y23 = some r) ?_ ?_ (k := k) ⟨_, 0, g12, g9, z25, (S.sb rfl (.c0 (.c0 (.c0 .n)))), h1⟩
  ·rintro a w ⟨m, y22, g58, g59, y23, S, h0⟩
   exact (nomatch (show (none : Option ((List Int))) = some r from h0))
  ·clear S h1
   rintro q2 a w ⟨m, y22, g58, g59, y23, S, h0⟩
   replace h0 : smithyref05_Sum.b2 k y1 (smithyref05_Sum.l2 k y1 q2) y22 y23 = some r := h0
   delta smithyref05_Sum.b2 at h0
   refine wp_seq (c_region (s_move S rfl rfl fun a S => s_move S rfl rfl fun a S => s_lenO S rfl .h1 underlying26 rfl fun a S => s_bin S rfl rfl rfl rfl fun a S => c_end ?_))
   rcases ite_of h0 with ⟨c8, h1⟩ | ⟨c8, h1⟩
   ·refine c_condT S rfl c8 (wp_skip (x_thenN (wp_seq_k fun K4 hK4 => ?_)))
    have j4 : ∀ m g61 g62 y24 a w, St 83 m b0 [(5, (.i y22)), (4, (.p g61)), (3, (.s A3 nn1 cp8)), (2, (.p g62))] [Res.cells g61 57 [.ints .u64 y24 25], Res.row yb 5 A3 nn1 cp8 (y1.set (Int.toNat (wr .i64 (((y1).length : Int) - 1))) (bits .or .u8 (rd y1 (wr .i64 (((y1).length : Int) - 1))) 128)), Res.cells g62 24 [.b32 z32]] a w → smithyref05_Sum.j4 y22 (smithyref05_Sum.l2 k y1 q2) y24 = some r → K4 a w := by
     intro m g61 g62 y24 a w S h0
     delta smithyref05_Sum.j4 at h0
     refine hK4 a w (c_region' (s_move S rfl rfl fun a S => s_bin S rfl rfl rfl rfl fun a S => s_assign S rfl rfl fun a S => c_end' (x_thenN ?_)))
     exact ⟨_, (wr .i64 (y22 + 1)), g61, g62, y24, (S.sb rfl (.c0 (.c0 (.c0 .n)))), h0⟩
    refine wp_block (c_region (s_move S rfl rfl fun a S => s_rem S rfl rfl (by decide) rfl fun a S => s_assign S rfl rfl fun a S => c_end ?_))
    refine wp_seq (c_heldS S (.take 0 (.take 1 (.take 2 (.take 3 (.take 4 (.take 5 (.take 6 (.take 7 (.take 8 (.take 9 (.take 10 (.take 11 (.take 12 (.take 13 (.take 14 (.take 15 (.take 16 (.alts (.run 17 false .done .nil))))))))))))))))))) 17 [Res.cells g58 57 [.ints .u64 y23 25], Res.row yb 5 A3 nn1 cp8 (y1.set (Int.toNat (wr .i64 (((y1).length : Int) - 1))) (bits .or .u8 (rd y1 (wr .i64 (((y1).length : Int) - 1))) 128)), Res.cells g59 24 [.b32 z32]] (.c0 (.c0 (.c0 .n))) ⟨Res.stay_cells, Res.stay_row flat_int, Res.stay_cells, trivial⟩ [(6, (.i (Int.tmod y22 136))), (5, (.i y22)), (4, (.p g58)), (3, (.s A3 nn1 cp8))] (subR rfl) (by kernel_rfl) (by kernel_rfl) ?_); clear S; intro w S CL hw le
    refine h_move S CL hw le (subR rfl) rfl rfl rfl trivial fun a S CL => h_quo S CL hw le (subR rfl) rfl rfl (by decide) rfl rfl trivial fun a S CL => h_move S CL hw le (subR rfl) rfl rfl rfl trivial fun a S CL => h_quo S CL hw le (subR rfl) rfl rfl (by decide) rfl rfl trivial fun a S CL => ?_
    obtain ⟨c9, h2⟩ := chk_of h1; clear h1
    refine h_iaddr S CL hw le (subR rfl) rfl rfl underlying57 T52 c9.1 c9.2 (mul1 _ _) rfl rfl trivial fun a S CL => h_loadi S CL hw le (subR rfl) (i := (wr .i64 (Int.tdiv (Int.tmod y22 136) 8))) rfl .h T52 .h rfl c9.1 c9.2 rfl rfl trivial fun a S CL => h_move S CL hw le (subR rfl) rfl rfl rfl trivial fun a S CL => h_move S CL hw le (subR rfl) rfl rfl rfl trivial fun a S CL => ?_
    obtain ⟨c10, h3⟩ := chk_of h2; clear h2
    refine h_iaddrO S CL hw le (subR rfl) (ty' := yb) rfl .h1 rfl underlying26 T5 c10.1 c10.2 rfl rfl trivial fun g63 a hA3 S CL => h_ldR1 S CL hw le (subR rfl) (ty' := yb) (i := y22) (off := 0) (v := (.int .u8 (rd (y1.set (Int.toNat (wr .i64 (((y1).length : Int) - 1))) (bits .or .u8 (rd y1 (wr .i64 (((y1).length : Int) - 1))) 128)) y22))) rfl hA3 .h1 T5 c10.1 c10.2 rfl (fun _ => rfl) rfl rfl trivial fun a S CL => h_conv S CL hw le (subR rfl) rfl rfl underlying52 rfl rfl trivial fun a S CL => h_move S CL hw le (subR rfl) rfl rfl rfl trivial fun a S CL => h_rem S CL hw le (subR rfl) rfl rfl (by decide) rfl rfl trivial fun a S CL => h_bin S CL hw le (subR rfl) rfl rfl rfl rfl rfl trivial fun a S CL => ?_
    obtain ⟨c11, h4⟩ := chk_of h3; clear h3
    refine h_shl S CL hw le (subR rfl) (e := (min (Int.toNat (wr .i64 (8 * (Int.tmod (Int.tmod y22 136) 8)))) 64)) rfl rfl c11 rfl rfl rfl trivial fun a S CL => h_bin S CL hw le (subR rfl) rfl rfl rfl rfl rfl trivial fun a S CL => h_iaddr S CL hw le (subR rfl) rfl rfl underlying57 T52 c9.1 c9.2 (mul1 _ _) rfl rfl trivial fun a S CL => h_run' S rfl trivial (s_storei S (i := (wr .i64 (Int.tdiv (Int.tmod y22 136) 8))) rfl rfl .h T52 .h rfl c9.1 c9.2 fun w S => ?_)
    refine h_back ⟨fun h => (nomatch h), ?_⟩
    refine h_done ?_; clear CL hw le
    refine x_thenN (c_region (s_move S rfl rfl fun a S => s_bin S rfl rfl rfl rfl fun a S => c_end ?_))
    rcases ite_of h4 with ⟨c12, h5⟩ | ⟨c12, h5⟩
    ·refine c_condT S rfl c12 (c_region' (s_loada S rfl .h T57 (s' := [.ints .u64 (y23.set (Int.toNat (wr .i64 (Int.tdiv (Int.tmod y22 136) 8))) (bits .xor .u64 (rd y23 (wr .i64 (Int.tdiv (Int.tmod y22 136) 8))) (shl .u64 (wr .u64 (rd (y1.set (Int.toNat (wr .i64 (((y1).length : Int) - 1))) (bits .or .u8 (rd y1 (wr .i64 (((y1).length : Int) - 1))) 128)) y22)) (min (Int.toNat (wr .i64 (8 * (Int.tmod (Int.tmod y22 136) 8)))) 64)))) 25]) rfl rfl fun a S => bindX h5 fun t1 et1 h6 => s_callP S _ N22 rfl rfl (smithyref05_Turn.ok k (y23.set (Int.toNat (wr .i64 (Int.tdiv (Int.tmod y22 136) 8))) (bits .xor .u64 (rd y23 (wr .i64 (Int.tdiv (Int.tmod y22 136) 8))) (shl .u64 (wr .u64 (rd (y1.set (Int.toNat (wr .i64 (((y1).length : Int) - 1))) (bits .or .u8 (rd y1 (wr .i64 (((y1).length : Int) - 1))) 128)) y22)) (min (Int.toNat (wr .i64 (8 * (Int.tmod (Int.tmod y22 136) 8)))) 64)))) t1 et1 _ _) fun ch1 m le1 a w S => s_store S rfl rfl rfl (s' := [.ints .u64 t1 25]) .h T57 rfl rfl fun w S => c_end' (x_blockN (x_thenN ?_))))
     exact j4 _ g58 g59 t1 a w (S.sb rfl (.c0 (.c0 (.c0 .n)))) h6
    ·refine c_condF S rfl c12 (wp_skip (x_blockN (x_thenN ?_)))
     exact j4 _ g58 g59 (y23.set (Int.toNat (wr .i64 (Int.tdiv (Int.tmod y22 136) 8))) (bits .xor .u64 (rd y23 (wr .i64 (Int.tdiv (Int.tmod y22 136) 8))) (shl .u64 (wr .u64 (rd (y1.set (Int.toNat (wr .i64 (((y1).length : Int) - 1))) (bits .or .u8 (rd y1 (wr .i64 (((y1).length : Int) - 1))) 128)) y22)) (min (Int.toNat (wr .i64 (8 * (Int.tmod (Int.tmod y22 136) 8)))) 64)))) a w (S.sb rfl (.c0 (.c0 (.c0 .n)))) h5
   ·refine c_condF S rfl c8 (wp_exit (x_thenX (x_thenX (x_blockX (x_thenN ?_)))))
    exact j2 _ g58 g59 y23 a w (S.sb rfl (.c0 (.c1 .n))) h1
 refine wp_block ?_
 refine c_loop (fun q3 a w => ∃ m A4 nn3 cp13 y26 g68, St 83 m b0 [(3, (.s A4 nn3 cp13)), (2, (.p g68))] [Res.row yb 5 A4 nn3 cp13 y26, Res.cells g68 24 [.b32 z32]] a w ∧ smithyref05_Sum.l3 k q3 y26 = some r) ?_ ?_ (k := k) ⟨_, A2, ((0 + ((x1).length)) + 1), cp2, ((([] : List Int) ++ x1) ++ [1]), g1, (S.sb rfl (.c1 (.c1 .n))), h2⟩
 ·rintro a w ⟨m, A4, nn3, cp13, y26, g68, S, h0⟩
  exact (nomatch (show (none : Option ((List Int))) = some r from h0))
 ·clear S h2
  rintro q3 a w ⟨m, A4, nn3, cp13, y26, g68, S, h0⟩
  replace h0 : smithyref05_Sum.b3 k (smithyref05_Sum.l3 k q3) y26 = some r := h0
  delta smithyref05_Sum.b3 at h0
  refine wp_seq (c_region (s_move S rfl rfl fun a S => s_lenO S rfl .h underlying26 rfl fun a S => s_rem S rfl rfl (by decide) rfl fun a S => s_bin S rfl rfl rfl rfl fun a S => c_end ?_))
  rcases ite_of h0 with ⟨c13, h1⟩ | ⟨c13, h1⟩
  ·refine c_condT S rfl c13 (wp_skip (x_thenN (wp_block (c_region' (s_move S rfl rfl fun a S => s_bldSl S (ty' := yb) (ds := [(0, (.v (.int .u8 0)))]) (z := 0) (c0 := ()) (ys := [0]) (cs := [()]) rfl underlying26 J5 Z5 rfl ⟨rfl, trivial⟩ rfl rfl rfl rfl rfl rfl fun g69 a w S => ?_)))))
   obtain ⟨c14, h2⟩ := chk_of h1; clear h1
   refine s_app S (k2 := 1) (ys := [0]) rfl (fun _ _ => .h1) rfl rfl (S.holds _ (Pull.mem .h).1).1 (Res.row.src (S.holds _ (Pull.mem .h).1)) underlying26 J5 c14 rfl fun A5 cp14 a w S => s_assign S rfl rfl fun a S => c_end' (x_blockN (x_thenN ?_))
   exact ⟨_, A5, (nn3 + 1), cp14, (y26 ++ [0]), g68, (S.sb rfl (.c1 (.c1 .n))), h2⟩
  ·refine c_condF S rfl c13 (wp_exit (x_thenX (x_thenX (x_blockX (x_thenN ?_)))))
   exact j1 _ A4 nn3 cp13 y26 g68 a w (S.sb rfl (.c0 (.c0 .n))) h1
abbrev smithylaw28_AbiSelects.Ty : Type := ByteArray → Option Bool
def smithylaw28_AbiSelects.Ctr (s : smithylaw28_AbiSelects.Ty) : Prop := ∀ (x1 : ByteArray) (r : Bool), CtG (C := Unit) Tryd.prog Glob 3 (s x1 = some r) [] [(.v (.string x1))] (fun _ => (.b r)) fun _ => []
def smithylaw28_AbiSelects.f (k : Nat) (x1 : ByteArray) : Option Bool := if (decide (1000 < (x1.size : Int))) = true then ((smithylaw28_fixed.f k).bind fun t1 => (some t1)) else (if (x1).size ≤ maxLen then ((smithyref05_Sum.f k (sbytes x1)).bind fun t2 => ((smithylaw28_fixed.f k).bind fun t3 => (if t3 = true then ((abi_Selector.f k x1).bind fun t4 => (some (decide (t4 = ((t2).drop 0).take 4)))) else (some false)))) else none)
theorem smithylaw28_AbiSelects.ok (k : Nat) : smithylaw28_AbiSelects.Ctr (smithylaw28_AbiSelects.f k) := by
 intro x1 r h0 mi w0 G ok hm
 delta smithylaw28_AbiSelects.f at h0
 refine c_enterZ (n := 20) ok hm func3 rfl rfl rfl fun b0 hb a S => c_region (s_assign S rfl rfl fun a S => c_end (wp_seq (c_region (s_move S rfl rfl fun a S => s_lenT S rfl underlying9 rfl fun a S => s_bin S rfl rfl rfl rfl fun a S => c_end ?_))))
 rcases ite_of h0 with ⟨c1, h1⟩ | ⟨c1, h1⟩
 ·refine c_condT S rfl c1 (c_region (bindX h1 fun t1 et1 h2 => s_callP S _ N7 rfl rfl (smithylaw28_fixed.ok k t1 et1 _ _ (G.mono (S.leB hb))) fun ch1 m le1 a w S => s_assign S rfl rfl fun a S => c_end (wp_ret (x_thenR ?_))))
  obtain rfl := Option.some.inj h2
  exact b_ret1 (d := (.b t1)) S rfl rfl (S.rt hb)
 ·refine c_condF S rfl c1 (wp_skip (x_thenN (c_region (s_move S rfl rfl fun a S => ?_))))
  obtain ⟨c2, h2⟩ := chk_of h1; clear h1
  refine s_bytesT S rfl underlying9 underlying26 underlying5 c2 rfl fun A1 cp1 m le1 a w S => bindX h2 fun t2 et2 h3 => s_callP S _ N8 rfl rfl (smithyref05_Sum.ok k (sbytes x1) A1 cp1 t2 et2 _ _) fun ch2 m le1 a w S => s_alloc S Z24 rfl ⟨rfl, trivial⟩ rfl fun g1 a w S => s_store S rfl rfl rfl (s' := [.b32 t2]) .h T24 rfl rfl fun w S => c_end ?_
  refine wp_seq (c_heldS S (.alts (.run 0 true (.take 1 (.take 2 (.take 4 (.take 5 (.take 6 (.alts (.run 3 true (.take 7 (.take 8 (.take 9 .done))) .nil))))))) .nil)) 10 [Res.cells g1 24 [.b32 t2]] (.c0 .n) ⟨Res.stay_cells, trivial⟩ [(3, (.p g1)), (0, (.v (.string x1)))] (subR rfl) (by kernel_rfl) (by kernel_rfl) ?_); clear S; intro w S CL hw le
  refine h_run' S rfl trivial (bindX h3 fun t3 et3 h4 => s_callP S _ N7 rfl rfl (smithylaw28_fixed.ok k t3 et3 _ _ (G.mono (S.leB hb))) fun ch3 m le1 a w S => ?_)
  replace le := le.trans le1
  refine CL.bk hw S (.c0 .n) le fun hw => ?_
  replace CL := CL.add (t := 11) (d := (.b t3)) S rfl rfl
  refine h_move S CL hw le (subR rfl) rfl rfl rfl trivial fun a S CL => ?_
  rcases ite_of h4 with ⟨c3, h5⟩ | ⟨c3, h5⟩
  ·refine h_move S CL hw le (subR rfl) rfl rfl rfl ⟨_, _, rfl, rfl, c3⟩ fun a S CL => h_sliceA S CL hw le (subR rfl) (i := 0) (j := 4) (o' := 0) (len := 4) (cap := 32) rfl underlying24 T5 (.inl ⟨rfl, rfl⟩) (.inr ⟨_, _, rfl, rfl⟩) (by decide) rfl rfl rfl rfl rfl ⟨_, _, rfl, rfl, c3⟩ fun a S CL => h_arrp S CL hw le (subR rfl) rfl underlying27 (by decide) rfl rfl ⟨_, _, rfl, rfl, c3⟩ fun a S CL => h_ldInts S CL hw le (subR rfl) (lo := 0) (ys := ((t2).drop 0).take 4) rfl .h T27 .h rfl (by decide) rfl rfl rfl ⟨_, _, rfl, rfl, c3⟩ fun a S CL => h_run' S rfl ⟨_, _, rfl, rfl, c3⟩ (bindX h5 fun t4 et4 h6 => s_callP S _ N9 rfl rfl (abi_Selector.ok k x1 t4 et4 _ _ (G.mono (S.leB hb))) fun ch4 m le1 a w S => ?_)
   replace le := le.trans le1
   refine CL.bk hw S (.c0 .n) le fun hw => ?_
   replace CL := CL.add (t := 14) (d := (.agg [.ints .u8 t4 4])) S rfl rfl
   refine h_eqa S CL hw le (subR rfl) rfl rfl underlying27 underlying5 T5 Q27 rfl rfl ⟨_, _, rfl, rfl, c3⟩ fun a S CL => h_pick S CL hw le (subR rfl) (b := true) (hc_of rfl c3) rfl rfl rfl trivial fun a S CL => h_assign S CL hw le (subR rfl) rfl rfl rfl trivial fun a S CL => ?_
   refine h_done ?_; clear CL hw le
   refine x_thenN (wp_ret ?_)
   obtain rfl := Option.some.inj h6
   exact b_ret1 (d := (.b (decide (t4 = ((t2).drop 0).take 4)))) S rfl rfl (S.rt hb)
  ·refine h_skip S CL rfl rfl rfl (ne_bool c3) rfl fun a S CL => h_skip S CL rfl rfl rfl (ne_bool c3) rfl fun a S CL => h_skip S CL rfl rfl rfl (ne_bool c3) rfl fun a S CL => h_skip S CL rfl rfl rfl (ne_bool c3) rfl fun a S CL => h_skipRt S rfl rfl rfl (ne_bool c3) rfl fun a S => CL.bk hw S (.c0 .n) le fun hw => ?_
   replace CL := CL.add (t := 14) (d := .u) S rfl rfl
   refine h_skip S CL rfl rfl rfl (ne_bool c3) rfl fun a S CL => h_pick S CL hw le (subR rfl) (b := false) (hc_of rfl c3) rfl rfl rfl trivial fun a S CL => h_assign S CL hw le (subR rfl) rfl rfl rfl trivial fun a S CL => ?_
   refine h_done ?_; clear CL hw le
   refine x_thenN (wp_ret ?_)
   obtain rfl := Option.some.inj h5
   exact b_ret1 (d := (.b false)) S rfl rfl (S.rt hb)
end
end GW
