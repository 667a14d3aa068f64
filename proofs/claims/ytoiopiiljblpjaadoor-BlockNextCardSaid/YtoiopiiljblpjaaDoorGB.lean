import Derived.Test.YtoiopiiljblpjaaDoorProg
import Derived.Test.YtoiopiiljblpjaaDoorGA
set_option linter.unusedVariables false
set_option maxRecDepth 10000
namespace GW
open Go Go.RowKit Go.Proofs Go.Proofs.Tryd
abbrev keccak_round.Ty : Type := (List Int) → Option ((List Int))
def keccak_round.Ctr (s : keccak_round.Ty) : Prop := ∀ (x1 : List Int) (r : (List Int)), CtG (C := Unit) Tryd.prog Glob 92 (s x1 = some r) [] [(.agg [.ints .u64 x1 25])] (fun _ => (.agg [.ints .u64 r 25])) fun _ => []
def keccak_round.j4 (y38 : List Int) : Option ((List Int)) := some y38
def keccak_round.j5 (y51 : Int) (rec1 : Int → (List Int) → Option ((List Int))) (y57 : List Int) : Option ((List Int)) := rec1 (wr .i64 (y51 + 5)) y57
def keccak_round.b2 (y51 : Int) (y52 : List Int) (rec1 : Int → (List Int) → Option ((List Int))) (rec2 : Int → (List Int) → Option ((List Int))) (y60 : Int) (y61 : List Int) : Option ((List Int)) := if (decide (y60 < 5)) = true then (if (0 : Int) ≤ y60 ∧ y60 < 5 then (if (0 : Int) ≤ (Int.tmod (wr .i64 (y60 + 1)) 5) ∧ (Int.tmod (wr .i64 (y60 + 1)) 5) < 5 then (if (0 : Int) ≤ (Int.tmod (wr .i64 (y60 + 2)) 5) ∧ (Int.tmod (wr .i64 (y60 + 2)) 5) < 5 then (if (0 : Int) ≤ (wr .i64 (y60 + y51)) ∧ (wr .i64 (y60 + y51)) < 25 then (rec2 (wr .i64 (y60 + 1)) (y61.set (Int.toNat (wr .i64 (y60 + y51))) (bits .xor .u64 (rd (((y52).drop (Int.toNat y51)).take 5) y60) (bits .and .u64 (bnot .u64 (rd (((y52).drop (Int.toNat y51)).take 5) (Int.tmod (wr .i64 (y60 + 1)) 5))) (rd (((y52).drop (Int.toNat y51)).take 5) (Int.tmod (wr .i64 (y60 + 2)) 5)))))) else none) else none) else none) else none) else (keccak_round.j5 y51 rec1 y61)
def keccak_round.l2 (y51 : Int) (y52 : List Int) (rec1 : Int → (List Int) → Option ((List Int))) : Nat → Int → (List Int) → Option ((List Int))
  | 0, _, _ => none
  | q + 1, y60, y61 => keccak_round.b2 y51 y52 rec1 (keccak_round.l2 y51 y52 rec1 q) y60 y61
def keccak_round.b1 (k : Nat) (rec1 : Int → (List Int) → Option ((List Int))) (y51 : Int) (y52 : List Int) : Option ((List Int)) := if (decide (y51 < 25)) = true then (if (0 : Int) ≤ y51 ∧ (y51 : Int) ≤ (wr .i64 (y51 + 5)) ∧ (wr .i64 (y51 + 5)) ≤ ((25 : Nat) : Int) then (if 5 ≤ (Int.toNat (wr .i64 (y51 + 5)) - Int.toNat y51) then (keccak_round.l2 y51 y52 rec1 k 0 y52) else none) else none) else (keccak_round.j4 y52)
def keccak_round.l1 (k : Nat) : Nat → Int → (List Int) → Option ((List Int))
  | 0, _, _ => none
  | q + 1, y51, y52 => keccak_round.b1 k (keccak_round.l1 k q) y51 y52
def keccak_round.j3 (k : Nat) (y23 : List Int) : Option ((List Int)) := keccak_round.l1 k k 0 y23
def keccak_round.b3 (k : Nat) (rec3 : Int → Int → (List Int) → Option ((List Int))) (y65 : Int) (y66 : Int) (y67 : List Int) : Option ((List Int)) := if (decide (y65 < 24)) = true then (if (0 : Int) ≤ y65 ∧ y65 < 24 then (if (0 : Int) ≤ (rd tbl_keccak_places y65) ∧ (rd tbl_keccak_places y65) < 25 then ((bits_RotateLeft64.f y66 (rd tbl_keccak_turns y65)).bind fun t1 => (rec3 (wr .i64 (y65 + 1)) (rd y67 (rd tbl_keccak_places y65)) (y67.set (Int.toNat (rd tbl_keccak_places y65)) t1))) else none) else none) else (keccak_round.j3 k y67)
def keccak_round.l3 (k : Nat) : Nat → Int → Int → (List Int) → Option ((List Int))
  | 0, _, _, _ => none
  | q + 1, y65, y66, y67 => keccak_round.b3 k (keccak_round.l3 k q) y65 y66 y67
def keccak_round.j2 (k : Nat) (y16 : List Int) : Option ((List Int)) := keccak_round.l3 k k 0 (rd y16 1) y16
def keccak_round.j6 (y80 : Int) (rec4 : Int → (List Int) → Option ((List Int))) (y86 : List Int) : Option ((List Int)) := rec4 (wr .i64 (y80 + 1)) y86
def keccak_round.b5 (y1 : List Int) (y80 : Int) (rec4 : Int → (List Int) → Option ((List Int))) (t3 : Int) (rec5 : Int → (List Int) → Option ((List Int))) (y89 : Int) (y90 : List Int) : Option ((List Int)) := if (decide (y89 < 25)) = true then (if (0 : Int) ≤ (wr .i64 (y80 + y89)) ∧ (wr .i64 (y80 + y89)) < 25 then (rec5 (wr .i64 (y89 + 5)) (y90.set (Int.toNat (wr .i64 (y80 + y89))) (bits .xor .u64 (rd y90 (wr .i64 (y80 + y89))) (bits .xor .u64 (rd y1 (Int.tmod (wr .i64 (y80 + 4)) 5)) t3)))) else none) else (keccak_round.j6 y80 rec4 y90)
def keccak_round.l5 (y1 : List Int) (y80 : Int) (rec4 : Int → (List Int) → Option ((List Int))) (t3 : Int) : Nat → Int → (List Int) → Option ((List Int))
  | 0, _, _ => none
  | q + 1, y89, y90 => keccak_round.b5 y1 y80 rec4 t3 (keccak_round.l5 y1 y80 rec4 t3 q) y89 y90
def keccak_round.b4 (k : Nat) (y1 : List Int) (rec4 : Int → (List Int) → Option ((List Int))) (y80 : Int) (y81 : List Int) : Option ((List Int)) := if (decide (y80 < 5)) = true then (if (0 : Int) ≤ (Int.tmod (wr .i64 (y80 + 4)) 5) ∧ (Int.tmod (wr .i64 (y80 + 4)) 5) < 5 then (if (0 : Int) ≤ (Int.tmod (wr .i64 (y80 + 1)) 5) ∧ (Int.tmod (wr .i64 (y80 + 1)) 5) < 5 then ((bits_RotateLeft64.f (rd y1 (Int.tmod (wr .i64 (y80 + 1)) 5)) 1).bind fun t3 => (keccak_round.l5 y1 y80 rec4 t3 k 0 y81)) else none) else none) else (keccak_round.j2 k y81)
def keccak_round.l4 (k : Nat) (y1 : List Int) : Nat → Int → (List Int) → Option ((List Int))
  | 0, _, _ => none
  | q + 1, y80, y81 => keccak_round.b4 k y1 (keccak_round.l4 k y1 q) y80 y81
def keccak_round.j1 (k : Nat) (x1 : List Int) (y1 : List Int) : Option ((List Int)) := keccak_round.l4 k y1 k 0 x1
def keccak_round.b6 (k : Nat) (x1 : List Int) (rec6 : Int → (List Int) → Option ((List Int))) (y93 : Int) (y94 : List Int) : Option ((List Int)) := if (decide (y93 < 5)) = true then (if (0 : Int) ≤ y93 ∧ y93 < 25 then (if (0 : Int) ≤ (wr .i64 (y93 + 5)) ∧ (wr .i64 (y93 + 5)) < 25 then (if (0 : Int) ≤ (wr .i64 (y93 + 10)) ∧ (wr .i64 (y93 + 10)) < 25 then (if (0 : Int) ≤ (wr .i64 (y93 + 15)) ∧ (wr .i64 (y93 + 15)) < 25 then (if (0 : Int) ≤ (wr .i64 (y93 + 20)) ∧ (wr .i64 (y93 + 20)) < 25 then (if (0 : Int) ≤ y93 ∧ y93 < 5 then (rec6 (wr .i64 (y93 + 1)) (y94.set (Int.toNat y93) (bits .xor .u64 (bits .xor .u64 (bits .xor .u64 (bits .xor .u64 (rd x1 y93) (rd x1 (wr .i64 (y93 + 5)))) (rd x1 (wr .i64 (y93 + 10)))) (rd x1 (wr .i64 (y93 + 15)))) (rd x1 (wr .i64 (y93 + 20)))))) else none) else none) else none) else none) else none) else none) else (keccak_round.j1 k x1 y94)
def keccak_round.l6 (k : Nat) (x1 : List Int) : Nat → Int → (List Int) → Option ((List Int))
  | 0, _, _ => none
  | q + 1, y93, y94 => keccak_round.b6 k x1 (keccak_round.l6 k x1 q) y93 y94
def keccak_round.f (k : Nat) (x1 : List Int) : Option ((List Int)) := keccak_round.l6 k x1 k 0 [0, 0, 0, 0, 0]
theorem keccak_round.ok (k : Nat) : keccak_round.Ctr (keccak_round.f k) := by
 intro x1 r h0 mi w0 G ok hm
 delta keccak_round.f at h0
 refine c_enterZ (n := 126) ok hm func92 rfl rfl rfl fun b0 hb a S => ?_
 replace S := S.addfro (g := 2) 131 G.2.2
 replace S := S.addfro (g := 1) 131 G.2.1
 replace S := S.addfro (g := 0) 118 G.1
 refine c_region (s_box S rfl rfl rfl fun g1 a w S => s_alloc S Z100 rfl ⟨rfl, trivial⟩ rfl fun g2 a w S => c_end (c_region (s_alloc S Z128 rfl ⟨rfl, trivial⟩ rfl fun g3 a w S => c_end (wp_seq_k fun K1 hK1 => ?_))))
 have j1 : ∀ m g13 g14 g15 y1 a w, St 126 m b0 [(3, (.p g13)), (2, (.p g14)), (1, (.p g15))] [Res.cells g13 128 [.ints .u64 y1 5], Res.cells g14 100 [.ints .u64 z25 25], Res.cells g15 100 [.ints .u64 x1 25], Res.fro 0 118 [.ints .u64 tbl_keccak_constants 24], Res.fro 1 131 [.ints .i64 tbl_keccak_places 24], Res.fro 2 131 [.ints .i64 tbl_keccak_turns 24]] a w → keccak_round.j1 k x1 y1 = some r → K1 a w := by
  intro m g13 g14 g15 y1 a w S h0
  delta keccak_round.j1 at h0
  refine hK1 a w (wp_seq_k fun K2 hK2 => ?_)
  have j2 : ∀ m g49 g50 y16 a w, St 126 m b0 [(2, (.p g49)), (1, (.p g50))] [Res.cells g49 100 [.ints .u64 z25 25], Res.cells g50 100 [.ints .u64 y16 25], Res.fro 0 118 [.ints .u64 tbl_keccak_constants 24], Res.fro 1 131 [.ints .i64 tbl_keccak_places 24], Res.fro 2 131 [.ints .i64 tbl_keccak_turns 24]] a w → keccak_round.j2 k y16 = some r → K2 a w := by
   intro m g49 g50 y16 a w S h0
   delta keccak_round.j2 at h0
   refine hK2 a w (c_region (s_iaddr S (o' := 1) rfl rfl underlying100 T24 (by decide) (by decide) rfl rfl fun a S => s_loadi S (i := 1) rfl .h1 T24 .h rfl (by decide) (by decide) rfl fun a S => s_assign S rfl rfl fun a S => c_end (wp_seq_k fun K3 hK3 => ?_)))
   have j3 : ∀ m g57 g58 y23 a w, St 126 m b0 [(2, (.p g57)), (1, (.p g58))] [Res.cells g57 100 [.ints .u64 z25 25], Res.cells g58 100 [.ints .u64 y23 25], Res.fro 0 118 [.ints .u64 tbl_keccak_constants 24], Res.fro 1 131 [.ints .i64 tbl_keccak_places 24], Res.fro 2 131 [.ints .i64 tbl_keccak_turns 24]] a w → keccak_round.j3 k y23 = some r → K3 a w := by
    intro m g57 g58 y23 a w S h0
    delta keccak_round.j3 at h0
    refine hK3 a w (wp_seq_k fun K4 hK4 => ?_)
    have j4 : ∀ m g89 g90 y38 a w, St 126 m b0 [(2, (.p g89)), (1, (.p g90))] [Res.cells g89 100 [.ints .u64 z25 25], Res.cells g90 100 [.ints .u64 y38 25], Res.fro 0 118 [.ints .u64 tbl_keccak_constants 24], Res.fro 1 131 [.ints .i64 tbl_keccak_places 24], Res.fro 2 131 [.ints .i64 tbl_keccak_turns 24]] a w → keccak_round.j4 y38 = some r → K4 a w := by
     intro m g89 g90 y38 a w S h0
     delta keccak_round.j4 at h0
     refine hK4 a w (c_region (s_loada S rfl .h1 T100 (s' := [.ints .u64 y38 25]) rfl rfl fun a S => s_store S rfl rfl rfl (s' := [.ints .u64 y38 25]) .h T100 rfl rfl fun w S => c_end (wp_ret ?_)))
     obtain rfl := Option.some.inj h0
     exact b_ret1 (d := (.agg [.ints .u64 y38 25])) S rfl (resD_cell rfl .h T100 rfl rfl) (S.rt hb)
    refine c_region (s_assign S rfl rfl fun a S => c_end (wp_block ?_))
    refine c_loop (fun q1 a w => ∃ m y51 g119 g120 y52, St 126 m b0 [(12, (.i y51)), (2, (.p g119)), (1, (.p g120))] [Res.cells g119 100 [.ints .u64 z25 25], Res.cells g120 100 [.ints .u64 y52 25], Res.fro 0 118 [.ints .u64 tbl_keccak_constants 24], Res.fro 1 131 [.ints .i64 tbl_keccak_places 24], Res.fro 2 131 [.ints .i64 tbl_keccak_turns 24]] a w ∧ keccak_round.l1 k q1 y51 y52 = some r) ?_ ?_ (k := k) ⟨_, 0, g57, g58, y23, (S.sb rfl (.c0 (.c0 (.c0 (.c0 (.c0 .n)))))), h0⟩
    ·rintro a w ⟨m, y51, g119, g120, y52, S, h0⟩
     exact (nomatch (show (none : Option ((List Int))) = some r from h0))
    ·clear S h0
     rintro q1 a w ⟨m, y51, g119, g120, y52, S, h0⟩
     replace h0 : keccak_round.b1 k (keccak_round.l1 k q1) y51 y52 = some r := h0
     delta keccak_round.b1 at h0
     refine wp_seq (c_region (s_move S rfl rfl fun a S => s_bin S rfl rfl rfl rfl fun a S => c_end ?_))
     rcases ite_of h0 with ⟨c1, h1⟩ | ⟨c1, h1⟩
     ·refine c_condT S rfl c1 (wp_skip (x_thenN (wp_seq_k fun K5 hK5 => ?_)))
      have j5 : ∀ m g131 g132 y57 a w, St 126 m b0 [(12, (.i y51)), (2, (.p g131)), (1, (.p g132))] [Res.cells g131 100 [.ints .u64 z25 25], Res.cells g132 100 [.ints .u64 y57 25], Res.fro 0 118 [.ints .u64 tbl_keccak_constants 24], Res.fro 1 131 [.ints .i64 tbl_keccak_places 24], Res.fro 2 131 [.ints .i64 tbl_keccak_turns 24]] a w → keccak_round.j5 y51 (keccak_round.l1 k q1) y57 = some r → K5 a w := by
       intro m g131 g132 y57 a w S h0
       delta keccak_round.j5 at h0
       refine hK5 a w (c_region' (s_move S rfl rfl fun a S => s_bin S rfl rfl rfl rfl fun a S => s_assign S rfl rfl fun a S => c_end' (x_thenN ?_)))
       exact ⟨_, (wr .i64 (y51 + 5)), g131, g132, y57, (S.sb rfl (.c0 (.c0 (.c0 (.c0 (.c0 .n)))))), h0⟩
      refine wp_block (c_region (s_move S rfl rfl fun a S => s_move S rfl rfl fun a S => s_bin S rfl rfl rfl rfl fun a S => ?_))
      obtain ⟨c2, h2⟩ := chk_of h1; clear h1
      refine s_sliceA S (i := y51) (j := (wr .i64 (y51 + 5))) (o' := if 25 = Int.toNat y51 then 0 else 0 + Int.toNat y51 * 1) (len := Int.toNat (wr .i64 (y51 + 5)) - Int.toNat y51) (cap := 25 - Int.toNat y51) rfl underlying100 T24 (.inr ⟨_, _, rfl, rfl⟩) (.inr ⟨_, _, rfl, rfl⟩) c2 rfl rfl rfl rfl fun a S => ?_
      obtain ⟨c3, h3⟩ := chk_of h2; clear h2
      refine s_arrp S rfl underlying128 c3 rfl fun a S => s_ldInts S (lo := (Int.toNat y51)) (ys := ((y52).drop (Int.toNat y51)).take 5) rfl .h1 T128 .h (ho_rng c2 c3) (by have h := c2; have h' := c3; omega) rfl rfl fun a S => s_alloc S Z128 rfl ⟨rfl, trivial⟩ rfl fun g133 a w S => s_store S rfl rfl rfl (s' := [.ints .u64 (((y52).drop (Int.toNat y51)).take 5) 5]) .h T128 rfl rfl fun w S => c_end (c_region (s_move S rfl rfl fun a S => c_end (wp_block ?_)))
      refine c_loop (fun q2 a w => ∃ m y60 g140 g141 g142 y61, St 126 m b0 [(101, (.i y60)), (13, (.p g140)), (12, (.i y51)), (2, (.p g141)), (1, (.p g142))] [Res.cells g140 128 [.ints .u64 (((y52).drop (Int.toNat y51)).take 5) 5], Res.cells g141 100 [.ints .u64 z25 25], Res.cells g142 100 [.ints .u64 y61 25], Res.fro 0 118 [.ints .u64 tbl_keccak_constants 24], Res.fro 1 131 [.ints .i64 tbl_keccak_places 24], Res.fro 2 131 [.ints .i64 tbl_keccak_turns 24]] a w ∧ keccak_round.l2 y51 y52 (keccak_round.l1 k q1) q2 y60 y61 = some r) ?_ ?_ (k := k) ⟨_, 0, g133, g119, g120, y52, (S.sb rfl (.c0 (.c0 (.c0 (.c0 (.c0 (.c0 .n))))))), h3⟩
      ·rintro a w ⟨m, y60, g140, g141, g142, y61, S, h0⟩
       exact (nomatch (show (none : Option ((List Int))) = some r from h0))
      ·clear S h3
       rintro q2 a w ⟨m, y60, g140, g141, g142, y61, S, h0⟩
       replace h0 : keccak_round.b2 y51 y52 (keccak_round.l1 k q1) (keccak_round.l2 y51 y52 (keccak_round.l1 k q1) q2) y60 y61 = some r := h0
       delta keccak_round.b2 at h0
       refine c_region (s_bin S rfl rfl rfl rfl fun a S => c_end (wp_seq ?_))
       rcases ite_of h0 with ⟨c4, h1⟩ | ⟨c4, h1⟩
       ·refine c_condT S rfl c4 (wp_skip (x_thenN (wp_seq (wp_block (c_region (s_move S rfl rfl fun a S => s_assign S rfl rfl fun a S => c_end (c_heldS S (.take 0 (.take 1 (.take 2 (.take 3 (.take 4 (.take 5 (.take 6 (.take 7 (.take 8 (.take 9 (.take 10 (.take 11 (.take 12 (.take 13 (.take 14 (.take 15 (.take 16 (.take 17 (.take 18 (.take 19 (.alts (.run 20 false .done .nil)))))))))))))))))))))) 20 [Res.cells g140 128 [.ints .u64 (((y52).drop (Int.toNat y51)).take 5) 5], Res.cells g141 100 [.ints .u64 z25 25], Res.cells g142 100 [.ints .u64 y61 25], Res.fro 0 118 [.ints .u64 tbl_keccak_constants 24], Res.fro 1 131 [.ints .i64 tbl_keccak_places 24], Res.fro 2 131 [.ints .i64 tbl_keccak_turns 24]] (.c0 (.c0 (.c0 (.c0 (.c0 (.c0 .n)))))) ⟨Res.stay_cells, Res.stay_cells, Res.stay_cells, Res.stay_fro, Res.stay_fro, Res.stay_fro, trivial⟩ [(14, (.i y60)), (13, (.p g140)), (12, (.i y51)), (1, (.p g142))] (subR rfl) (by kernel_rfl) (by kernel_rfl) fun w S CL hw le => ?_)))))))
        refine h_move S CL hw le (subR rfl) rfl rfl rfl trivial fun a S CL => h_move S CL hw le (subR rfl) rfl rfl rfl trivial fun a S CL => h_bin S CL hw le (subR rfl) rfl rfl rfl rfl rfl trivial fun a S CL => h_move S CL hw le (subR rfl) rfl rfl rfl trivial fun a S CL => ?_
        obtain ⟨c5, h2⟩ := chk_of h1; clear h1
        refine h_iaddr S CL hw le (subR rfl) rfl rfl underlying128 T24 c5.1 c5.2 (mul1 _ _) rfl rfl trivial fun a S CL => h_loadi S CL hw le (subR rfl) (i := y60) rfl .h T24 .h rfl c5.1 c5.2 rfl rfl trivial fun a S CL => h_move S CL hw le (subR rfl) rfl rfl rfl trivial fun a S CL => h_bin S CL hw le (subR rfl) rfl rfl rfl rfl rfl trivial fun a S CL => h_rem S CL hw le (subR rfl) rfl rfl (by decide) rfl rfl trivial fun a S CL => ?_
        obtain ⟨c6, h3⟩ := chk_of h2; clear h2
        refine h_iaddr S CL hw le (subR rfl) rfl rfl underlying128 T24 c6.1 c6.2 (mul1 _ _) rfl rfl trivial fun a S CL => h_loadi S CL hw le (subR rfl) (i := (Int.tmod (wr .i64 (y60 + 1)) 5)) rfl .h T24 .h rfl c6.1 c6.2 rfl rfl trivial fun a S CL => h_un S CL hw le (subR rfl) rfl rfl rfl rfl trivial fun a S CL => h_move S CL hw le (subR rfl) rfl rfl rfl trivial fun a S CL => h_bin S CL hw le (subR rfl) rfl rfl rfl rfl rfl trivial fun a S CL => h_rem S CL hw le (subR rfl) rfl rfl (by decide) rfl rfl trivial fun a S CL => ?_
        obtain ⟨c7, h4⟩ := chk_of h3; clear h3
        refine h_iaddr S CL hw le (subR rfl) rfl rfl underlying128 T24 c7.1 c7.2 (mul1 _ _) rfl rfl trivial fun a S CL => h_loadi S CL hw le (subR rfl) (i := (Int.tmod (wr .i64 (y60 + 2)) 5)) rfl .h T24 .h rfl c7.1 c7.2 rfl rfl trivial fun a S CL => h_bin S CL hw le (subR rfl) rfl rfl rfl rfl rfl trivial fun a S CL => h_bin S CL hw le (subR rfl) rfl rfl rfl rfl rfl trivial fun a S CL => ?_
        obtain ⟨c8, h5⟩ := chk_of h4; clear h4
        refine h_iaddr S CL hw le (subR rfl) rfl rfl underlying100 T24 c8.1 c8.2 (mul1 _ _) rfl rfl trivial fun a S CL => h_run' S rfl trivial (s_storei S (i := (wr .i64 (y60 + y51))) rfl rfl .h2 T24 .h rfl c8.1 c8.2 fun w S => ?_)
        refine h_back ⟨fun h => (nomatch h), ?_⟩
        refine h_done ?_; clear CL hw le
        refine x_blockN (x_thenN (c_region' (s_bin S rfl rfl rfl rfl fun a S => s_move S rfl rfl fun a S => c_end' (x_thenN ?_))))
        exact ⟨_, (wr .i64 (y60 + 1)), g140, g141, g142, (y61.set (Int.toNat (wr .i64 (y60 + y51))) (bits .xor .u64 (rd (((y52).drop (Int.toNat y51)).take 5) y60) (bits .and .u64 (bnot .u64 (rd (((y52).drop (Int.toNat y51)).take 5) (Int.tmod (wr .i64 (y60 + 1)) 5))) (rd (((y52).drop (Int.toNat y51)).take 5) (Int.tmod (wr .i64 (y60 + 2)) 5))))), (S.sb rfl (.c0 (.c0 (.c0 (.c0 (.c0 (.c0 .n))))))), h5⟩
       ·refine c_condF S rfl c4 (wp_exit (x_thenX (x_thenX (x_blockX (x_blockN (x_thenN ?_))))))
        exact j5 _ g141 g142 y61 a w (S.sb rfl (.c1 (.c1 (.c1 (.c1 (.c1 .n)))))) h1
     ·refine c_condF S rfl c1 (wp_exit (x_thenX (x_thenX (x_blockX (x_thenN ?_)))))
      exact j4 _ g119 g120 y52 a w (S.sb rfl (.c0 (.c0 (.c0 (.c0 (.c0 .n)))))) h1
   refine c_region (s_loadaF S rfl .h3 T131 (s' := [.ints .i64 tbl_keccak_places 24]) rfl rfl fun a S => s_move S rfl rfl fun a S => c_end (wp_block ?_))
   refine c_loop (fun q3 a w => ∃ m y65 y66 g147 g148 y67, St 126 m b0 [(75, (.i y65)), (74, (.agg [.ints .i64 tbl_keccak_places 24])), (8, (.w y66)), (2, (.p g147)), (1, (.p g148))] [Res.cells g147 100 [.ints .u64 z25 25], Res.cells g148 100 [.ints .u64 y67 25], Res.fro 0 118 [.ints .u64 tbl_keccak_constants 24], Res.fro 1 131 [.ints .i64 tbl_keccak_places 24], Res.fro 2 131 [.ints .i64 tbl_keccak_turns 24]] a w ∧ keccak_round.l3 k q3 y65 y66 y67 = some r) ?_ ?_ (k := k) ⟨_, 0, (rd y16 1), g49, g50, y16, (S.sb rfl (.c0 (.c0 (.c0 (.c0 (.c0 .n)))))), h0⟩
   ·rintro a w ⟨m, y65, y66, g147, g148, y67, S, h0⟩
    exact (nomatch (show (none : Option ((List Int))) = some r from h0))
   ·clear S h0
    rintro q3 a w ⟨m, y65, y66, g147, g148, y67, S, h0⟩
    replace h0 : keccak_round.b3 k (keccak_round.l3 k q3) y65 y66 y67 = some r := h0
    delta keccak_round.b3 at h0
    refine c_region (s_bin S rfl rfl rfl rfl fun a S => c_end (wp_seq ?_))
    rcases ite_of h0 with ⟨c9, h1⟩ | ⟨c9, h1⟩
    ·refine c_condT S rfl c9 (wp_skip (x_thenN (wp_seq (wp_block (c_region (s_move S rfl rfl fun a S => ?_))))))
     obtain ⟨c10, h2⟩ := chk_of h1; clear h1
     refine s_index S rfl rfl underlying131 T3 c10.1 c10.2 rfl fun a S => s_assign S rfl rfl fun a S => s_assign S rfl rfl fun a S => c_end (c_region (s_move S rfl rfl fun a S => ?_))
     obtain ⟨c11, h3⟩ := chk_of h2; clear h2
     refine s_iaddr S rfl rfl underlying100 T24 c11.1 c11.2 (mul1 _ _) rfl fun a S => s_loadi S (i := (rd tbl_keccak_places y65)) rfl .h1 T24 .h rfl c11.1 c11.2 rfl fun a S => s_assign S rfl rfl fun a S => c_end (c_region (s_move S rfl rfl fun a S => s_move S rfl rfl fun a S => s_move S rfl rfl fun a S => s_iaddr S rfl rfl underlying131 T3 c10.1 c10.2 (mul1 _ _) rfl fun a S => s_loadiF S (i := y65) rfl .h4 T3 .h rfl c10.1 c10.2 rfl fun a S => bindX h3 fun t1 et1 h4 => s_callP S _ N96 rfl rfl (bits_RotateLeft64.ok y66 (rd tbl_keccak_turns y65) t1 et1 _ _) fun ch1 m le1 a w S => s_iaddr S rfl rfl underlying100 T24 c11.1 c11.2 (mul1 _ _) rfl fun a S => s_storei S (i := (rd tbl_keccak_places y65)) rfl rfl .h1 T24 .h rfl c11.1 c11.2 fun w S => c_end (c_region' (s_move S rfl rfl fun a S => s_assign S rfl rfl fun a S => c_end' (x_blockN (x_thenN (c_region' (s_bin S rfl rfl rfl rfl fun a S => s_move S rfl rfl fun a S => c_end' (x_thenN ?_)))))))))
     exact ⟨_, (wr .i64 (y65 + 1)), (rd y67 (rd tbl_keccak_places y65)), g147, g148, (y67.set (Int.toNat (rd tbl_keccak_places y65)) t1), (S.sb rfl (.c0 (.c0 (.c0 (.c0 (.c0 .n)))))), h4⟩
    ·refine c_condF S rfl c9 (wp_exit (x_thenX (x_thenX (x_blockX (x_thenN ?_)))))
     exact j3 _ g147 g148 y67 a w (S.sb rfl (.c0 (.c0 (.c0 (.c0 (.c0 .n)))))) h1
  refine c_region (s_move S rfl rfl fun a S => c_end (wp_block ?_))
  refine c_loop (fun q4 a w => ∃ m y80 g179 g180 g181 y81, St 126 m b0 [(44, (.i y80)), (3, (.p g179)), (2, (.p g180)), (1, (.p g181))] [Res.cells g179 128 [.ints .u64 y1 5], Res.cells g180 100 [.ints .u64 z25 25], Res.cells g181 100 [.ints .u64 y81 25], Res.fro 0 118 [.ints .u64 tbl_keccak_constants 24], Res.fro 1 131 [.ints .i64 tbl_keccak_places 24], Res.fro 2 131 [.ints .i64 tbl_keccak_turns 24]] a w ∧ keccak_round.l4 k y1 q4 y80 y81 = some r) ?_ ?_ (k := k) ⟨_, 0, g13, g14, g15, x1, (S.sb rfl (.c0 (.c0 (.c0 (.c0 (.c0 (.c0 .n))))))), h0⟩
  ·rintro a w ⟨m, y80, g179, g180, g181, y81, S, h0⟩
   exact (nomatch (show (none : Option ((List Int))) = some r from h0))
  ·clear S h0
   rintro q4 a w ⟨m, y80, g179, g180, g181, y81, S, h0⟩
   replace h0 : keccak_round.b4 k y1 (keccak_round.l4 k y1 q4) y80 y81 = some r := h0
   delta keccak_round.b4 at h0
   refine c_region (s_bin S rfl rfl rfl rfl fun a S => c_end (wp_seq ?_))
   rcases ite_of h0 with ⟨c12, h1⟩ | ⟨c12, h1⟩
   ·refine c_condT S rfl c12 (wp_skip (x_thenN (wp_seq_k fun K6 hK6 => ?_)))
    have j6 : ∀ m g191 g192 g193 y86 a w, St 126 m b0 [(44, (.i y80)), (3, (.p g191)), (2, (.p g192)), (1, (.p g193))] [Res.cells g191 128 [.ints .u64 y1 5], Res.cells g192 100 [.ints .u64 z25 25], Res.cells g193 100 [.ints .u64 y86 25], Res.fro 0 118 [.ints .u64 tbl_keccak_constants 24], Res.fro 1 131 [.ints .i64 tbl_keccak_places 24], Res.fro 2 131 [.ints .i64 tbl_keccak_turns 24]] a w → keccak_round.j6 y80 (keccak_round.l4 k y1 q4) y86 = some r → K6 a w := by
     intro m g191 g192 g193 y86 a w S h0
     delta keccak_round.j6 at h0
     refine hK6 a w (c_region' (s_bin S rfl rfl rfl rfl fun a S => s_move S rfl rfl fun a S => c_end' (x_thenN ?_)))
     exact ⟨_, (wr .i64 (y80 + 1)), g191, g192, g193, y86, (S.sb rfl (.c0 (.c0 (.c0 (.c0 (.c0 (.c0 .n))))))), h0⟩
    refine wp_block (c_region (s_move S rfl rfl fun a S => s_assign S rfl rfl fun a S => c_end ?_))
    refine wp_seq (c_heldS S (.take 0 (.take 1 (.take 2 (.take 3 (.take 4 (.take 5 (.take 6 (.take 7 (.take 8 (.take 9 (.alts (.run 10 true (.take 11 (.take 12 .done)) .nil)))))))))))) 13 [Res.cells g179 128 [.ints .u64 y1 5], Res.cells g180 100 [.ints .u64 z25 25], Res.cells g181 100 [.ints .u64 y81 25], Res.fro 0 118 [.ints .u64 tbl_keccak_constants 24], Res.fro 1 131 [.ints .i64 tbl_keccak_places 24], Res.fro 2 131 [.ints .i64 tbl_keccak_turns 24]] (.c0 (.c0 (.c0 (.c0 (.c0 (.c0 .n)))))) ⟨Res.stay_cells, Res.stay_cells, Res.stay_cells, Res.stay_fro, Res.stay_fro, Res.stay_fro, trivial⟩ [(5, (.i y80)), (3, (.p g179))] (subR rfl) (by kernel_rfl) (by kernel_rfl) ?_); clear S; intro w S CL hw le
    refine h_move S CL hw le (subR rfl) rfl rfl rfl trivial fun a S CL => h_bin S CL hw le (subR rfl) rfl rfl rfl rfl rfl trivial fun a S CL => h_rem S CL hw le (subR rfl) rfl rfl (by decide) rfl rfl trivial fun a S CL => ?_
    obtain ⟨c13, h2⟩ := chk_of h1; clear h1
    refine h_iaddr S CL hw le (subR rfl) rfl rfl underlying128 T24 c13.1 c13.2 (mul1 _ _) rfl rfl trivial fun a S CL => h_loadi S CL hw le (subR rfl) (i := (Int.tmod (wr .i64 (y80 + 4)) 5)) rfl .h T24 .h rfl c13.1 c13.2 rfl rfl trivial fun a S CL => h_move S CL hw le (subR rfl) rfl rfl rfl trivial fun a S CL => h_bin S CL hw le (subR rfl) rfl rfl rfl rfl rfl trivial fun a S CL => h_rem S CL hw le (subR rfl) rfl rfl (by decide) rfl rfl trivial fun a S CL => ?_
    obtain ⟨c14, h3⟩ := chk_of h2; clear h2
    refine h_iaddr S CL hw le (subR rfl) rfl rfl underlying128 T24 c14.1 c14.2 (mul1 _ _) rfl rfl trivial fun a S CL => h_loadi S CL hw le (subR rfl) (i := (Int.tmod (wr .i64 (y80 + 1)) 5)) rfl .h T24 .h rfl c14.1 c14.2 rfl rfl trivial fun a S CL => h_run' S rfl trivial (bindX h3 fun t3 et3 h4 => s_callP S _ N96 rfl rfl (bits_RotateLeft64.ok (rd y1 (Int.tmod (wr .i64 (y80 + 1)) 5)) 1 t3 et3 _ _) fun ch2 m le1 a w S => ?_)
    replace le := le.trans le1
    replace hw := CL.again hw S (.c0 (.c0 (.c0 (.c0 (.c0 (.c0 .n)))))) le
    refine h_back ⟨fun _ => hw, ?_⟩
    replace CL := CL.add (t := 57) (d := (.w t3)) S rfl rfl
    refine h_bin S CL hw le (subR rfl) rfl rfl rfl rfl rfl trivial fun a S CL => h_assign S CL hw le (subR rfl) rfl rfl rfl trivial fun a S CL => ?_
    refine h_done ?_; clear CL hw le
    refine x_thenN (c_region (s_assign S rfl rfl fun a S => c_end (wp_block ?_)))
    refine c_loop (fun q5 a w => ∃ m y89 g200 g201 g202 y90, St 126 m b0 [(7, (.i y89)), (6, (.w (bits .xor .u64 (rd y1 (Int.tmod (wr .i64 (y80 + 4)) 5)) t3))), (5, (.i y80)), (44, (.i y80)), (3, (.p g200)), (2, (.p g201)), (1, (.p g202))] [Res.cells g200 128 [.ints .u64 y1 5], Res.cells g201 100 [.ints .u64 z25 25], Res.cells g202 100 [.ints .u64 y90 25], Res.fro 0 118 [.ints .u64 tbl_keccak_constants 24], Res.fro 1 131 [.ints .i64 tbl_keccak_places 24], Res.fro 2 131 [.ints .i64 tbl_keccak_turns 24]] a w ∧ keccak_round.l5 y1 y80 (keccak_round.l4 k y1 q4) t3 q5 y89 y90 = some r) ?_ ?_ (k := k) ⟨_, 0, g179, g180, g181, y81, (S.sb rfl (.c0 (.c0 (.c0 (.c0 (.c0 (.c0 .n))))))), h4⟩
    ·rintro a w ⟨m, y89, g200, g201, g202, y90, S, h0⟩
     exact (nomatch (show (none : Option ((List Int))) = some r from h0))
    ·clear S h4
     rintro q5 a w ⟨m, y89, g200, g201, g202, y90, S, h0⟩
     replace h0 : keccak_round.b5 y1 y80 (keccak_round.l4 k y1 q4) t3 (keccak_round.l5 y1 y80 (keccak_round.l4 k y1 q4) t3 q5) y89 y90 = some r := h0
     delta keccak_round.b5 at h0
     refine wp_seq (c_region (s_move S rfl rfl fun a S => s_bin S rfl rfl rfl rfl fun a S => c_end ?_))
     rcases ite_of h0 with ⟨c15, h1⟩ | ⟨c15, h1⟩
     ·refine c_condT S rfl c15 (wp_skip (x_thenN (wp_seq (wp_block (c_region' (s_move S rfl rfl fun a S => s_move S rfl rfl fun a S => s_bin S rfl rfl rfl rfl fun a S => ?_))))))
      obtain ⟨c16, h2⟩ := chk_of h1; clear h1
      refine s_iaddr S rfl rfl underlying100 T24 c16.1 c16.2 (mul1 _ _) rfl fun a S => s_loadi S (i := (wr .i64 (y80 + y89))) rfl .h2 T24 .h rfl c16.1 c16.2 rfl fun a S => s_move S rfl rfl fun a S => s_bin S rfl rfl rfl rfl fun a S => s_iaddr S rfl rfl underlying100 T24 c16.1 c16.2 (mul1 _ _) rfl fun a S => s_storei S (i := (wr .i64 (y80 + y89))) rfl rfl .h2 T24 .h rfl c16.1 c16.2 fun w S => c_end' (x_blockN (x_thenN (c_region' (s_move S rfl rfl fun a S => s_bin S rfl rfl rfl rfl fun a S => s_assign S rfl rfl fun a S => c_end' (x_thenN ?_)))))
      exact ⟨_, (wr .i64 (y89 + 5)), g200, g201, g202, (y90.set (Int.toNat (wr .i64 (y80 + y89))) (bits .xor .u64 (rd y90 (wr .i64 (y80 + y89))) (bits .xor .u64 (rd y1 (Int.tmod (wr .i64 (y80 + 4)) 5)) t3))), (S.sb rfl (.c0 (.c0 (.c0 (.c0 (.c0 (.c0 .n))))))), h2⟩
     ·refine c_condF S rfl c15 (wp_exit (x_thenX (x_thenX (x_blockX (x_blockN (x_thenN ?_))))))
      exact j6 _ g200 g201 g202 y90 a w (S.sb rfl (.c0 (.c0 (.c0 (.c0 (.c0 (.c0 .n))))))) h1
   ·refine c_condF S rfl c12 (wp_exit (x_thenX (x_thenX (x_blockX (x_thenN ?_)))))
    exact j2 _ g180 g181 y81 a w (S.sb rfl (.c1 (.c1 (.c1 (.c1 (.c1 .n)))))) h1
 refine c_region (s_move S rfl rfl fun a S => c_end (wp_block ?_))
 refine c_loop (fun q6 a w => ∃ m y93 g209 g210 g211 y94, St 126 m b0 [(15, (.i y93)), (3, (.p g209)), (2, (.p g210)), (1, (.p g211))] [Res.cells g209 128 [.ints .u64 y94 5], Res.cells g210 100 [.ints .u64 z25 25], Res.cells g211 100 [.ints .u64 x1 25], Res.fro 0 118 [.ints .u64 tbl_keccak_constants 24], Res.fro 1 131 [.ints .i64 tbl_keccak_places 24], Res.fro 2 131 [.ints .i64 tbl_keccak_turns 24]] a w ∧ keccak_round.l6 k x1 q6 y93 y94 = some r) ?_ ?_ (k := k) ⟨_, 0, g3, g2, g1, [0, 0, 0, 0, 0], (S.sb rfl (.c0 (.c0 (.c0 (.c0 (.c0 (.c0 .n))))))), h0⟩
 ·rintro a w ⟨m, y93, g209, g210, g211, y94, S, h0⟩
  exact (nomatch (show (none : Option ((List Int))) = some r from h0))
 ·clear S h0
  rintro q6 a w ⟨m, y93, g209, g210, g211, y94, S, h0⟩
  replace h0 : keccak_round.b6 k x1 (keccak_round.l6 k x1 q6) y93 y94 = some r := h0
  delta keccak_round.b6 at h0
  refine c_region (s_bin S rfl rfl rfl rfl fun a S => c_end (wp_seq ?_))
  rcases ite_of h0 with ⟨c17, h1⟩ | ⟨c17, h1⟩
  ·refine c_condT S rfl c17 (wp_skip (x_thenN (wp_seq (wp_block (c_region (s_move S rfl rfl fun a S => s_assign S rfl rfl fun a S => c_end (c_heldS S (.take 0 (.take 1 (.take 2 (.take 3 (.take 4 (.take 5 (.take 6 (.take 7 (.take 8 (.take 9 (.take 10 (.take 11 (.take 12 (.take 13 (.take 14 (.take 15 (.take 16 (.take 17 (.take 18 (.take 19 (.take 20 (.take 21 (.take 22 (.take 23 (.take 24 (.alts (.run 25 false .done .nil))))))))))))))))))))))))))) 25 [Res.cells g209 128 [.ints .u64 y94 5], Res.cells g210 100 [.ints .u64 z25 25], Res.cells g211 100 [.ints .u64 x1 25], Res.fro 0 118 [.ints .u64 tbl_keccak_constants 24], Res.fro 1 131 [.ints .i64 tbl_keccak_places 24], Res.fro 2 131 [.ints .i64 tbl_keccak_turns 24]] (.c0 (.c0 (.c0 (.c0 (.c0 (.c0 .n)))))) ⟨Res.stay_cells, Res.stay_cells, Res.stay_cells, Res.stay_fro, Res.stay_fro, Res.stay_fro, trivial⟩ [(4, (.i y93)), (3, (.p g209)), (1, (.p g211))] (subR rfl) (by kernel_rfl) (by kernel_rfl) fun w S CL hw le => ?_)))))))
   refine h_move S CL hw le (subR rfl) rfl rfl rfl trivial fun a S CL => h_move S CL hw le (subR rfl) rfl rfl rfl trivial fun a S CL => ?_
   obtain ⟨c18, h2⟩ := chk_of h1; clear h1
   refine h_iaddr S CL hw le (subR rfl) rfl rfl underlying100 T24 c18.1 c18.2 (mul1 _ _) rfl rfl trivial fun a S CL => h_loadi S CL hw le (subR rfl) (i := y93) rfl .h2 T24 .h rfl c18.1 c18.2 rfl rfl trivial fun a S CL => h_move S CL hw le (subR rfl) rfl rfl rfl trivial fun a S CL => h_bin S CL hw le (subR rfl) rfl rfl rfl rfl rfl trivial fun a S CL => ?_
   obtain ⟨c19, h3⟩ := chk_of h2; clear h2
   refine h_iaddr S CL hw le (subR rfl) rfl rfl underlying100 T24 c19.1 c19.2 (mul1 _ _) rfl rfl trivial fun a S CL => h_loadi S CL hw le (subR rfl) (i := (wr .i64 (y93 + 5))) rfl .h2 T24 .h rfl c19.1 c19.2 rfl rfl trivial fun a S CL => h_bin S CL hw le (subR rfl) rfl rfl rfl rfl rfl trivial fun a S CL => h_move S CL hw le (subR rfl) rfl rfl rfl trivial fun a S CL => h_bin S CL hw le (subR rfl) rfl rfl rfl rfl rfl trivial fun a S CL => ?_
   obtain ⟨c20, h4⟩ := chk_of h3; clear h3
   refine h_iaddr S CL hw le (subR rfl) rfl rfl underlying100 T24 c20.1 c20.2 (mul1 _ _) rfl rfl trivial fun a S CL => h_loadi S CL hw le (subR rfl) (i := (wr .i64 (y93 + 10))) rfl .h2 T24 .h rfl c20.1 c20.2 rfl rfl trivial fun a S CL => h_bin S CL hw le (subR rfl) rfl rfl rfl rfl rfl trivial fun a S CL => h_move S CL hw le (subR rfl) rfl rfl rfl trivial fun a S CL => h_bin S CL hw le (subR rfl) rfl rfl rfl rfl rfl trivial fun a S CL => ?_
   obtain ⟨c21, h5⟩ := chk_of h4; clear h4
   refine h_iaddr S CL hw le (subR rfl) rfl rfl underlying100 T24 c21.1 c21.2 (mul1 _ _) rfl rfl trivial fun a S CL => h_loadi S CL hw le (subR rfl) (i := (wr .i64 (y93 + 15))) rfl .h2 T24 .h rfl c21.1 c21.2 rfl rfl trivial fun a S CL => h_bin S CL hw le (subR rfl) rfl rfl rfl rfl rfl trivial fun a S CL => h_move S CL hw le (subR rfl) rfl rfl rfl trivial fun a S CL => h_bin S CL hw le (subR rfl) rfl rfl rfl rfl rfl trivial fun a S CL => ?_
   obtain ⟨c22, h6⟩ := chk_of h5; clear h5
   refine h_iaddr S CL hw le (subR rfl) rfl rfl underlying100 T24 c22.1 c22.2 (mul1 _ _) rfl rfl trivial fun a S CL => h_loadi S CL hw le (subR rfl) (i := (wr .i64 (y93 + 20))) rfl .h2 T24 .h rfl c22.1 c22.2 rfl rfl trivial fun a S CL => h_bin S CL hw le (subR rfl) rfl rfl rfl rfl rfl trivial fun a S CL => ?_
   obtain ⟨c23, h7⟩ := chk_of h6; clear h6
   refine h_iaddr S CL hw le (subR rfl) rfl rfl underlying128 T24 c23.1 c23.2 (mul1 _ _) rfl rfl trivial fun a S CL => h_run' S rfl trivial (s_storei S (i := y93) rfl rfl .h T24 .h rfl c23.1 c23.2 fun w S => ?_)
   refine h_back ⟨fun h => (nomatch h), ?_⟩
   refine h_done ?_; clear CL hw le
   refine x_blockN (x_thenN (c_region' (s_bin S rfl rfl rfl rfl fun a S => s_move S rfl rfl fun a S => c_end' (x_thenN ?_))))
   exact ⟨_, (wr .i64 (y93 + 1)), g209, g210, g211, (y94.set (Int.toNat y93) (bits .xor .u64 (bits .xor .u64 (bits .xor .u64 (bits .xor .u64 (rd x1 y93) (rd x1 (wr .i64 (y93 + 5)))) (rd x1 (wr .i64 (y93 + 10)))) (rd x1 (wr .i64 (y93 + 15)))) (rd x1 (wr .i64 (y93 + 20))))), (S.sb rfl (.c0 (.c0 (.c0 (.c0 (.c0 (.c0 .n))))))), h7⟩
  ·refine c_condF S rfl c17 (wp_exit (x_thenX (x_thenX (x_blockX (x_thenN ?_)))))
   exact j1 _ g209 g210 g211 y94 a w (S.sb rfl (.c0 (.c0 (.c0 (.c0 (.c0 (.c0 .n))))))) h1
abbrev keccak_Turn.Ty : Type := (List Int) → Option ((List Int))
def keccak_Turn.Ctr (s : keccak_Turn.Ty) : Prop := ∀ (x1 : List Int) (r : (List Int)), CtG (C := Unit) Tryd.prog Glob 85 (s x1 = some r) [] [(.agg [.ints .u64 x1 25])] (fun _ => (.agg [.ints .u64 r 25])) fun _ => []
def keccak_Turn.j1 (y1 : List Int) : Option ((List Int)) := some y1
def keccak_Turn.b1 (k : Nat) (rec1 : Int → (List Int) → Option ((List Int))) (y4 : Int) (y5 : List Int) : Option ((List Int)) := if (decide (y4 < 24)) = true then (if (0 : Int) ≤ y4 ∧ y4 < 24 then ((keccak_round.f k y5).bind fun t1 => (rec1 (wr .i64 (y4 + 1)) (t1.set (Int.toNat 0) (bits .xor .u64 (rd t1 0) (rd tbl_keccak_constants y4))))) else none) else (keccak_Turn.j1 y5)
def keccak_Turn.l1 (k : Nat) : Nat → Int → (List Int) → Option ((List Int))
  | 0, _, _ => none
  | q + 1, y4, y5 => keccak_Turn.b1 k (keccak_Turn.l1 k q) y4 y5
def keccak_Turn.f (k : Nat) (x1 : List Int) : Option ((List Int)) := keccak_Turn.l1 k k 0 x1
theorem keccak_Turn.ok (k : Nat) : keccak_Turn.Ctr (keccak_Turn.f k) := by
 intro x1 r h0 mi w0 G ok hm
 delta keccak_Turn.f at h0
 refine c_enterZ (n := 18) ok hm func85 rfl rfl rfl fun b0 hb a S => ?_
 replace S := S.addfro (g := 2) 131 G.2.2
 replace S := S.addfro (g := 1) 131 G.2.1
 replace S := S.addfro (g := 0) 118 G.1
 refine c_region (s_box S rfl rfl rfl fun g1 a w S => s_alloc S Z100 rfl ⟨rfl, trivial⟩ rfl fun g2 a w S => c_end (wp_seq_k fun K1 hK1 => ?_))
 have j1 : ∀ m g9 g10 y1 a w, St 18 m b0 [(2, (.p g9)), (1, (.p g10))] [Res.cells g9 100 [.ints .u64 z25 25], Res.cells g10 100 [.ints .u64 y1 25], Res.fro 0 118 [.ints .u64 tbl_keccak_constants 24], Res.fro 1 131 [.ints .i64 tbl_keccak_places 24], Res.fro 2 131 [.ints .i64 tbl_keccak_turns 24]] a w → keccak_Turn.j1 y1 = some r → K1 a w := by
  intro m g9 g10 y1 a w S h0
  delta keccak_Turn.j1 at h0
  refine hK1 a w (c_region (s_loada S rfl .h1 T100 (s' := [.ints .u64 y1 25]) rfl rfl fun a S => s_store S rfl rfl rfl (s' := [.ints .u64 y1 25]) .h T100 rfl rfl fun w S => c_end (wp_ret ?_)))
  obtain rfl := Option.some.inj h0
  exact b_ret1 (d := (.agg [.ints .u64 y1 25])) S rfl (resD_cell rfl .h T100 rfl rfl) (S.rt hb)
 refine c_region (s_loadaF S rfl .h2 T118 (s' := [.ints .u64 tbl_keccak_constants 24]) rfl rfl fun a S => s_move S rfl rfl fun a S => c_end (wp_block ?_))
 refine c_loop (fun q1 a w => ∃ m y4 g15 g16 y5, St 18 m b0 [(6, (.i y4)), (5, (.agg [.ints .u64 tbl_keccak_constants 24])), (2, (.p g15)), (1, (.p g16))] [Res.cells g15 100 [.ints .u64 z25 25], Res.cells g16 100 [.ints .u64 y5 25], Res.fro 0 118 [.ints .u64 tbl_keccak_constants 24], Res.fro 1 131 [.ints .i64 tbl_keccak_places 24], Res.fro 2 131 [.ints .i64 tbl_keccak_turns 24]] a w ∧ keccak_Turn.l1 k q1 y4 y5 = some r) ?_ ?_ (k := k) ⟨_, 0, g2, g1, x1, (S.sb rfl (.c0 (.c0 (.c0 (.c0 (.c0 .n)))))), h0⟩
 ·rintro a w ⟨m, y4, g15, g16, y5, S, h0⟩
  exact (nomatch (show (none : Option ((List Int))) = some r from h0))
 ·clear S h0
  rintro q1 a w ⟨m, y4, g15, g16, y5, S, h0⟩
  replace h0 : keccak_Turn.b1 k (keccak_Turn.l1 k q1) y4 y5 = some r := h0
  delta keccak_Turn.b1 at h0
  refine c_region (s_bin S rfl rfl rfl rfl fun a S => c_end (wp_seq ?_))
  rcases ite_of h0 with ⟨c1, h1⟩ | ⟨c1, h1⟩
  ·refine c_condT S rfl c1 (wp_skip (x_thenN (wp_seq (wp_block (c_region ?_)))))
   obtain ⟨c2, h2⟩ := chk_of h1; clear h1
   refine s_index S rfl rfl underlying118 T24 c2.1 c2.2 rfl fun a S => s_assign S rfl rfl fun a S => c_end (c_region (s_loada S rfl .h1 T100 (s' := [.ints .u64 y5 25]) rfl rfl fun a S => bindX h2 fun t1 et1 h3 => s_callP S _ N92 rfl rfl (keccak_round.ok k y5 t1 et1 _ _ (G.mono (S.leB hb))) fun ch1 m le1 a w S => s_store S rfl rfl rfl (s' := [.ints .u64 t1 25]) .h1 T100 rfl rfl fun w S => c_end (c_region' (s_iaddr S (o' := 0) rfl rfl underlying100 T24 (by decide) (by decide) rfl rfl fun a S => s_loadi S (i := 0) rfl .h1 T24 .h rfl (by decide) (by decide) rfl fun a S => s_move S rfl rfl fun a S => s_bin S rfl rfl rfl rfl fun a S => s_iaddr S (o' := 0) rfl rfl underlying100 T24 (by decide) (by decide) rfl rfl fun a S => s_storei S (i := 0) rfl rfl .h1 T24 .h rfl (by decide) (by decide) fun w S => c_end' (x_blockN (x_thenN (c_region' (s_bin S rfl rfl rfl rfl fun a S => s_move S rfl rfl fun a S => c_end' (x_thenN ?_)))))))))
   exact ⟨_, (wr .i64 (y4 + 1)), g15, g16, (t1.set (Int.toNat 0) (bits .xor .u64 (rd t1 0) (rd tbl_keccak_constants y4))), (S.sb rfl (.c0 (.c0 (.c0 (.c0 (.c0 .n)))))), h3⟩
  ·refine c_condF S rfl c1 (wp_exit (x_thenX (x_thenX (x_blockX (x_thenN ?_)))))
   exact j1 _ g15 g16 y5 a w (S.sb rfl (.c0 (.c0 (.c0 (.c0 (.c0 .n)))))) h1
abbrev keccak_absorb.Ty : Type := (List Int) → (List Int) → Option ((List Int))
def keccak_absorb.Ctr (s : keccak_absorb.Ty) : Prop := ∀ (x1 : List Int) (x2 : List Int) (ch_1_0 : Option Addr) (ch_1_1 : Nat) (r : (List Int)), CtG (C := Unit) Tryd.prog Glob 69 (s x1 x2 = some r) [] [(.agg [.ints .u64 x1 25]), (.q yb ch_1_0 ch_1_1 x2)] (fun _ => (.agg [.ints .u64 r 25])) fun _ => []
def keccak_absorb.j1 (k : Nat) (y1 : List Int) : Option ((List Int)) := (keccak_Turn.f k y1).bind fun t1 => (some t1)
def keccak_absorb.b1 (k : Nat) (x2 : List Int) (rec1 : Int → (List Int) → Option ((List Int))) (y4 : Int) (y5 : List Int) : Option ((List Int)) := if (decide (y4 < ((x2).length : Int))) = true then (if (0 : Int) ≤ y4 ∧ y4 < ((x2).length : Int) then (if (0 : Int) ≤ (wr .i64 (Int.tdiv y4 8)) ∧ (wr .i64 (Int.tdiv y4 8)) < 25 then (if (0 : Int) ≤ (wr .i64 ((Int.tmod y4 8) * 8)) then (rec1 (wr .i64 (y4 + 1)) (y5.set (Int.toNat (wr .i64 (Int.tdiv y4 8))) (bits .xor .u64 (rd y5 (wr .i64 (Int.tdiv y4 8))) (shl .u64 (wr .u64 (rd x2 y4)) (min (Int.toNat (wr .i64 ((Int.tmod y4 8) * 8))) 64))))) else none) else none) else none) else (keccak_absorb.j1 k y5)
def keccak_absorb.l1 (k : Nat) (x2 : List Int) : Nat → Int → (List Int) → Option ((List Int))
  | 0, _, _ => none
  | q + 1, y4, y5 => keccak_absorb.b1 k x2 (keccak_absorb.l1 k x2 q) y4 y5
def keccak_absorb.f (k : Nat) (x1 : List Int) (x2 : List Int) : Option ((List Int)) := keccak_absorb.l1 k x2 k 0 x1
theorem keccak_absorb.ok (k : Nat) : keccak_absorb.Ctr (keccak_absorb.f k) := by
 intro x1 x2 ch_1_0 ch_1_1 r h0 mi w0 G ok hm
 delta keccak_absorb.f at h0
 refine c_enterZ (n := 29) ok hm func69 rfl rfl rfl fun b0 hb a S => c_region (s_box S rfl rfl rfl fun g1 a w S => s_alloc S Z100 rfl ⟨rfl, trivial⟩ rfl fun g2 a w S => c_end (wp_seq_k fun K1 hK1 => ?_))
 have j1 : ∀ m g9 g10 y1 a w, St 29 m b0 [(4, (.p g9)), (2, (.p g10))] [Res.cells g9 100 [.ints .u64 z25 25], Res.cells g10 100 [.ints .u64 y1 25]] a w → keccak_absorb.j1 k y1 = some r → K1 a w := by
  intro m g9 g10 y1 a w S h0
  delta keccak_absorb.j1 at h0
  refine hK1 a w (c_region (s_loada S rfl .h1 T100 (s' := [.ints .u64 y1 25]) rfl rfl fun a S => bindX h0 fun t1 et1 h1 => s_callP S _ N85 rfl rfl (keccak_Turn.ok k y1 t1 et1 _ _ (G.mono (S.leB hb))) fun ch1 m le1 a w S => s_store S rfl rfl rfl (s' := [.ints .u64 t1 25]) .h T100 rfl rfl fun w S => c_end (wp_ret ?_)))
  obtain rfl := Option.some.inj h1
  exact b_ret1 (d := (.agg [.ints .u64 t1 25])) S rfl (resD_cell rfl .h T100 rfl rfl) (S.rt hb)
 refine c_region (s_move S rfl rfl fun a S => s_lenS S rfl underlying37 rfl fun a S => s_move S rfl rfl fun a S => c_end (wp_block ?_))
 refine c_loop (fun q1 a w => ∃ m y4 g15 g16 y5, St 29 m b0 [(9, (.i y4)), (8, (.i ((x2).length : Int))), (7, (.q yb ch_1_0 ch_1_1 x2)), (4, (.p g15)), (2, (.p g16))] [Res.cells g15 100 [.ints .u64 z25 25], Res.cells g16 100 [.ints .u64 y5 25]] a w ∧ keccak_absorb.l1 k x2 q1 y4 y5 = some r) ?_ ?_ (k := k) ⟨_, 0, g2, g1, x1, (S.sb rfl (.c0 (.c0 .n))), h0⟩
 ·rintro a w ⟨m, y4, g15, g16, y5, S, h0⟩
  exact (nomatch (show (none : Option ((List Int))) = some r from h0))
 ·clear S h0
  rintro q1 a w ⟨m, y4, g15, g16, y5, S, h0⟩
  replace h0 : keccak_absorb.b1 k x2 (keccak_absorb.l1 k x2 q1) y4 y5 = some r := h0
  delta keccak_absorb.b1 at h0
  refine c_region (s_bin S rfl rfl rfl rfl fun a S => c_end (wp_seq ?_))
  rcases ite_of h0 with ⟨c1, h1⟩ | ⟨c1, h1⟩
  ·refine c_condT S rfl c1 (wp_skip (x_thenN (wp_seq (wp_block (c_region (s_move S rfl rfl fun a S => ?_))))))
   obtain ⟨c2, h2⟩ := chk_of h1; clear h1
   refine s_iaddrS S rfl rfl rfl underlying37 T5 c2.1 c2.2 rfl fun p1 a S => s_ld1 S (v := (.int .u8 (rd x2 y4))) rfl T5 (fun _ => rfl) rfl fun a S => s_assign S rfl rfl fun a S => s_assign S rfl rfl fun a S => c_end (c_heldS S (.take 0 (.take 1 (.take 2 (.take 3 (.take 4 (.take 5 (.take 6 (.take 7 (.take 8 (.take 9 (.take 10 (.take 11 (.alts (.run 12 false .done .nil)))))))))))))) 12 [Res.cells g15 100 [.ints .u64 z25 25], Res.cells g16 100 [.ints .u64 y5 25]] (.c0 (.c0 .n)) ⟨Res.stay_cells, Res.stay_cells, trivial⟩ [(6, (.v (.int .u8 (rd x2 y4)))), (5, (.i y4)), (2, (.p g16))] (subR rfl) (by kernel_rfl) (by kernel_rfl) fun w S CL hw le => ?_)
   refine h_move S CL hw le (subR rfl) rfl rfl rfl trivial fun a S CL => h_quo S CL hw le (subR rfl) rfl rfl (by decide) rfl rfl trivial fun a S CL => ?_
   obtain ⟨c3, h3⟩ := chk_of h2; clear h2
   refine h_iaddr S CL hw le (subR rfl) rfl rfl underlying100 T24 c3.1 c3.2 (mul1 _ _) rfl rfl trivial fun a S CL => h_loadi S CL hw le (subR rfl) (i := (wr .i64 (Int.tdiv y4 8))) rfl .h1 T24 .h rfl c3.1 c3.2 rfl rfl trivial fun a S CL => h_move S CL hw le (subR rfl) rfl rfl rfl trivial fun a S CL => h_conv S CL hw le (subR rfl) rfl rfl underlying24 rfl rfl trivial fun a S CL => h_move S CL hw le (subR rfl) rfl rfl rfl trivial fun a S CL => h_rem S CL hw le (subR rfl) rfl rfl (by decide) rfl rfl trivial fun a S CL => h_bin S CL hw le (subR rfl) rfl rfl rfl rfl rfl trivial fun a S CL => ?_
   obtain ⟨c4, h4⟩ := chk_of h3; clear h3
   refine h_shl S CL hw le (subR rfl) (e := (min (Int.toNat (wr .i64 ((Int.tmod y4 8) * 8))) 64)) rfl rfl c4 rfl rfl rfl trivial fun a S CL => h_bin S CL hw le (subR rfl) rfl rfl rfl rfl rfl trivial fun a S CL => h_iaddr S CL hw le (subR rfl) rfl rfl underlying100 T24 c3.1 c3.2 (mul1 _ _) rfl rfl trivial fun a S CL => h_run' S rfl trivial (s_storei S (i := (wr .i64 (Int.tdiv y4 8))) rfl rfl .h1 T24 .h rfl c3.1 c3.2 fun w S => ?_)
   refine h_back ⟨fun h => (nomatch h), ?_⟩
   refine h_done ?_; clear CL hw le
   refine x_blockN (x_thenN (c_region' (s_bin S rfl rfl rfl rfl fun a S => s_move S rfl rfl fun a S => c_end' (x_thenN ?_))))
   exact ⟨_, (wr .i64 (y4 + 1)), g15, g16, (y5.set (Int.toNat (wr .i64 (Int.tdiv y4 8))) (bits .xor .u64 (rd y5 (wr .i64 (Int.tdiv y4 8))) (shl .u64 (wr .u64 (rd x2 y4)) (min (Int.toNat (wr .i64 ((Int.tmod y4 8) * 8))) 64)))), (S.sb rfl (.c0 (.c0 .n))), h4⟩
  ·refine c_condF S rfl c1 (wp_exit (x_thenX (x_thenX (x_blockX (x_thenN ?_)))))
   exact j1 _ g15 g16 y5 a w (S.sb rfl (.c0 (.c0 .n))) h1
abbrev keccak_Sum.Ty : Type := (List Int) → Option ((List Int))
def keccak_Sum.Ctr (s : keccak_Sum.Ty) : Prop := ∀ (x1 : List Int) (ch_0_0 : Option Addr) (ch_0_1 : Nat) (r : (List Int)), CtG (C := Unit) Tryd.prog Glob 42 (s x1 = some r) [] [(.q yb ch_0_0 ch_0_1 x1)] (fun _ => (.a32 r)) fun _ => []
def keccak_Sum.j2 (y7 : List Int) : Option ((List Int)) := some y7
def keccak_Sum.b1 (t1 : (List Int)) (rec1 : Int → (List Int) → Option ((List Int))) (y10 : Int) (y11 : List Int) : Option ((List Int)) := if (decide (y10 < 32)) = true then (if (0 : Int) ≤ (wr .i64 (Int.tdiv y10 8)) ∧ (wr .i64 (Int.tdiv y10 8)) < 25 then (if (0 : Int) ≤ (wr .i64 ((Int.tmod y10 8) * 8)) then (if (0 : Int) ≤ y10 ∧ y10 < 32 then (rec1 (wr .i64 (y10 + 1)) (y11.set (Int.toNat y10) (wr .u8 (shr (rd t1 (wr .i64 (Int.tdiv y10 8))) (min (Int.toNat (wr .i64 ((Int.tmod y10 8) * 8))) 64))))) else none) else none) else none) else (keccak_Sum.j2 y11)
def keccak_Sum.l1 (t1 : (List Int)) : Nat → Int → (List Int) → Option ((List Int))
  | 0, _, _ => none
  | q + 1, y10, y11 => keccak_Sum.b1 t1 (keccak_Sum.l1 t1 q) y10 y11
def keccak_Sum.j1 (k : Nat) (y1 : List Int) (y2 : List Int) : Option ((List Int)) := if (0 : Int) ≤ ((min (y1).length 136 : Nat) : Int) ∧ ((min (y1).length 136 : Nat) : Int) < 136 then ((keccak_absorb.f k y2 (((((cpy (List.replicate 136 0) 0 y1 (min (y1).length 136)).set (Int.toNat ((min (y1).length 136 : Nat) : Int)) 1).set (Int.toNat 135) (bits .or .u8 (rd ((cpy (List.replicate 136 0) 0 y1 (min (y1).length 136)).set (Int.toNat ((min (y1).length 136 : Nat) : Int)) 1) 135) 128)).drop 0).take 136)).bind fun t1 => (keccak_Sum.l1 t1 k 0 [0, 0, 0, 0, 0, 0, 0, 0, 0, 0, 0, 0, 0, 0, 0, 0, 0, 0, 0, 0, 0, 0, 0, 0, 0, 0, 0, 0, 0, 0, 0, 0])) else none
def keccak_Sum.b2 (k : Nat) (rec2 : (List Int) → (List Int) → Option ((List Int))) (y14 : List Int) (y15 : List Int) : Option ((List Int)) := if (decide (136 ≤ ((y14).length : Int))) = true then (if (0 : Int) ≤ 0 ∧ (0 : Int) ≤ 136 ∧ 136 ≤ ((y14).length : Int) then ((keccak_absorb.f k y15 (y14.take (Int.toNat 136))).bind fun t4 => (if (0 : Int) ≤ 136 ∧ (136 : Int) ≤ ((y14).length : Int) ∧ ((y14).length : Int) ≤ ((y14).length : Int) then (rec2 (y14.drop (Int.toNat 136)) t4) else none)) else none) else (keccak_Sum.j1 k y14 y15)
def keccak_Sum.l2 (k : Nat) : Nat → (List Int) → (List Int) → Option ((List Int))
  | 0, _, _ => none
  | q + 1, y14, y15 => keccak_Sum.b2 k (keccak_Sum.l2 k q) y14 y15
def keccak_Sum.f (k : Nat) (x1 : List Int) : Option ((List Int)) := keccak_Sum.l2 k k x1 [0, 0, 0, 0, 0, 0, 0, 0, 0, 0, 0, 0, 0, 0, 0, 0, 0, 0, 0, 0, 0, 0, 0, 0, 0]
theorem keccak_Sum.ok (k : Nat) : keccak_Sum.Ctr (keccak_Sum.f k) := by
 intro x1 ch_0_0 ch_0_1 r h0 mi w0 G ok hm
 delta keccak_Sum.f at h0
 refine c_enterZ (n := 45) ok hm func42 rfl rfl rfl fun b0 hb a S => c_region (s_alloc S Z23 rfl ⟨rfl, trivial⟩ rfl fun g1 a w S => c_end (c_region (s_alloc S Z100 rfl ⟨rfl, trivial⟩ rfl fun g2 a w S => c_end (wp_seq_k fun K1 hK1 => ?_))))
 have j1 : ∀ m g9 g10 A1 cp1 y1 y2 a w, St 45 m b0 [(3, (.p g9)), (2, (.p g10)), (0, (.q yb A1 cp1 y1))] [Res.cells g9 100 [.ints .u64 y2 25], Res.cells g10 23 [.b32 z32]] a w → keccak_Sum.j1 k y1 y2 = some r → K1 a w := by
  intro m g9 g10 A1 cp1 y1 y2 a w S h0
  delta keccak_Sum.j1 at h0
  refine hK1 a w (c_region (s_alloc S Z102 rfl ⟨rfl, trivial⟩ rfl fun g11 a w S => c_end (c_region (s_sliceA S (i := 0) (j := 136) (o' := 0) (len := 136) (cap := 136) rfl underlying102 T5 (.inl ⟨rfl, rfl⟩) (.inl ⟨rfl, rfl⟩) (by decide) rfl rfl rfl rfl fun a S => s_move S rfl rfl fun a S => s_copyA S (N := min (y1).length 136) (lo := 0) rfl .h rfl rfl (RdS.srcI (S.get 18 (.q yb A1 cp1 y1) rfl).2.2.2.1 S.frz) rfl .h (.inl rfl) (by decide) underlying37 T5 rfl fun a w S => s_assign S rfl rfl fun a S => c_end (c_region (s_move S rfl rfl fun a S => ?_))))))
  obtain ⟨c1, h1⟩ := chk_of h0; clear h0
  refine s_iaddr S rfl rfl underlying102 T5 c1.1 c1.2 (mul1 _ _) rfl fun a S => s_storei S (i := ((min (y1).length 136 : Nat) : Int)) rfl rfl .h T5 .h rfl c1.1 c1.2 fun w S => c_end (c_region (s_iaddr S (o' := 135) rfl rfl underlying102 T5 (by decide) (by decide) rfl rfl fun a S => s_loadi S (i := 135) rfl .h T5 .h rfl (by decide) (by decide) rfl fun a S => s_bin S rfl rfl rfl rfl fun a S => s_iaddr S (o' := 135) rfl rfl underlying102 T5 (by decide) (by decide) rfl rfl fun a S => s_storei S (i := 135) rfl rfl .h T5 .h rfl (by decide) (by decide) fun w S => c_end ?_))
  replace S := S.freeze .h
  obtain ⟨m, le1, S⟩ := S
  refine wp_seq (c_heldS S (.take 0 (.take 1 (.alts (.run 2 true (.alts (.run 3 false .done .nil)) .nil)))) 3 [Res.fro g11 102 [.ints .u8 (((cpy (List.replicate 136 0) 0 y1 (min (y1).length 136)).set (Int.toNat ((min (y1).length 136 : Nat) : Int)) 1).set (Int.toNat 135) (bits .or .u8 (rd ((cpy (List.replicate 136 0) 0 y1 (min (y1).length 136)).set (Int.toNat ((min (y1).length 136 : Nat) : Int)) 1) 135) 128)) 136], Res.cells g9 100 [.ints .u64 y2 25], Res.cells g10 23 [.b32 z32]] (.c0 (.c0 (.c0 .n))) ⟨Res.stay_fro, Res.stay_cells, Res.stay_cells, trivial⟩ [(4, (.p g11)), (3, (.p g9))] (subR rfl) (by kernel_rfl) (by kernel_rfl) ?_); clear S; intro w S CL hw le
  refine h_loada S CL hw le (subR rfl) rfl .h1 T100 (s' := [.ints .u64 y2 25]) rfl rfl rfl trivial fun a S CL => h_sliceA S CL hw le (subR rfl) (i := 0) (j := 136) (o' := 0) (len := 136) (cap := 136) rfl underlying102 T5 (.inl ⟨rfl, rfl⟩) (.inl ⟨rfl, rfl⟩) (by decide) rfl rfl rfl rfl rfl trivial fun a S CL => h_run' S rfl trivial ?_
  replace S := (S.slup' (u := 27) (lo := 0) (c := 136) (ys := ((((cpy (List.replicate 136 0) 0 y1 (min (y1).length 136)).set (Int.toNat ((min (y1).length 136 : Nat) : Int)) 1).set (Int.toNat 135) (bits .or .u8 (rd ((cpy (List.replicate 136 0) 0 y1 (min (y1).length 136)).set (Int.toNat ((min (y1).length 136 : Nat) : Int)) 1) 135) 128)).drop 0).take 136) rfl (Pull.mem .h).1 .h (.inl rfl) (by decide) (by decide) rfl).2
  replace CL := CL.drop (lq' := [(26, (.agg [.ints .u64 y2 25])), (4, (.p g11)), (3, (.p g9))]) (subR rfl)
  refine bindX h1 fun t1 et1 h2 => s_callP S _ N69 rfl rfl (keccak_absorb.ok k y2 (((((cpy (List.replicate 136 0) 0 y1 (min (y1).length 136)).set (Int.toNat ((min (y1).length 136 : Nat) : Int)) 1).set (Int.toNat 135) (bits .or .u8 (rd ((cpy (List.replicate 136 0) 0 y1 (min (y1).length 136)).set (Int.toNat ((min (y1).length 136 : Nat) : Int)) 1) 135) 128)).drop 0).take 136) (ad g11) 136 t1 et1 _ _ (G.mono (S.leB hb))) fun ch1 m le1 a w S => ?_
  replace le := le.trans le1
  replace hw := CL.again hw S (.c0 (.c0 (.c0 .n))) le
  refine h_back ⟨fun _ => hw, ?_⟩
  refine h_run' S rfl trivial (s_store S rfl rfl rfl (s' := [.ints .u64 t1 25]) .h1 T100 rfl rfl fun w S => ?_)
  refine h_back ⟨fun h => (nomatch h), ?_⟩
  refine h_done ?_; clear CL hw le
  refine x_thenN (c_region (s_alloc S Z23 rfl ⟨rfl, trivial⟩ rfl fun g12 a w S => c_end (wp_seq_k fun K2 hK2 => ?_)))
  have j2 : ∀ m g22 g23 y7 a w, St 45 m b0 [(6, (.p g22)), (2, (.p g23))] [Res.cells g22 23 [.b32 y7], Res.cells g23 23 [.b32 z32]] a w → keccak_Sum.j2 y7 = some r → K2 a w := by
   intro m g22 g23 y7 a w S h0
   delta keccak_Sum.j2 at h0
   refine hK2 a w (c_region (s_loada S rfl .h T23 (s' := [.b32 y7]) rfl rfl fun a S => s_store S rfl rfl rfl (s' := [.b32 y7]) .h1 T23 rfl rfl fun w S => c_end (wp_ret ?_)))
   obtain rfl := Option.some.inj h0
   exact b_ret1 (d := (.a32 y7)) S rfl (resD_cell rfl .h1 T23 rfl rfl) (S.rt hb)
  refine c_region (s_move S rfl rfl fun a S => c_end (wp_block ?_))
  refine c_loop (fun q1 a w => ∃ m y10 g30 g31 g32 y11, St 45 m b0 [(29, (.i y10)), (6, (.p g30)), (3, (.p g31)), (2, (.p g32))] [Res.cells g30 23 [.b32 y11], Res.cells g31 100 [.ints .u64 t1 25], Res.cells g32 23 [.b32 z32]] a w ∧ keccak_Sum.l1 t1 q1 y10 y11 = some r) ?_ ?_ (k := k) ⟨_, 0, g12, g9, g10, z32, (S.sb rfl (.c0 (.c1 (.c1 .n)))), h2⟩
  ·rintro a w ⟨m, y10, g30, g31, g32, y11, S, h0⟩
   exact (nomatch (show (none : Option ((List Int))) = some r from h0))
  ·clear S h2
   rintro q1 a w ⟨m, y10, g30, g31, g32, y11, S, h0⟩
   replace h0 : keccak_Sum.b1 t1 (keccak_Sum.l1 t1 q1) y10 y11 = some r := h0
   delta keccak_Sum.b1 at h0
   refine c_region (s_bin S rfl rfl rfl rfl fun a S => c_end (wp_seq ?_))
   rcases ite_of h0 with ⟨c2, h1⟩ | ⟨c2, h1⟩
   ·refine c_condT S rfl c2 (wp_skip (x_thenN (wp_seq (wp_block (c_region (s_move S rfl rfl fun a S => s_assign S rfl rfl fun a S => c_end (c_region' (s_move S rfl rfl fun a S => s_move S rfl rfl fun a S => s_quo S rfl rfl (by decide) rfl fun a S => ?_))))))))
    obtain ⟨c3, h2⟩ := chk_of h1; clear h1
    refine s_iaddr S rfl rfl underlying100 T24 c3.1 c3.2 (mul1 _ _) rfl fun a S => s_loadi S (i := (wr .i64 (Int.tdiv y10 8))) rfl .h1 T24 .h rfl c3.1 c3.2 rfl fun a S => s_move S rfl rfl fun a S => s_rem S rfl rfl (by decide) rfl fun a S => s_bin S rfl rfl rfl rfl fun a S => ?_
    obtain ⟨c4, h3⟩ := chk_of h2; clear h2
    refine s_shr S (e := (min (Int.toNat (wr .i64 ((Int.tmod y10 8) * 8))) 64)) rfl rfl c4 rfl rfl fun a S => s_conv S rfl rfl underlying5 rfl fun a S => ?_
    obtain ⟨c5, h4⟩ := chk_of h3; clear h3
    refine s_iaddr S rfl rfl underlying23 T5 c5.1 c5.2 (mul1 _ _) rfl fun a S => s_storei S (i := y10) rfl rfl .h T5 .h rfl c5.1 c5.2 fun w S => c_end' (x_blockN (x_thenN (c_region' (s_bin S rfl rfl rfl rfl fun a S => s_move S rfl rfl fun a S => c_end' (x_thenN ?_)))))
    exact ⟨_, (wr .i64 (y10 + 1)), g30, g31, g32, (y11.set (Int.toNat y10) (wr .u8 (shr (rd t1 (wr .i64 (Int.tdiv y10 8))) (min (Int.toNat (wr .i64 ((Int.tmod y10 8) * 8))) 64)))), (S.sb rfl (.c0 (.c0 (.c0 .n)))), h4⟩
   ·refine c_condF S rfl c2 (wp_exit (x_thenX (x_thenX (x_blockX (x_thenN ?_)))))
    exact j2 _ g30 g32 y11 a w (S.sb rfl (.c0 (.c1 .n))) h1
 refine wp_block ?_
 refine c_loop (fun q2 a w => ∃ m g37 g38 A2 cp7 y14 y15, St 45 m b0 [(3, (.p g37)), (2, (.p g38)), (0, (.q yb A2 cp7 y14))] [Res.cells g37 100 [.ints .u64 y15 25], Res.cells g38 23 [.b32 z32]] a w ∧ keccak_Sum.l2 k q2 y14 y15 = some r) ?_ ?_ (k := k) ⟨_, g2, g1, ch_0_0, ch_0_1, x1, z25, (S.sb rfl (.c0 (.c0 .n))), h0⟩
 ·rintro a w ⟨m, g37, g38, A2, cp7, y14, y15, S, h0⟩
  exact (nomatch (show (none : Option ((List Int))) = some r from h0))
 ·clear S h0
  rintro q2 a w ⟨m, g37, g38, A2, cp7, y14, y15, S, h0⟩
  replace h0 : keccak_Sum.b2 k (keccak_Sum.l2 k q2) y14 y15 = some r := h0
  delta keccak_Sum.b2 at h0
  refine wp_seq (c_region (s_move S rfl rfl fun a S => s_lenS S rfl underlying37 rfl fun a S => s_bin S rfl rfl rfl rfl fun a S => c_end ?_))
  rcases ite_of h0 with ⟨c6, h1⟩ | ⟨c6, h1⟩
  ·refine c_condT S rfl c6 (wp_skip (x_thenN (wp_block ?_)))
   refine wp_seq (c_heldS S (.take 0 (.take 1 (.take 2 (.alts (.run 3 true (.alts (.run 4 false .done .nil)) .nil))))) 4 [Res.cells g37 100 [.ints .u64 y15 25], Res.cells g38 23 [.b32 z32]] (.c0 (.c0 .n)) ⟨Res.stay_cells, Res.stay_cells, trivial⟩ [(3, (.p g37)), (0, (.q yb A2 cp7 y14))] (subR rfl) (by kernel_rfl) (by kernel_rfl) ?_); clear S; intro w S CL hw le
   refine h_loada S CL hw le (subR rfl) rfl .h T100 (s' := [.ints .u64 y15 25]) rfl rfl rfl trivial fun a S CL => h_move S CL hw le (subR rfl) rfl rfl rfl trivial fun a S CL => ?_
   obtain ⟨c7, h2⟩ := chk_of h1; clear h1
   refine h_cutS S CL hw le (subR rfl) (i := 0) (j := 136) (ys := y14.take (Int.toNat 136)) rfl rfl underlying37 T5 (.inl ⟨rfl, rfl⟩) (.inr ⟨_, _, rfl, rfl⟩) c7 rfl (cut_pre rfl) rfl trivial fun A3 cp8 a S CL => h_run' S rfl trivial (bindX h2 fun t4 et4 h3 => s_callP S _ N69 rfl rfl (keccak_absorb.ok k y15 (y14.take (Int.toNat 136)) A3 cp8 t4 et4 _ _ (G.mono (S.leB hb))) fun ch2 m le1 a w S => ?_)
   replace le := le.trans le1
   replace hw := CL.again hw S (.c0 (.c0 .n)) le
   refine h_back ⟨fun _ => hw, ?_⟩
   refine h_run' S rfl trivial (s_store S rfl rfl rfl (s' := [.ints .u64 t4 25]) .h T100 rfl rfl fun w S => ?_)
   refine h_back ⟨fun h => (nomatch h), ?_⟩
   refine h_done ?_; clear CL hw le
   refine x_thenN (c_region' (s_move S rfl rfl fun a S => ?_))
   obtain ⟨c8, h4⟩ := chk_of h3; clear h3
   refine s_cutS S (i := 136) (j := ((y14).length : Int)) (ys := y14.drop (Int.toNat 136)) rfl rfl underlying37 T5 (.inr ⟨_, _, rfl, rfl⟩) (.inl ⟨rfl, rfl⟩) c8 rfl (cut_end rfl) fun A4 cp9 a S => s_assign S rfl rfl fun a S => c_end' (x_blockN (x_thenN ?_))
   exact ⟨_, g37, g38, A4, cp9, (y14.drop (Int.toNat 136)), t4, (S.sb rfl (.c0 (.c0 .n))), h4⟩
  ·refine c_condF S rfl c6 (wp_exit (x_thenX (x_thenX (x_blockX (x_thenN ?_)))))
   exact j1 _ g37 g38 A2 cp7 y14 y15 a w (S.sb rfl (.c0 (.c0 .n))) h1
abbrev block_hash.Ty : Type := (List (Bool × (List Int) × Int)) → Option ((List Int))
def block_hash.Ctr (s : block_hash.Ty) : Prop := ∀ (x1 : List (Bool × (List Int) × Int)) (ch_0_0 : Option Addr) (ch_0_1 : Nat) (r : (List Int)), CtG (C := Unit) Tryd.prog Glob 21 (s x1 = some r) [] [(.q Y54 ch_0_0 ch_0_1 x1)] (fun _ => (.a32 r)) fun _ => []
def block_hash.f (k : Nat) (x1 : List (Bool × (List Int) × Int)) : Option ((List Int)) := (rlp_Encode.f k x1).bind fun t1 => (if (t1.2 != 0) = true then (some [0, 0, 0, 0, 0, 0, 0, 0, 0, 0, 0, 0, 0, 0, 0, 0, 0, 0, 0, 0, 0, 0, 0, 0, 0, 0, 0, 0, 0, 0, 0, 0]) else ((keccak_Sum.f k t1.1).bind fun t2 => (some t2)))
theorem block_hash.ok (k : Nat) : block_hash.Ctr (block_hash.f k) := by
 intro x1 ch_0_0 ch_0_1 r h0 mi w0 G ok hm
 delta block_hash.f at h0
 refine c_enterZ (n := 15) ok hm func21 rfl rfl rfl fun b0 hb a S => c_region (s_alloc S Z23 rfl ⟨rfl, trivial⟩ rfl fun g1 a w S => c_end (c_region (s_move S rfl rfl fun a S => bindX h0 fun t1 et1 h1 => s_callP S _ N41 rfl rfl (rlp_Encode.ok k x1 ch_0_0 ch_0_1 t1 et1 _ _) fun ch1 m le1 a w S => s_move S rfl rfl fun a S => s_extract S rfl rfl rfl rfl fun a S => s_extract S rfl rfl rfl rfl fun a S => s_assign S rfl rfl fun a S => s_assign S rfl rfl fun a S => c_end (wp_seq (c_region (s_move S rfl rfl fun a S => s_bin S rfl rfl rfl rfl fun a S => c_end ?_))))))
 rcases ite_of h1 with ⟨c1, h2⟩ | ⟨c1, h2⟩
 ·refine c_condT S rfl c1 (c_region (s_build S (ds := []) (dv := (.a32 z32)) rfl (fun _ => by kernel_rfl) ⟨rfl, trivial⟩ rfl fun a S => s_store S rfl rfl rfl (s' := [.b32 z32]) .h T23 rfl rfl fun w S => c_end (wp_ret (x_thenR ?_))))
  obtain rfl := Option.some.inj h2
  exact b_ret1 (d := (.a32 z32)) S rfl (resD_cell rfl .h T23 rfl rfl) (S.rt hb)
 ·refine c_condF S rfl c1 (wp_skip (x_thenN (c_region (s_move S rfl rfl fun a S => bindX h2 fun t2 et2 h3 => s_callP S _ N42 rfl rfl (keccak_Sum.ok k t1.1 ch1.1 ch1.2 t2 et2 _ _ (G.mono (S.leB hb))) fun ch2 m le1 a w S => s_store S rfl rfl rfl (s' := [.b32 t2]) .h T23 rfl rfl fun w S => c_end (wp_ret ?_)))))
  obtain rfl := Option.some.inj h3
  exact b_ret1 (d := (.a32 t2)) S rfl (resD_cell rfl .h T23 rfl rfl) (S.rt hb)
abbrev block_Hash.Ty : Type := L30 → Option ((List Int))
def block_Hash.Ctr (s : block_Hash.Ty) : Prop := ∀ (x1 : L30) (r : (List Int)), CtG (C := Unit) Tryd.prog Glob 7 (s x1 = some r) [] [(.agg [.b32 x1.1, .w x1.2.1, .w x1.2.2.1, .w x1.2.2.2.1, .w x1.2.2.2.2.1, .w4 x1.2.2.2.2.2.1, .b20 x1.2.2.2.2.2.2.1, .w4 x1.2.2.2.2.2.2.2.1, .b32 x1.2.2.2.2.2.2.2.2.1, .b32 x1.2.2.2.2.2.2.2.2.2])] (fun _ => (.a32 r)) fun _ => []
def block_Hash.f (k : Nat) (x1 : L30) : Option ((List Int)) := (block_item.f (((x1.1).drop 0).take 32)).bind fun t1 => ((block_count.f k x1.2.1).bind fun t2 => ((block_count.f k x1.2.2.1).bind fun t3 => ((block_count.f k x1.2.2.2.1).bind fun t4 => ((block_count.f k x1.2.2.2.2.1).bind fun t5 => ((block_number.f k x1.2.2.2.2.2.1).bind fun t6 => ((block_item.f (((x1.2.2.2.2.2.2.1).drop 0).take 20)).bind fun t7 => ((block_full.f k x1.2.2.2.2.2.2.2.1).bind fun t8 => ((block_item.f (((x1.2.2.2.2.2.2.2.2.1).drop 0).take 32)).bind fun t9 => ((block_item.f (((x1.2.2.2.2.2.2.2.2.2).drop 0).take 32)).bind fun t10 => ((block_list.f k [[(t1.1, t1.2.1, t1.2.2), (t2.1, t2.2.1, t2.2.2), (t3.1, t3.2.1, t3.2.2), (t4.1, t4.2.1, t4.2.2), (t5.1, t5.2.1, t5.2.2), (t6.1, t6.2.1, t6.2.2), (t7.1, t7.2.1, t7.2.2), (t8.1, t8.2.1, t8.2.2), (t9.1, t9.2.1, t9.2.2), (t10.1, t10.2.1, t10.2.2)]]).bind fun t11 => ((block_hash.f k t11).bind fun t12 => (some t12))))))))))))
theorem block_Hash.ok (k : Nat) : block_Hash.Ctr (block_Hash.f k) := by
 intro x1 r h0 mi w0 G ok hm
 delta block_Hash.f at h0
 refine c_enterZ (n := 37) ok hm func7 rfl rfl rfl fun b0 hb a S => c_region (s_box S rfl rfl rfl fun g1 a w S => s_alloc S Z23 rfl ⟨rfl, trivial⟩ rfl fun g2 a w S => c_end ?_)
 replace S := S.freeze .h1
 obtain ⟨m, le1, S⟩ := S
 refine wp_seq (c_heldS S (.take 0 (.take 1 (.take 3 (.take 4 (.take 6 (.take 7 (.take 9 (.take 10 (.take 12 (.take 13 (.take 15 (.take 16 (.take 18 (.take 19 (.take 21 (.take 22 (.take 24 (.take 25 (.take 27 (.take 28 (.alts (.run 2 true (.alts (.run 5 true (.alts (.run 8 true (.alts (.run 11 true (.alts (.run 14 true (.alts (.run 17 true (.alts (.run 20 true (.alts (.run 23 true (.alts (.run 26 true (.alts (.run 29 true (.alts (.run 30 true (.alts (.run 31 true (.alts (.run 32 true (.alts (.run 33 true (.alts (.run 34 false .done .nil)) .nil)) .nil)) .nil)) .nil)) .nil)) .nil)) .nil)) .nil)) .nil)) .nil)) .nil)) .nil)) .nil)) .nil)))))))))))))))))))))) 34 [Res.cells g2 23 [.b32 z32], Res.fro g1 30 [.b32 x1.1, .w x1.2.1, .w x1.2.2.1, .w x1.2.2.2.1, .w x1.2.2.2.2.1, .w4 x1.2.2.2.2.2.1, .b20 x1.2.2.2.2.2.2.1, .w4 x1.2.2.2.2.2.2.2.1, .b32 x1.2.2.2.2.2.2.2.2.1, .b32 x1.2.2.2.2.2.2.2.2.2]] (.c0 (.c0 .n)) ⟨Res.stay_cells, Res.stay_fro, trivial⟩ [(1, (.p g1))] ⟨rfl, trivial⟩ (by kernel_rfl) (by kernel_rfl) ?_); clear S; intro w S CL hw le
 refine h_fieldAddr S CL hw le ⟨rfl, trivial⟩ rfl I30_0 T23 (by decide) rfl rfl rfl trivial fun a S CL => h_sliceA S CL hw le (subR rfl) (i := 0) (j := 32) (o' := 0) (len := 32) (cap := 32) rfl underlying23 T5 (.inl ⟨rfl, rfl⟩) (.inl ⟨rfl, rfl⟩) (by decide) rfl rfl rfl rfl rfl trivial fun a S CL => h_fieldAddr S CL hw le (subR rfl) rfl I30_1 T24 (by decide) rfl rfl rfl trivial fun a S CL => h_load1F S CL hw le (subR rfl) rfl .h1 T24 (v := (.int .u64 x1.2.1)) rfl rfl rfl trivial fun a S CL => h_fieldAddr S CL hw le (subR rfl) rfl I30_2 T24 (by decide) rfl rfl rfl trivial fun a S CL => h_load1F S CL hw le (subR rfl) rfl .h1 T24 (v := (.int .u64 x1.2.2.1)) rfl rfl rfl trivial fun a S CL => h_fieldAddr S CL hw le (subR rfl) rfl I30_3 T24 (by decide) rfl rfl rfl trivial fun a S CL => h_load1F S CL hw le (subR rfl) rfl .h1 T24 (v := (.int .u64 x1.2.2.2.1)) rfl rfl rfl trivial fun a S CL => h_fieldAddr S CL hw le (subR rfl) rfl I30_4 T24 (by decide) rfl rfl rfl trivial fun a S CL => h_load1F S CL hw le (subR rfl) rfl .h1 T24 (v := (.int .u64 x1.2.2.2.2.1)) rfl rfl rfl trivial fun a S CL => h_fieldAddr S CL hw le (subR rfl) rfl I30_5 T26 (by decide) rfl rfl rfl trivial fun a S CL => h_loadaF S CL hw le (subR rfl) rfl .h1 T26 (s' := [.w4 x1.2.2.2.2.2.1]) rfl rfl rfl trivial fun a S CL => h_fieldAddr S CL hw le (subR rfl) rfl I30_6 T28 (by decide) rfl rfl rfl trivial fun a S CL => h_sliceA S CL hw le (subR rfl) (i := 0) (j := 20) (o' := 40) (len := 20) (cap := 20) rfl underlying28 T5 (.inl ⟨rfl, rfl⟩) (.inl ⟨rfl, rfl⟩) (by decide) rfl rfl rfl rfl rfl trivial fun a S CL => h_fieldAddr S CL hw le (subR rfl) rfl I30_7 T26 (by decide) rfl rfl rfl trivial fun a S CL => h_loadaF S CL hw le (subR rfl) rfl .h1 T26 (s' := [.w4 x1.2.2.2.2.2.2.2.1]) rfl rfl rfl trivial fun a S CL => h_fieldAddr S CL hw le (subR rfl) rfl I30_8 T23 (by decide) rfl rfl rfl trivial fun a S CL => h_sliceA S CL hw le (subR rfl) (i := 0) (j := 32) (o' := 64) (len := 32) (cap := 32) rfl underlying23 T5 (.inl ⟨rfl, rfl⟩) (.inl ⟨rfl, rfl⟩) (by decide) rfl rfl rfl rfl rfl trivial fun a S CL => h_fieldAddr S CL hw le (subR rfl) rfl I30_9 T23 (by decide) rfl rfl rfl trivial fun a S CL => h_sliceA S CL hw le (subR rfl) (i := 0) (j := 32) (o' := 96) (len := 32) (cap := 32) rfl underlying23 T5 (.inl ⟨rfl, rfl⟩) (.inl ⟨rfl, rfl⟩) (by decide) rfl rfl rfl rfl rfl trivial fun a S CL => h_run' S rfl trivial ?_
 replace S := (S.slup' (u := 4) (lo := 0) (c := 32) (ys := ((x1.1).drop 0).take 32) rfl (Pull.mem .h1).1 .h (.inl rfl) (by decide) (by decide) rfl).2
 replace CL := CL.drop (lq' := [(31, (.s (some ⟨g1, 96, none⟩) 32 32)), (30, (.o g1 96)), (28, (.s (some ⟨g1, 64, none⟩) 32 32)), (27, (.o g1 64)), (25, (.a4 x1.2.2.2.2.2.2.2.1)), (24, (.o g1 60)), (22, (.s (some ⟨g1, 40, none⟩) 20 20)), (21, (.o g1 40)), (19, (.a4 x1.2.2.2.2.2.1)), (18, (.o g1 36)), (16, (.w x1.2.2.2.2.1)), (15, (.o g1 35)), (13, (.w x1.2.2.2.1)), (12, (.o g1 34)), (10, (.w x1.2.2.1)), (9, (.o g1 33)), (7, (.w x1.2.1)), (6, (.o g1 32)), (3, (.p g1)), (1, (.p g1))]) (subR rfl)
 refine bindX h0 fun t1 et1 h1 => s_callP S _ N23 rfl rfl (block_item.ok (((x1.1).drop 0).take 32) (ad g1) 32 t1 et1 _ _) fun ch1 m le1 a w S => ?_
 replace le := le.trans le1
 replace hw := CL.again hw S (.c0 (.c0 .n)) le
 refine h_back ⟨fun _ => hw, ?_⟩
 refine h_run' S rfl trivial (bindX h1 fun t2 et2 h2 => s_callP S _ N24 rfl rfl (block_count.ok k x1.2.1 t2 et2 _ _) fun ch2 m le1 a w S => ?_)
 replace le := le.trans le1
 replace hw := CL.again hw S (.c0 (.c0 .n)) le
 refine h_back ⟨fun _ => hw, ?_⟩
 refine h_run' S rfl trivial (bindX h2 fun t3 et3 h3 => s_callP S _ N24 rfl rfl (block_count.ok k x1.2.2.1 t3 et3 _ _) fun ch3 m le1 a w S => ?_)
 replace le := le.trans le1
 replace hw := CL.again hw S (.c0 (.c0 .n)) le
 refine h_back ⟨fun _ => hw, ?_⟩
 refine h_run' S rfl trivial (bindX h3 fun t4 et4 h4 => s_callP S _ N24 rfl rfl (block_count.ok k x1.2.2.2.1 t4 et4 _ _) fun ch4 m le1 a w S => ?_)
 replace le := le.trans le1
 replace hw := CL.again hw S (.c0 (.c0 .n)) le
 refine h_back ⟨fun _ => hw, ?_⟩
 refine h_run' S rfl trivial (bindX h4 fun t5 et5 h5 => s_callP S _ N24 rfl rfl (block_count.ok k x1.2.2.2.2.1 t5 et5 _ _) fun ch5 m le1 a w S => ?_)
 replace le := le.trans le1
 replace hw := CL.again hw S (.c0 (.c0 .n)) le
 refine h_back ⟨fun _ => hw, ?_⟩
 refine h_run' S rfl trivial (bindX h5 fun t6 et6 h6 => s_callP S _ N25 rfl rfl (block_number.ok k x1.2.2.2.2.2.1 t6 et6 _ _) fun ch6 m le1 a w S => ?_)
 replace le := le.trans le1
 replace hw := CL.again hw S (.c0 (.c0 .n)) le
 refine h_back ⟨fun _ => hw, ?_⟩
 refine h_run' S rfl trivial ?_
 replace S := (S.slup' (u := 22) (lo := 0) (c := 20) (ys := ((x1.2.2.2.2.2.2.1).drop 0).take 20) rfl (Pull.mem .h1).1 (.there (.there (.there (.there (.there (.there .h rfl) rfl) rfl) rfl) rfl) rfl) (.inl rfl) (by decide) (by decide) rfl).2
 replace CL := CL.drop (lq' := [(31, (.s (some ⟨g1, 96, none⟩) 32 32)), (30, (.o g1 96)), (28, (.s (some ⟨g1, 64, none⟩) 32 32)), (27, (.o g1 64)), (25, (.a4 x1.2.2.2.2.2.2.2.1)), (24, (.o g1 60)), (21, (.o g1 40)), (19, (.a4 x1.2.2.2.2.2.1)), (18, (.o g1 36)), (16, (.w x1.2.2.2.2.1)), (15, (.o g1 35)), (13, (.w x1.2.2.2.1)), (12, (.o g1 34)), (10, (.w x1.2.2.1)), (9, (.o g1 33)), (7, (.w x1.2.1)), (6, (.o g1 32)), (3, (.p g1)), (1, (.p g1))]) (subR rfl)
 refine bindX h6 fun t7 et7 h7 => s_callP S _ N23 rfl rfl (block_item.ok (((x1.2.2.2.2.2.2.1).drop 0).take 20) (some ⟨g1, 40, none⟩) 20 t7 et7 _ _) fun ch7 m le1 a w S => ?_
 replace le := le.trans le1
 replace hw := CL.again hw S (.c0 (.c0 .n)) le
 refine h_back ⟨fun _ => hw, ?_⟩
 refine h_run' S rfl trivial (bindX h7 fun t8 et8 h8 => s_callP S _ N26 rfl rfl (block_full.ok k x1.2.2.2.2.2.2.2.1 t8 et8 _ _) fun ch8 m le1 a w S => ?_)
 replace le := le.trans le1
 replace hw := CL.again hw S (.c0 (.c0 .n)) le
 refine h_back ⟨fun _ => hw, ?_⟩
 refine h_run' S rfl trivial ?_
 replace S := (S.slup' (u := 28) (lo := 0) (c := 32) (ys := ((x1.2.2.2.2.2.2.2.2.1).drop 0).take 32) rfl (Pull.mem .h1).1 (.there (.there (.there (.there (.there (.there (.there (.there .h rfl) rfl) rfl) rfl) rfl) rfl) rfl) rfl) (.inl rfl) (by decide) (by decide) rfl).2
 replace CL := CL.drop (lq' := [(31, (.s (some ⟨g1, 96, none⟩) 32 32)), (30, (.o g1 96)), (27, (.o g1 64)), (25, (.a4 x1.2.2.2.2.2.2.2.1)), (24, (.o g1 60)), (21, (.o g1 40)), (19, (.a4 x1.2.2.2.2.2.1)), (18, (.o g1 36)), (16, (.w x1.2.2.2.2.1)), (15, (.o g1 35)), (13, (.w x1.2.2.2.1)), (12, (.o g1 34)), (10, (.w x1.2.2.1)), (9, (.o g1 33)), (7, (.w x1.2.1)), (6, (.o g1 32)), (3, (.p g1)), (1, (.p g1))]) (subR rfl)
 refine bindX h8 fun t9 et9 h9 => s_callP S _ N23 rfl rfl (block_item.ok (((x1.2.2.2.2.2.2.2.2.1).drop 0).take 32) (some ⟨g1, 64, none⟩) 32 t9 et9 _ _) fun ch9 m le1 a w S => ?_
 replace le := le.trans le1
 replace hw := CL.again hw S (.c0 (.c0 .n)) le
 refine h_back ⟨fun _ => hw, ?_⟩
 refine h_run' S rfl trivial ?_
 replace S := (S.slup' (u := 31) (lo := 0) (c := 32) (ys := ((x1.2.2.2.2.2.2.2.2.2).drop 0).take 32) rfl (Pull.mem .h1).1 (.there (.there (.there (.there (.there (.there (.there (.there (.there .h rfl) rfl) rfl) rfl) rfl) rfl) rfl) rfl) rfl) (.inl rfl) (by decide) (by decide) rfl).2
 replace CL := CL.drop (lq' := [(30, (.o g1 96)), (27, (.o g1 64)), (25, (.a4 x1.2.2.2.2.2.2.2.1)), (24, (.o g1 60)), (21, (.o g1 40)), (19, (.a4 x1.2.2.2.2.2.1)), (18, (.o g1 36)), (16, (.w x1.2.2.2.2.1)), (15, (.o g1 35)), (13, (.w x1.2.2.2.1)), (12, (.o g1 34)), (10, (.w x1.2.2.1)), (9, (.o g1 33)), (7, (.w x1.2.1)), (6, (.o g1 32)), (3, (.p g1)), (1, (.p g1))]) (subR rfl)
 refine bindX h9 fun t10 et10 h10 => s_callP S _ N23 rfl rfl (block_item.ok (((x1.2.2.2.2.2.2.2.2.2).drop 0).take 32) (some ⟨g1, 96, none⟩) 32 t10 et10 _ _) fun ch10 m le1 a w S => ?_
 replace le := le.trans le1
 replace hw := CL.again hw S (.c0 (.c0 .n)) le
 refine h_back ⟨fun _ => hw, ?_⟩
 refine h_run' S rfl trivial (s_bldSl S (ty' := Y54) (ds := [(0, (.agg [.b t1.1, .q yb ch1.1 ch1.2 t1.2.1, .i t1.2.2])), (1, (.agg [.b t2.1, .q yb ch2.1 ch2.2 t2.2.1, .i t2.2.2])), (2, (.agg [.b t3.1, .q yb ch3.1 ch3.2 t3.2.1, .i t3.2.2])), (3, (.agg [.b t4.1, .q yb ch4.1 ch4.2 t4.2.1, .i t4.2.2])), (4, (.agg [.b t5.1, .q yb ch5.1 ch5.2 t5.2.1, .i t5.2.2])), (5, (.agg [.b t6.1, .q yb ch6.1 ch6.2 t6.2.1, .i t6.2.2])), (6, (.agg [.b t7.1, .q yb ch7.1 ch7.2 t7.2.1, .i t7.2.2])), (7, (.agg [.b t8.1, .q yb ch8.1 ch8.2 t8.2.1, .i t8.2.2])), (8, (.agg [.b t9.1, .q yb ch9.1 ch9.2 t9.2.1, .i t9.2.2])), (9, (.agg [.b t10.1, .q yb ch10.1 ch10.2 t10.2.1, .i t10.2.2]))]) (z := (false, ([] : List Int), 0)) (c0 := ((), (none, 0), ())) (ys := [(t1.1, t1.2.1, t1.2.2), (t2.1, t2.2.1, t2.2.2), (t3.1, t3.2.1, t3.2.2), (t4.1, t4.2.1, t4.2.2), (t5.1, t5.2.1, t5.2.2), (t6.1, t6.2.1, t6.2.2), (t7.1, t7.2.1, t7.2.2), (t8.1, t8.2.1, t8.2.2), (t9.1, t9.2.1, t9.2.2), (t10.1, t10.2.1, t10.2.2)]) (cs := [((), (ch1.1, ch1.2), ()), ((), (ch2.1, ch2.2), ()), ((), (ch3.1, ch3.2), ()), ((), (ch4.1, ch4.2), ()), ((), (ch5.1, ch5.2), ()), ((), (ch6.1, ch6.2), ()), ((), (ch7.1, ch7.2), ()), ((), (ch8.1, ch8.2), ()), ((), (ch9.1, ch9.2), ()), ((), (ch10.1, ch10.2), ())]) rfl underlying51 J54 Z54 rfl ⟨rfl, ⟨Nat.le_refl _, Nat.zero_le _, RdS.nil _ _ _, RdS.mono _ _ _⟩, rfl, trivial⟩ rfl rfl rfl rfl rfl rfl fun g3 a w S => ?_)
 replace hw := CL.again hw S (.c1 (.c1 .n)) le
 refine h_back ⟨fun _ => hw, ?_⟩
 refine h_run' S rfl trivial ?_
 replace S := S.rowfro .h
 obtain ⟨m, le1, S, hro⟩ := S
 replace le := le.trans le1
 replace S := S.slotro (u := 33) rfl hro
 refine s_bldSl S (ty' := (Ty.slice Y54)) (ds := [(0, (.q Y54 (ad g3) 10 [(t1.1, t1.2.1, t1.2.2), (t2.1, t2.2.1, t2.2.2), (t3.1, t3.2.1, t3.2.2), (t4.1, t4.2.1, t4.2.2), (t5.1, t5.2.1, t5.2.2), (t6.1, t6.2.1, t6.2.2), (t7.1, t7.2.1, t7.2.2), (t8.1, t8.2.1, t8.2.2), (t9.1, t9.2.1, t9.2.2), (t10.1, t10.2.1, t10.2.2)]))]) (z := ([] : List (Bool × (List Int) × Int))) (c0 := (none, 0)) (ys := [[(t1.1, t1.2.1, t1.2.2), (t2.1, t2.2.1, t2.2.2), (t3.1, t3.2.1, t3.2.2), (t4.1, t4.2.1, t4.2.2), (t5.1, t5.2.1, t5.2.2), (t6.1, t6.2.1, t6.2.2), (t7.1, t7.2.1, t7.2.2), (t8.1, t8.2.1, t8.2.2), (t9.1, t9.2.1, t9.2.2), (t10.1, t10.2.1, t10.2.2)]]) (cs := [((ad g3), 10)]) rfl underlying76 J51 Z51 rfl ⟨⟨Nat.le_refl _, Nat.zero_le _, RdS.nil _ _ _, RdS.mono _ _ _⟩, trivial⟩ rfl rfl rfl rfl rfl rfl fun g4 a w S => ?_
 replace hw := CL.again hw S (.c1 (.c1 .n)) le
 refine h_back ⟨fun _ => hw, ?_⟩
 refine h_run' S rfl trivial ?_
 replace S := S.rowfro .h
 obtain ⟨m, le1, S, hro⟩ := S
 replace le := le.trans le1
 replace S := S.slotro (u := 34) rfl hro
 refine bindX h10 fun t11 et11 h11 => s_callR S (fun (ch : (Option Addr) × Nat × Nat) => ((.s ch.1 ch.2.1 ch.2.2) : D)) (fun (ch : (Option Addr) × Nat × Nat) => Res.row Y54 54 ch.1 ch.2.1 ch.2.2 t11) N22 rfl rfl (block_list.ok k [[(t1.1, t1.2.1, t1.2.2), (t2.1, t2.2.1, t2.2.2), (t3.1, t3.2.1, t3.2.2), (t4.1, t4.2.1, t4.2.2), (t5.1, t5.2.1, t5.2.2), (t6.1, t6.2.1, t6.2.2), (t7.1, t7.2.1, t7.2.2), (t8.1, t8.2.1, t8.2.2), (t9.1, t9.2.1, t9.2.2), (t10.1, t10.2.1, t10.2.2)]] (ad g4) 1 t11 et11 _ _) fun ch11 m le1 a w S => ?_
 replace le := le.trans le1
 replace hw := CL.again hw S (.c1 (.c1 .n)) le
 refine h_back ⟨fun _ => hw, ?_⟩
 refine h_run' S rfl trivial ?_
 replace S := S.rowfro .h
 obtain ⟨m, le1, S, hro⟩ := S
 replace le := le.trans le1
 replace S := S.slotro (u := 35) rfl hro
 refine bindX h11 fun t12 et12 h12 => s_callP S _ N21 rfl rfl (block_hash.ok k t11 ch11.1 ch11.2.2 t12 et12 _ _ (G.mono (S.leB hb))) fun ch12 m le1 a w S => ?_
 replace le := le.trans le1
 replace hw := CL.again hw S (.c0 (.c0 .n)) le
 refine h_back ⟨fun _ => hw, ?_⟩
 refine h_run' S rfl trivial (s_store S rfl rfl rfl (s' := [.b32 t12]) .h T23 rfl rfl fun w S => ?_)
 refine h_back ⟨fun h => (nomatch h), ?_⟩
 refine h_done ?_; clear CL hw le
 refine x_thenN (wp_ret ?_)
 obtain rfl := Option.some.inj h12
 exact b_ret1 (d := (.a32 t12)) S rfl (resD_cell rfl .h T23 rfl rfl) (S.rt hb)
abbrev bits_Mul64.Ty : Type := Int → Int → Option (Int × Int)
def bits_Mul64.Ctr (s : bits_Mul64.Ty) : Prop := ∀ (x1 : Int) (x2 : Int) (r : Int × Int), Ct (C := Unit) Tryd.prog 89 (s x1 x2 = some r) [] [(.w x1), (.w x2)] (fun _ => (.tup [(false, [.w r.1]), (false, [.w r.2])])) fun _ => []
def bits_Mul64.f (x1 : Int) (x2 : Int) : Option (Int × Int) := some (wr .u64 ((wr .u64 ((wr .u64 ((shr x1 32) * (shr x2 32))) + (shr (wr .u64 ((wr .u64 ((shr x1 32) * (bits .and .u64 x2 4294967295))) + (shr (wr .u64 ((bits .and .u64 x1 4294967295) * (bits .and .u64 x2 4294967295))) 32))) 32))) + (shr (wr .u64 ((bits .and .u64 (wr .u64 ((wr .u64 ((shr x1 32) * (bits .and .u64 x2 4294967295))) + (shr (wr .u64 ((bits .and .u64 x1 4294967295) * (bits .and .u64 x2 4294967295))) 32))) 4294967295) + (wr .u64 ((bits .and .u64 x1 4294967295) * (shr x2 32))))) 32)), wr .u64 (x1 * x2))
theorem bits_Mul64.ok : bits_Mul64.Ctr (bits_Mul64.f) := by
 intro x1 x2 r h0 mi w0 ok hm
 delta bits_Mul64.f at h0
 refine c_enterZ (n := 51) ok hm func89 rfl rfl rfl fun b0 hb a S => c_region (s_assign S rfl rfl fun a S => s_assign S rfl rfl fun a S => c_end (c_region (s_move S rfl rfl fun a S => s_bin S rfl rfl rfl rfl fun a S => s_assign S rfl rfl fun a S => c_end (c_region (s_move S rfl rfl fun a S => s_shr S (e := 32) rfl rfl (by decide) rfl rfl fun a S => s_assign S rfl rfl fun a S => c_end (c_region (s_move S rfl rfl fun a S => s_bin S rfl rfl rfl rfl fun a S => s_assign S rfl rfl fun a S => c_end (c_region (s_move S rfl rfl fun a S => s_shr S (e := 32) rfl rfl (by decide) rfl rfl fun a S => s_assign S rfl rfl fun a S => c_end (c_region (s_move S rfl rfl fun a S => s_move S rfl rfl fun a S => s_bin S rfl rfl rfl rfl fun a S => s_assign S rfl rfl fun a S => c_end (c_region (s_move S rfl rfl fun a S => s_move S rfl rfl fun a S => s_bin S rfl rfl rfl rfl fun a S => s_move S rfl rfl fun a S => s_shr S (e := 32) rfl rfl (by decide) rfl rfl fun a S => s_bin S rfl rfl rfl rfl fun a S => s_assign S rfl rfl fun a S => c_end (c_region (s_move S rfl rfl fun a S => s_bin S rfl rfl rfl rfl fun a S => s_assign S rfl rfl fun a S => c_end (c_region (s_move S rfl rfl fun a S => s_shr S (e := 32) rfl rfl (by decide) rfl rfl fun a S => s_assign S rfl rfl fun a S => c_end (c_region (s_move S rfl rfl fun a S => s_move S rfl rfl fun a S => s_move S rfl rfl fun a S => s_bin S rfl rfl rfl rfl fun a S => s_bin S rfl rfl rfl rfl fun a S => s_assign S rfl rfl fun a S => c_end (c_region (s_move S rfl rfl fun a S => ?_)))))))))))))))))))))
 refine s_move S rfl rfl fun a S => s_bin S rfl rfl rfl rfl fun a S => s_move S rfl rfl fun a S => s_bin S rfl rfl rfl rfl fun a S => s_move S rfl rfl fun a S => s_shr S (e := 32) rfl rfl (by decide) rfl rfl fun a S => s_bin S rfl rfl rfl rfl fun a S => s_assign S rfl rfl fun a S => c_end (c_region (s_move S rfl rfl fun a S => s_move S rfl rfl fun a S => s_bin S rfl rfl rfl rfl fun a S => s_assign S rfl rfl fun a S => c_end (wp_ret ?_)))
 obtain rfl := Option.some.inj h0
 exact b_ret2 (d1 := (.w (wr .u64 ((wr .u64 ((wr .u64 ((shr x1 32) * (shr x2 32))) + (shr (wr .u64 ((wr .u64 ((shr x1 32) * (bits .and .u64 x2 4294967295))) + (shr (wr .u64 ((bits .and .u64 x1 4294967295) * (bits .and .u64 x2 4294967295))) 32))) 32))) + (shr (wr .u64 ((bits .and .u64 (wr .u64 ((wr .u64 ((shr x1 32) * (bits .and .u64 x2 4294967295))) + (shr (wr .u64 ((bits .and .u64 x1 4294967295) * (bits .and .u64 x2 4294967295))) 32))) 4294967295) + (wr .u64 ((bits .and .u64 x1 4294967295) * (shr x2 32))))) 32))))) (d2 := (.w (wr .u64 (x1 * x2)))) S rfl rfl rfl fun ok1 ok2 => S.retX (Hx := []) hb _ _ (() : Unit) .nil ⟨⟨ok1, trivial⟩, ⟨ok2, trivial⟩, trivial⟩
abbrev wide_Product.Ty : Type := (List Int) → (List Int) → Option ((List Int) × (List Int))
def wide_Product.Ctr (s : wide_Product.Ty) : Prop := ∀ (x1 : List Int) (x2 : List Int) (r : (List Int) × (List Int)), Ct (C := Unit) Tryd.prog 72 (s x1 x2 = some r) [] [(.a4 x1), (.a4 x2)] (fun _ => (.tup [(true, [.w4 r.1]), (true, [.w4 r.2])])) fun _ => []
def wide_Product.j1 (y1 : List Int) : Option ((List Int) × (List Int)) := some (((y1).drop 0).take 4, ((y1).drop 4).take 4)
def wide_Product.j2 (y22 : Int) (rec1 : Int → (List Int) → Option ((List Int) × (List Int))) (y32 : List Int) : Option ((List Int) × (List Int)) := rec1 (wr .i64 (y22 + 1)) y32
def wide_Product.j3 (y22 : Int) (rec1 : Int → (List Int) → Option ((List Int) × (List Int))) (y39 : Int) (y40 : List Int) : Option ((List Int) × (List Int)) := if (0 : Int) ≤ (wr .i64 (y22 + 4)) ∧ (wr .i64 (y22 + 4)) < 8 then (wide_Product.j2 y22 rec1 (y40.set (Int.toNat (wr .i64 (y22 + 4))) y39)) else none
def wide_Product.b2 (x1 : List Int) (x2 : List Int) (y22 : Int) (rec1 : Int → (List Int) → Option ((List Int) × (List Int))) (rec2 : Int → Int → (List Int) → Option ((List Int) × (List Int))) (y44 : Int) (y45 : Int) (y46 : List Int) : Option ((List Int) × (List Int)) := if (decide (y44 < 4)) = true then (if (0 : Int) ≤ y22 ∧ y22 < 4 then (if (0 : Int) ≤ y44 ∧ y44 < 4 then ((bits_Mul64.f (rd x1 y22) (rd x2 y44)).bind fun t1 => (if (0 : Int) ≤ (wr .i64 (y22 + y44)) ∧ (wr .i64 (y22 + y44)) < 8 then (if (0 : Int) ≤ t1.2 ∧ (0 : Int) ≤ (rd y46 (wr .i64 (y22 + y44))) ∧ (0 : Int) ≤ 0 ∧ (0 : Int) ≤ 1 then (if (0 : Int) ≤ ((t1.2 + (rd y46 (wr .i64 (y22 + y44))) + 0) % 18446744073709551616) ∧ (0 : Int) ≤ y45 ∧ (0 : Int) ≤ 0 ∧ (0 : Int) ≤ 1 then (rec2 (wr .i64 (y44 + 1)) (wr .u64 ((wr .u64 (t1.1 + ((t1.2 + (rd y46 (wr .i64 (y22 + y44))) + 0) / 18446744073709551616))) + ((((t1.2 + (rd y46 (wr .i64 (y22 + y44))) + 0) % 18446744073709551616) + y45 + 0) / 18446744073709551616))) (y46.set (Int.toNat (wr .i64 (y22 + y44))) ((((t1.2 + (rd y46 (wr .i64 (y22 + y44))) + 0) % 18446744073709551616) + y45 + 0) % 18446744073709551616))) else none) else none) else none)) else none) else none) else (wide_Product.j3 y22 rec1 y45 y46)
def wide_Product.l2 (x1 : List Int) (x2 : List Int) (y22 : Int) (rec1 : Int → (List Int) → Option ((List Int) × (List Int))) : Nat → Int → Int → (List Int) → Option ((List Int) × (List Int))
  | 0, _, _, _ => none
  | q + 1, y44, y45, y46 => wide_Product.b2 x1 x2 y22 rec1 (wide_Product.l2 x1 x2 y22 rec1 q) y44 y45 y46
def wide_Product.b1 (k : Nat) (x1 : List Int) (x2 : List Int) (rec1 : Int → (List Int) → Option ((List Int) × (List Int))) (y22 : Int) (y23 : List Int) : Option ((List Int) × (List Int)) := if (decide (y22 < 4)) = true then (wide_Product.l2 x1 x2 y22 rec1 k 0 0 y23) else (wide_Product.j1 y23)
def wide_Product.l1 (k : Nat) (x1 : List Int) (x2 : List Int) : Nat → Int → (List Int) → Option ((List Int) × (List Int))
  | 0, _, _ => none
  | q + 1, y22, y23 => wide_Product.b1 k x1 x2 (wide_Product.l1 k x1 x2 q) y22 y23
def wide_Product.f (k : Nat) (x1 : List Int) (x2 : List Int) : Option ((List Int) × (List Int)) := wide_Product.l1 k x1 x2 k 0 [0, 0, 0, 0, 0, 0, 0, 0]
theorem wide_Product.ok (k : Nat) : wide_Product.Ctr (wide_Product.f k) := by
 intro x1 x2 r h0 mi w0 ok hm
 delta wide_Product.f at h0
 refine c_enterZ (n := 68) ok hm func72 rfl rfl rfl fun b0 hb a S => c_region (s_box S rfl rfl rfl fun g1 a w S => s_box S rfl rfl rfl fun g2 a w S => s_alloc S Z26 rfl ⟨rfl, trivial⟩ rfl fun g3 a w S => s_alloc S Z26 rfl ⟨rfl, trivial⟩ rfl fun g4 a w S => c_end (c_region (s_alloc S Z121 rfl ⟨rfl, trivial⟩ rfl fun g5 a w S => c_end (wp_seq_k fun K1 hK1 => ?_))))
 have j1 : ∀ m g71 g72 g73 y1 a w, St 68 m b0 [(6, (.p g71)), (5, (.p g72)), (4, (.p g73))] [Res.cells g71 121 [.ints .u64 y1 8], Res.cells g72 26 [.w4 [0, 0, 0, 0]], Res.cells g73 26 [.w4 [0, 0, 0, 0]]] a w → wide_Product.j1 y1 = some r → K1 a w := by
  intro m g71 g72 g73 y1 a w S h0
  delta wide_Product.j1 at h0
  refine hK1 a w ?_
  refine wp_seq (c_heldS S (.take 0 (.take 1 (.take 2 (.take 3 (.take 4 (.take 5 (.alts (.run 6 true (.alts (.run 7 false .done .nil)) .nil)))))))) 7 [Res.cells g71 121 [.ints .u64 y1 8], Res.cells g72 26 [.w4 [0, 0, 0, 0]]] (.c0 (.c0 .n)) ⟨Res.stay_cells, Res.stay_cells, trivial⟩ [(6, (.p g71))] ⟨rfl, trivial⟩ (by kernel_rfl) (by kernel_rfl) ?_); clear S; intro w S CL hw le
  refine h_sliceA S CL hw le ⟨rfl, trivial⟩ (i := 0) (j := 4) (o' := 0) (len := 4) (cap := 8) rfl underlying121 T24 (.inl ⟨rfl, rfl⟩) (.inr ⟨_, _, rfl, rfl⟩) (by decide) rfl rfl rfl rfl rfl trivial fun a S CL => h_arrp S CL hw le (subR rfl) rfl underlying26 (by decide) rfl rfl trivial fun a S CL => h_ldInts S CL hw le (subR rfl) (lo := 0) (ys := ((y1).drop 0).take 4) rfl .h T26 .h rfl (by decide) rfl rfl rfl trivial fun a S CL => h_sliceA S CL hw le (subR rfl) (i := 4) (j := 8) (o' := 4) (len := 4) (cap := 4) rfl underlying121 T24 (.inr ⟨_, _, rfl, rfl⟩) (.inl ⟨rfl, rfl⟩) (by decide) rfl rfl rfl rfl rfl trivial fun a S CL => h_arrp S CL hw le (subR rfl) rfl underlying26 (by decide) rfl rfl trivial fun a S CL => h_ldInts S CL hw le (subR rfl) (lo := 4) (ys := ((y1).drop 4).take 4) rfl .h T26 .h rfl (by decide) rfl rfl rfl trivial fun a S CL => h_run' S rfl trivial (s_store S rfl rfl rfl (s' := [.w4 (((y1).drop 0).take 4)]) .h2 T26 rfl rfl fun w S => ?_)
  replace hw := CL.again hw S (.c0 (.c0 .n)) le
  refine h_back ⟨fun _ => hw, ?_⟩
  refine h_run' S rfl trivial (s_store S rfl rfl rfl (s' := [.w4 (((y1).drop 4).take 4)]) .h1 T26 rfl rfl fun w S => ?_)
  refine h_back ⟨fun h => (nomatch h), ?_⟩
  refine h_done ?_; clear CL hw le
  refine x_thenN (wp_ret ?_)
  obtain rfl := Option.some.inj h0
  exact b_ret2 (d1 := (.a4 (((y1).drop 0).take 4))) (d2 := (.a4 (((y1).drop 4).take 4))) S rfl (resD_cell rfl .h2 T26 rfl rfl) (resD_cell rfl .h1 T26 rfl rfl) fun ok1 ok2 => S.retX (Hx := []) hb _ _ (() : Unit) .nil ⟨ok1, ok2, trivial⟩
 refine c_region (s_move S rfl rfl fun a S => c_end (wp_block ?_))
 refine c_loop (fun q1 a w => ∃ m y22 g134 g135 g136 g137 g138 y23, St 68 m b0 [(13, (.i y22)), (6, (.p g134)), (5, (.p g135)), (4, (.p g136)), (3, (.p g137)), (2, (.p g138))] [Res.cells g134 121 [.ints .u64 y23 8], Res.cells g135 26 [.w4 [0, 0, 0, 0]], Res.cells g136 26 [.w4 [0, 0, 0, 0]], Res.cells g137 26 [.w4 x2], Res.cells g138 26 [.w4 x1]] a w ∧ wide_Product.l1 k x1 x2 q1 y22 y23 = some r) ?_ ?_ (k := k) ⟨_, 0, g5, g4, g3, g2, g1, z8, (S.sb rfl (.c0 (.c0 (.c0 (.c0 (.c0 .n)))))), h0⟩
 ·rintro a w ⟨m, y22, g134, g135, g136, g137, g138, y23, S, h0⟩
  exact (nomatch (show (none : Option ((List Int) × (List Int))) = some r from h0))
 ·clear S h0
  rintro q1 a w ⟨m, y22, g134, g135, g136, g137, g138, y23, S, h0⟩
  replace h0 : wide_Product.b1 k x1 x2 (wide_Product.l1 k x1 x2 q1) y22 y23 = some r := h0
  delta wide_Product.b1 at h0
  refine c_region (s_bin S rfl rfl rfl rfl fun a S => c_end (wp_seq ?_))
  rcases ite_of h0 with ⟨c1, h1⟩ | ⟨c1, h1⟩
  ·refine c_condT S rfl c1 (wp_skip (x_thenN (wp_seq_k fun K2 hK2 => ?_)))
   have j2 : ∀ m g159 g160 g161 g162 g163 y32 a w, St 68 m b0 [(13, (.i y22)), (6, (.p g159)), (5, (.p g160)), (4, (.p g161)), (3, (.p g162)), (2, (.p g163))] [Res.cells g159 121 [.ints .u64 y32 8], Res.cells g160 26 [.w4 [0, 0, 0, 0]], Res.cells g161 26 [.w4 [0, 0, 0, 0]], Res.cells g162 26 [.w4 x2], Res.cells g163 26 [.w4 x1]] a w → wide_Product.j2 y22 (wide_Product.l1 k x1 x2 q1) y32 = some r → K2 a w := by
    intro m g159 g160 g161 g162 g163 y32 a w S h0
    delta wide_Product.j2 at h0
    refine hK2 a w (c_region' (s_bin S rfl rfl rfl rfl fun a S => s_move S rfl rfl fun a S => c_end' (x_thenN ?_)))
    exact ⟨_, (wr .i64 (y22 + 1)), g159, g160, g161, g162, g163, y32, (S.sb rfl (.c0 (.c0 (.c0 (.c0 (.c0 .n)))))), h0⟩
   refine wp_block (c_region (s_move S rfl rfl fun a S => s_assign S rfl rfl fun a S => c_end (c_region (s_assign S rfl rfl fun a S => c_end (wp_seq_k fun K3 hK3 => ?_)))))
   have j3 : ∀ m y39 g179 g180 g181 g182 g183 y40 a w, St 68 m b0 [(8, (.w y39)), (7, (.i y22)), (13, (.i y22)), (6, (.p g179)), (5, (.p g180)), (4, (.p g181)), (3, (.p g182)), (2, (.p g183))] [Res.cells g179 121 [.ints .u64 y40 8], Res.cells g180 26 [.w4 [0, 0, 0, 0]], Res.cells g181 26 [.w4 [0, 0, 0, 0]], Res.cells g182 26 [.w4 x2], Res.cells g183 26 [.w4 x1]] a w → wide_Product.j3 y22 (wide_Product.l1 k x1 x2 q1) y39 y40 = some r → K3 a w := by
    intro m y39 g179 g180 g181 g182 g183 y40 a w S h0
    delta wide_Product.j3 at h0
    refine hK3 a w (c_region' (s_move S rfl rfl fun a S => s_bin S rfl rfl rfl rfl fun a S => s_move S rfl rfl fun a S => ?_))
    obtain ⟨c2, h1⟩ := chk_of h0; clear h0
    refine s_iaddr S rfl rfl underlying121 T24 c2.1 c2.2 (mul1 _ _) rfl fun a S => s_storei S (i := (wr .i64 (y22 + 4))) rfl rfl .h T24 .h rfl c2.1 c2.2 fun w S => c_end' (x_blockN (x_thenN ?_))
    exact j2 _ g179 g180 g181 g182 g183 (y40.set (Int.toNat (wr .i64 (y22 + 4))) y39) a w (S.sb rfl (.c0 (.c0 (.c0 (.c0 (.c0 .n)))))) h1
   refine c_region (s_move S rfl rfl fun a S => c_end (wp_block ?_))
   refine c_loop (fun q2 a w => ∃ m y44 y45 g194 g195 g196 g197 g198 y46, St 68 m b0 [(16, (.i y44)), (8, (.w y45)), (7, (.i y22)), (13, (.i y22)), (6, (.p g194)), (5, (.p g195)), (4, (.p g196)), (3, (.p g197)), (2, (.p g198))] [Res.cells g194 121 [.ints .u64 y46 8], Res.cells g195 26 [.w4 [0, 0, 0, 0]], Res.cells g196 26 [.w4 [0, 0, 0, 0]], Res.cells g197 26 [.w4 x2], Res.cells g198 26 [.w4 x1]] a w ∧ wide_Product.l2 x1 x2 y22 (wide_Product.l1 k x1 x2 q1) q2 y44 y45 y46 = some r) ?_ ?_ (k := k) ⟨_, 0, 0, g134, g135, g136, g137, g138, y23, (S.sb rfl (.c0 (.c0 (.c0 (.c0 (.c0 .n)))))), h1⟩
   ·rintro a w ⟨m, y44, y45, g194, g195, g196, g197, g198, y46, S, h0⟩
    exact (nomatch (show (none : Option ((List Int) × (List Int))) = some r from h0))
   ·clear S h1
    rintro q2 a w ⟨m, y44, y45, g194, g195, g196, g197, g198, y46, S, h0⟩
    replace h0 : wide_Product.b2 x1 x2 y22 (wide_Product.l1 k x1 x2 q1) (wide_Product.l2 x1 x2 y22 (wide_Product.l1 k x1 x2 q1) q2) y44 y45 y46 = some r := h0
    delta wide_Product.b2 at h0
    refine c_region (s_bin S rfl rfl rfl rfl fun a S => c_end (wp_seq ?_))
    rcases ite_of h0 with ⟨c3, h1⟩ | ⟨c3, h1⟩
    ·refine c_condT S rfl c3 (wp_skip (x_thenN (wp_seq (wp_block (c_region (s_move S rfl rfl fun a S => s_assign S rfl rfl fun a S => c_end ?_))))))
     refine wp_seq (c_heldS S (.take 0 (.take 1 (.take 2 (.take 3 (.take 4 (.take 5 (.alts (.run 6 true (.take 7 (.take 8 (.take 9 (.take 10 (.take 11 .done))))) .nil)))))))) 12 [Res.cells g194 121 [.ints .u64 y46 8], Res.cells g195 26 [.w4 [0, 0, 0, 0]], Res.cells g196 26 [.w4 [0, 0, 0, 0]], Res.cells g197 26 [.w4 x2], Res.cells g198 26 [.w4 x1]] (.c0 (.c0 (.c0 (.c0 (.c0 .n))))) ⟨Res.stay_cells, Res.stay_cells, Res.stay_cells, Res.stay_cells, Res.stay_cells, trivial⟩ [(9, (.i y44)), (7, (.i y22)), (3, (.p g197)), (2, (.p g198))] (subR rfl) (by kernel_rfl) (by kernel_rfl) ?_); clear S; intro w S CL hw le
     refine h_move S CL hw le (subR rfl) rfl rfl rfl trivial fun a S CL => ?_
     obtain ⟨c4, h2⟩ := chk_of h1; clear h1
     refine h_iaddr S CL hw le (subR rfl) rfl rfl underlying26 T24 c4.1 c4.2 (mul1 _ _) rfl rfl trivial fun a S CL => h_loadi S CL hw le (subR rfl) (i := y22) rfl .h4 T24 .h rfl c4.1 c4.2 rfl rfl trivial fun a S CL => h_move S CL hw le (subR rfl) rfl rfl rfl trivial fun a S CL => ?_
     obtain ⟨c5, h3⟩ := chk_of h2; clear h2
     refine h_iaddr S CL hw le (subR rfl) rfl rfl underlying26 T24 c5.1 c5.2 (mul1 _ _) rfl rfl trivial fun a S CL => h_loadi S CL hw le (subR rfl) (i := y44) rfl .h3 T24 .h rfl c5.1 c5.2 rfl rfl trivial fun a S CL => h_run' S rfl trivial (bindX h3 fun t1 et1 h4 => s_callP S _ N89 rfl rfl (bits_Mul64.ok (rd x1 y22) (rd x2 y44) t1 et1 _ _) fun ch1 m le1 a w S => ?_)
     replace le := le.trans le1
     replace hw := CL.again hw S (.c0 (.c0 (.c0 (.c0 (.c0 .n))))) le
     refine h_back ⟨fun _ => hw, ?_⟩
     replace CL := CL.add (t := 26) (d := (.tup [(false, [.w t1.1]), (false, [.w t1.2])])) S rfl rfl
     refine h_move S CL hw le (subR rfl) rfl rfl rfl trivial fun a S CL => h_extract S CL hw le (subR rfl) rfl rfl rfl rfl rfl trivial fun a S CL => h_extract S CL hw le (subR rfl) rfl rfl rfl rfl rfl trivial fun a S CL => h_assign S CL hw le (subR rfl) rfl rfl rfl trivial fun a S CL => h_assign S CL hw le (subR rfl) rfl rfl rfl trivial fun a S CL => ?_
     refine h_done ?_; clear CL hw le
     refine x_thenN (c_region (s_move S rfl rfl fun a S => s_move S rfl rfl fun a S => s_move S rfl rfl fun a S => s_bin S rfl rfl rfl rfl fun a S => ?_))
     obtain ⟨c6, h5⟩ := chk_of h4; clear h4
     refine s_iaddr S rfl rfl underlying121 T24 c6.1 c6.2 (mul1 _ _) rfl fun a S => s_loadi S (i := (wr .i64 (y22 + y44))) rfl .h T24 .h rfl c6.1 c6.2 rfl fun a S => ?_
     obtain ⟨c7, h6⟩ := chk_of h5; clear h5
     refine s_extAdd S X75 rfl rfl rfl c7 rfl fun a S => s_move S rfl rfl fun a S => s_extract S rfl rfl rfl rfl fun a S => s_extract S rfl rfl rfl rfl fun a S => s_assign S rfl rfl fun a S => s_assign S rfl rfl fun a S => c_end (c_region (s_move S rfl rfl fun a S => s_move S rfl rfl fun a S => s_bin S rfl rfl rfl rfl fun a S => s_assign S rfl rfl fun a S => c_end (c_region (s_move S rfl rfl fun a S => s_move S rfl rfl fun a S => ?_))))
     obtain ⟨c8, h7⟩ := chk_of h6; clear h6
     refine s_extAdd S X75 rfl rfl rfl c8 rfl fun a S => s_move S rfl rfl fun a S => s_extract S rfl rfl rfl rfl fun a S => s_extract S rfl rfl rfl rfl fun a S => s_assign S rfl rfl fun a S => s_assign S rfl rfl fun a S => c_end (c_region (s_move S rfl rfl fun a S => s_move S rfl rfl fun a S => s_bin S rfl rfl rfl rfl fun a S => s_move S rfl rfl fun a S => s_iaddr S rfl rfl underlying121 T24 c6.1 c6.2 (mul1 _ _) rfl fun a S => s_storei S (i := (wr .i64 (y22 + y44))) rfl rfl .h T24 .h rfl c6.1 c6.2 fun w S => c_end (c_region' (s_move S rfl rfl fun a S => s_move S rfl rfl fun a S => s_bin S rfl rfl rfl rfl fun a S => s_assign S rfl rfl fun a S => c_end' (x_blockN (x_thenN (c_region' (s_bin S rfl rfl rfl rfl fun a S => s_move S rfl rfl fun a S => c_end' (x_thenN ?_)))))))))
     exact ⟨_, (wr .i64 (y44 + 1)), (wr .u64 ((wr .u64 (t1.1 + ((t1.2 + (rd y46 (wr .i64 (y22 + y44))) + 0) / 18446744073709551616))) + ((((t1.2 + (rd y46 (wr .i64 (y22 + y44))) + 0) % 18446744073709551616) + y45 + 0) / 18446744073709551616))), g194, g195, g196, g197, g198, (y46.set (Int.toNat (wr .i64 (y22 + y44))) ((((t1.2 + (rd y46 (wr .i64 (y22 + y44))) + 0) % 18446744073709551616) + y45 + 0) % 18446744073709551616)), (S.sb rfl (.c0 (.c0 (.c0 (.c0 (.c0 .n)))))), h7⟩
    ·refine c_condF S rfl c3 (wp_exit (x_thenX (x_thenX (x_blockX (x_thenN ?_)))))
     exact j3 _ y45 g194 g195 g196 g197 g198 y46 a w (S.sb rfl (.c0 (.c0 (.c0 (.c0 (.c0 .n)))))) h1
  ·refine c_condF S rfl c1 (wp_exit (x_thenX (x_thenX (x_blockX (x_thenN ?_)))))
   exact j1 _ g134 g135 g136 y23 a w (S.sb rfl (.c0 (.c0 (.c0 .n)))) h1
abbrev word_Compare.Ty : Type := (List Int) → (List Int) → Option Int
def word_Compare.Ctr (s : word_Compare.Ty) : Prop := ∀ (x1 : List Int) (x2 : List Int) (r : Int), Ct (C := Unit) Tryd.prog 53 (s x1 x2 = some r) [] [(.a4 x1), (.a4 x2)] (fun _ => (.i r)) fun _ => []
def word_Compare.j1 (x1 : List Int) (x2 : List Int) (y1 : Int) : Option Int := if (0 : Int) ≤ y1 ∧ y1 < 4 then (if (decide ((rd x1 y1) < (rd x2 y1))) = true then (some (-1)) else (some 1)) else none
def word_Compare.b1 (x1 : List Int) (x2 : List Int) (rec1 : Int → Option Int) (y3 : Int) : Option Int := if (0 : Int) ≤ y3 ∧ y3 < 4 then (if ((rd x1 y3) == (rd x2 y3)) = true then (rec1 (wr .i64 (y3 - 1))) else (word_Compare.j1 x1 x2 y3)) else none
def word_Compare.l1 (x1 : List Int) (x2 : List Int) : Nat → Int → Option Int
  | 0, _ => none
  | q + 1, y3 => word_Compare.b1 x1 x2 (word_Compare.l1 x1 x2 q) y3
def word_Compare.f (k : Nat) (x1 : List Int) (x2 : List Int) : Option Int := if (decide (x1 = x2)) = true then (some 0) else (word_Compare.l1 x1 x2 k 3)
theorem word_Compare.ok (k : Nat) : word_Compare.Ctr (word_Compare.f k) := by
 intro x1 x2 r h0 mi w0 ok hm
 delta word_Compare.f at h0
 refine c_enterZ (n := 25) ok hm func53 rfl rfl rfl fun b0 hb a S => c_region (s_box S rfl rfl rfl fun g1 a w S => s_box S rfl rfl rfl fun g2 a w S => s_assign S rfl rfl fun a S => c_end (wp_seq (c_region (s_loada S rfl .h1 T26 (s' := [.w4 x1]) rfl rfl fun a S => s_loada S rfl .h T26 (s' := [.w4 x2]) rfl rfl fun a S => s_eqa S rfl rfl underlying26 underlying24 T24 Q26 rfl fun a S => c_end ?_))))
 rcases ite_of h0 with ⟨c1, h1⟩ | ⟨c1, h1⟩
 ·refine c_condT S rfl c1 (c_region (s_assign S rfl rfl fun a S => c_end (wp_ret (x_thenR ?_))))
  obtain rfl := Option.some.inj h1
  exact b_ret1 (d := (.i 0)) S rfl rfl (S.rt hb)
 ·refine c_condF S rfl c1 (wp_skip (x_thenN (c_region (s_assign S rfl rfl fun a S => c_end (wp_seq_k fun K1 hK1 => ?_)))))
  have j1 : ∀ m y1 g9 g10 a w, St 25 m b0 [(5, (.i y1)), (3, (.p g9)), (2, (.p g10))] [Res.cells g9 26 [.w4 x2], Res.cells g10 26 [.w4 x1]] a w → word_Compare.j1 x1 x2 y1 = some r → K1 a w := by
   intro m y1 g9 g10 a w S h0
   delta word_Compare.j1 at h0
   refine hK1 a w (wp_seq ?_)
   refine wp_seq (c_heldS S (.take 0 (.take 1 (.take 2 (.take 3 (.take 4 (.take 5 (.take 6 .done))))))) 7 [Res.cells g9 26 [.w4 x2], Res.cells g10 26 [.w4 x1]] (.c0 (.c0 .n)) ⟨Res.stay_cells, Res.stay_cells, trivial⟩ [(5, (.i y1)), (3, (.p g9)), (2, (.p g10))] (subR rfl) (by kernel_rfl) (by kernel_rfl) ?_); clear S; intro w S CL hw le
   refine h_move S CL hw le (subR rfl) rfl rfl rfl trivial fun a S CL => ?_
   obtain ⟨c2, h1⟩ := chk_of h0; clear h0
   refine h_iaddr S CL hw le (subR rfl) rfl rfl underlying26 T24 c2.1 c2.2 (mul1 _ _) rfl rfl trivial fun a S CL => h_loadi S CL hw le (subR rfl) (i := y1) rfl .h1 T24 .h rfl c2.1 c2.2 rfl rfl trivial fun a S CL => h_move S CL hw le (subR rfl) rfl rfl rfl trivial fun a S CL => h_iaddr S CL hw le (subR rfl) rfl rfl underlying26 T24 c2.1 c2.2 (mul1 _ _) rfl rfl trivial fun a S CL => h_loadi S CL hw le (subR rfl) (i := y1) rfl .h T24 .h rfl c2.1 c2.2 rfl rfl trivial fun a S CL => h_bin S CL hw le (subR rfl) rfl rfl rfl rfl rfl trivial fun a S CL => ?_
   refine h_done ?_; clear CL hw le
   refine x_thenN ?_
   rcases ite_of h1 with ⟨c3, h2⟩ | ⟨c3, h2⟩
   ·refine c_condT S rfl c3 (c_region (s_assign S rfl rfl fun a S => c_end (wp_ret (x_thenR ?_))))
    obtain rfl := Option.some.inj h2
    exact b_ret1 (d := (.i (-1))) S rfl rfl (S.rt hb)
   ·refine c_condF S rfl c3 (wp_skip (x_thenN (c_region (s_assign S rfl rfl fun a S => c_end (wp_ret ?_)))))
    obtain rfl := Option.some.inj h2
    exact b_ret1 (d := (.i 1)) S rfl rfl (S.rt hb)
  refine wp_block ?_
  refine c_loop (fun q1 a w => ∃ m y3 g15 g16, St 25 m b0 [(5, (.i y3)), (3, (.p g15)), (2, (.p g16))] [Res.cells g15 26 [.w4 x2], Res.cells g16 26 [.w4 x1]] a w ∧ word_Compare.l1 x1 x2 q1 y3 = some r) ?_ ?_ (k := k) ⟨_, 3, g2, g1, (S.sb rfl (.c0 (.c0 .n))), h1⟩
  ·rintro a w ⟨m, y3, g15, g16, S, h0⟩
   exact (nomatch (show (none : Option Int) = some r from h0))
  ·clear S h1
   rintro q1 a w ⟨m, y3, g15, g16, S, h0⟩
   replace h0 : word_Compare.b1 x1 x2 (word_Compare.l1 x1 x2 q1) y3 = some r := h0
   delta word_Compare.b1 at h0
   refine wp_seq ?_
   refine wp_seq (c_heldS S (.take 0 (.take 1 (.take 2 (.take 3 (.take 4 (.take 5 (.take 6 .done))))))) 7 [Res.cells g15 26 [.w4 x2], Res.cells g16 26 [.w4 x1]] (.c0 (.c0 .n)) ⟨Res.stay_cells, Res.stay_cells, trivial⟩ [(5, (.i y3)), (3, (.p g15)), (2, (.p g16))] (subR rfl) (by kernel_rfl) (by kernel_rfl) ?_); clear S; intro w S CL hw le
   refine h_move S CL hw le (subR rfl) rfl rfl rfl trivial fun a S CL => ?_
   obtain ⟨c4, h1⟩ := chk_of h0; clear h0
   refine h_iaddr S CL hw le (subR rfl) rfl rfl underlying26 T24 c4.1 c4.2 (mul1 _ _) rfl rfl trivial fun a S CL => h_loadi S CL hw le (subR rfl) (i := y3) rfl .h1 T24 .h rfl c4.1 c4.2 rfl rfl trivial fun a S CL => h_move S CL hw le (subR rfl) rfl rfl rfl trivial fun a S CL => h_iaddr S CL hw le (subR rfl) rfl rfl underlying26 T24 c4.1 c4.2 (mul1 _ _) rfl rfl trivial fun a S CL => h_loadi S CL hw le (subR rfl) (i := y3) rfl .h T24 .h rfl c4.1 c4.2 rfl rfl trivial fun a S CL => h_bin S CL hw le (subR rfl) rfl rfl rfl rfl rfl trivial fun a S CL => ?_
   refine h_done ?_; clear CL hw le
   refine x_thenN ?_
   rcases ite_of h1 with ⟨c5, h2⟩ | ⟨c5, h2⟩
   ·refine c_condT S rfl c5 (wp_skip (x_thenN (wp_block (c_region' (s_move S rfl rfl fun a S => s_bin S rfl rfl rfl rfl fun a S => s_assign S rfl rfl fun a S => c_end' (x_blockN (x_thenN ?_)))))))
    exact ⟨_, (wr .i64 (y3 - 1)), g15, g16, (S.sb rfl (.c0 (.c0 .n))), h2⟩
   ·refine c_condF S rfl c5 (wp_exit (x_thenX (x_thenX (x_blockX (x_thenN ?_)))))
    exact j1 _ y3 g15 g16 a w (S.sb rfl (.c0 (.c0 .n))) h2
abbrev word_Not.Ty : Type := (List Int) → Option ((List Int))
def word_Not.Ctr (s : word_Not.Ty) : Prop := ∀ (x1 : List Int) (r : (List Int)), Ct (C := Unit) Tryd.prog 76 (s x1 = some r) [] [(.a4 x1)] (fun _ => (.a4 r)) fun _ => []
def word_Not.f (x1 : List Int) : Option ((List Int)) := some [bnot .u64 (rd x1 0), bnot .u64 (rd x1 1), bnot .u64 (rd x1 2), bnot .u64 (rd x1 3)]
theorem word_Not.ok : word_Not.Ctr (word_Not.f) := by
 intro x1 r h0 mi w0 ok hm
 delta word_Not.f at h0
 refine c_enterZ (n := 16) ok hm func76 rfl rfl rfl fun b0 hb a S => c_region (s_box S rfl rfl rfl fun g1 a w S => s_alloc S Z26 rfl ⟨rfl, trivial⟩ rfl fun g2 a w S => c_end (c_region (s_iaddr S (o' := 0) rfl rfl underlying26 T24 (by decide) (by decide) rfl rfl fun a S => s_loadi S (i := 0) rfl .h1 T24 .h rfl (by decide) (by decide) rfl fun a S => s_un S rfl rfl rfl fun a S => s_iaddr S (o' := 1) rfl rfl underlying26 T24 (by decide) (by decide) rfl rfl fun a S => s_loadi S (i := 1) rfl .h1 T24 .h rfl (by decide) (by decide) rfl fun a S => s_un S rfl rfl rfl fun a S => s_iaddr S (o' := 2) rfl rfl underlying26 T24 (by decide) (by decide) rfl rfl fun a S => s_loadi S (i := 2) rfl .h1 T24 .h rfl (by decide) (by decide) rfl fun a S => s_un S rfl rfl rfl fun a S => s_iaddr S (o' := 3) rfl rfl underlying26 T24 (by decide) (by decide) rfl rfl fun a S => s_loadi S (i := 3) rfl .h1 T24 .h rfl (by decide) (by decide) rfl fun a S => s_un S rfl rfl rfl fun a S => s_build S (ds := [(0, (.w (bnot .u64 (rd x1 0)))), (1, (.w (bnot .u64 (rd x1 1)))), (2, (.w (bnot .u64 (rd x1 2)))), (3, (.w (bnot .u64 (rd x1 3))))]) (dv := (.a4 [bnot .u64 (rd x1 0), bnot .u64 (rd x1 1), bnot .u64 (rd x1 2), bnot .u64 (rd x1 3)])) rfl (fun _ => by kernel_rfl) ⟨rfl, trivial⟩ rfl fun a S => s_store S rfl rfl rfl (s' := [.w4 [bnot .u64 (rd x1 0), bnot .u64 (rd x1 1), bnot .u64 (rd x1 2), bnot .u64 (rd x1 3)]]) .h T26 rfl rfl fun w S => c_end (wp_ret ?_))))
 obtain rfl := Option.some.inj h0
 exact b_ret1 (d := (.a4 [bnot .u64 (rd x1 0), bnot .u64 (rd x1 1), bnot .u64 (rd x1 2), bnot .u64 (rd x1 3)])) S rfl (resD_cell rfl .h T26 rfl rfl) (S.rt hb)
abbrev fee_ones.Ty : Type := Option ((List Int))
def fee_ones.Ctr (s : fee_ones.Ty) : Prop := ∀ (r : (List Int)), Ct (C := Unit) Tryd.prog 56 (s = some r) [] [] (fun _ => (.a4 r)) fun _ => []
def fee_ones.f : Option ((List Int)) := (word_Not.f [0, 0, 0, 0]).bind fun t1 => (some t1)
theorem fee_ones.ok : fee_ones.Ctr (fee_ones.f) := by
 intro r h0 mi w0 ok hm
 delta fee_ones.f at h0
 refine c_enterZ (n := 3) ok hm func56 rfl rfl rfl fun b0 hb a S => c_region (s_alloc S Z26 rfl ⟨rfl, trivial⟩ rfl fun g1 a w S => c_end (c_region (s_build S (ds := []) (dv := (.a4 [0, 0, 0, 0])) rfl (fun _ => by kernel_rfl) ⟨rfl, trivial⟩ rfl fun a S => bindX h0 fun t1 et1 h1 => s_callP S _ N76 rfl rfl (word_Not.ok [0, 0, 0, 0] t1 et1 _ _) fun ch1 m le1 a w S => s_store S rfl rfl rfl (s' := [.w4 t1]) .h T26 rfl rfl fun w S => c_end (wp_ret ?_))))
 obtain rfl := Option.some.inj h1
 exact b_ret1 (d := (.a4 t1)) S rfl (resD_cell rfl .h T26 rfl rfl) (S.rt hb)
abbrev word_part.Ty : Type := (List Int) → Int → Option Int
def word_part.Ctr (s : word_part.Ty) : Prop := ∀ (x1 : List Int) (x2 : Int) (r : Int), Ct (C := Unit) Tryd.prog 95 (s x1 x2 = some r) [] [(.a4 x1), (.i x2)] (fun _ => (.w r)) fun _ => []
def word_part.j1 (x1 : List Int) (x2 : Int) (y1 : Bool) : Option Int := if y1 = true then (some 0) else (if (0 : Int) ≤ x2 ∧ x2 < 4 then (some (rd x1 x2)) else none)
def word_part.f (x1 : List Int) (x2 : Int) : Option Int := if (decide (x2 < 0)) = true then (word_part.j1 x1 x2 true) else (word_part.j1 x1 x2 (decide (3 < x2)))
theorem word_part.ok : word_part.Ctr (word_part.f) := by
 intro x1 x2 r h0 mi w0 ok hm
 delta word_part.f at h0
 refine c_enterZ (n := 14) ok hm func95 rfl rfl rfl fun b0 hb a S => c_region (s_box S rfl rfl rfl fun g1 a w S => s_assign S rfl rfl fun a S => c_end (wp_seq (wp_seq_k fun K1 hK1 => ?_)))
 have j1 : ∀ m y1 g2 a w, St 14 m b0 [(10, (.b y1)), (2, (.p g2)), (1, (.i x2))] [Res.cells g2 26 [.w4 x1]] a w → word_part.j1 x1 x2 y1 = some r → K1 a w := by
  intro m y1 g2 a w S h0
  delta word_part.j1 at h0
  refine hK1 a w ?_
  rcases ite_of h0 with ⟨c1, h1⟩ | ⟨c1, h1⟩
  ·refine c_condT S rfl c1 (c_region (s_assign S rfl rfl fun a S => c_end (wp_ret (x_thenR ?_))))
   obtain rfl := Option.some.inj h1
   exact b_ret1 (d := (.w 0)) S rfl rfl (S.rt hb)
  ·refine c_condF S rfl c1 (wp_skip (x_thenN (c_region (s_move S rfl rfl fun a S => ?_))))
   obtain ⟨c2, h2⟩ := chk_of h1; clear h1
   refine s_iaddr S rfl rfl underlying26 T24 c2.1 c2.2 (mul1 _ _) rfl fun a S => s_loadi S (i := x2) rfl .h T24 .h rfl c2.1 c2.2 rfl fun a S => s_assign S rfl rfl fun a S => c_end (wp_ret ?_)
   obtain rfl := Option.some.inj h2
   exact b_ret1 (d := (.w (rd x1 x2))) S rfl rfl (S.rt hb)
 refine c_region' (s_move S rfl rfl fun a S => s_bin S rfl rfl rfl rfl fun a S => s_move S rfl rfl fun a S => ?_)
 rcases ite_of h0 with ⟨c3, h1⟩ | ⟨c3, h1⟩
 ·refine s_gF S (b := (decide (x2 < 0))) rfl rfl c3 rfl fun a S => s_gF S (b := (decide (x2 < 0))) rfl rfl c3 rfl fun a S => s_pick S (b := true) (hc_of rfl c3) rfl rfl fun a S => c_end' (x_thenN ?_)
  exact j1 _ true g1 a w (S.sb rfl (.c0 .n)) h1
 ·refine s_gT S (b := (decide (x2 < 0))) rfl rfl c3 (s_move S rfl rfl fun a S => s_gT S (b := (decide (x2 < 0))) rfl rfl c3 (s_bin S rfl rfl rfl rfl fun a S => s_pick S (b := false) (hc_of rfl c3) rfl rfl fun a S => c_end' (x_thenN ?_)))
  exact j1 _ (decide (3 < x2)) g1 a w (S.sb rfl (.c0 .n)) h1
abbrev word_Shl.Ty : Type := (List Int) → Int → Option ((List Int))
def word_Shl.Ctr (s : word_Shl.Ty) : Prop := ∀ (x1 : List Int) (x2 : Int) (r : (List Int)), Ct (C := Unit) Tryd.prog 90 (s x1 x2 = some r) [] [(.a4 x1), (.w x2)] (fun _ => (.a4 r)) fun _ => []
def word_Shl.j1 (y1 : List Int) : Option ((List Int)) := some y1
def word_Shl.b1 (x1 : List Int) (x2 : Int) (rec1 : Int → (List Int) → Option ((List Int))) (y4 : Int) (y5 : List Int) : Option ((List Int)) := if (decide (y4 < 4)) = true then ((word_part.f x1 (wr .i64 (y4 - (wr .i64 (wr .u64 (Int.tdiv x2 64)))))).bind fun t1 => (if (0 : Int) ≤ (Int.tmod x2 64) then ((word_part.f x1 (wr .i64 ((wr .i64 (y4 - (wr .i64 (wr .u64 (Int.tdiv x2 64))))) - 1))).bind fun t2 => (if (0 : Int) ≤ (wr .u64 (64 - (Int.tmod x2 64))) then (if (0 : Int) ≤ y4 ∧ y4 < 4 then (rec1 (wr .i64 (y4 + 1)) (y5.set (Int.toNat y4) (bits .or .u64 (shl .u64 t1 (min (Int.toNat (Int.tmod x2 64)) 64)) (shr t2 (min (Int.toNat (wr .u64 (64 - (Int.tmod x2 64)))) 64))))) else none) else none)) else none)) else (word_Shl.j1 y5)
def word_Shl.l1 (x1 : List Int) (x2 : Int) : Nat → Int → (List Int) → Option ((List Int))
  | 0, _, _ => none
  | q + 1, y4, y5 => word_Shl.b1 x1 x2 (word_Shl.l1 x1 x2 q) y4 y5
def word_Shl.f (k : Nat) (x1 : List Int) (x2 : Int) : Option ((List Int)) := if (decide (256 ≤ x2)) = true then (some [0, 0, 0, 0]) else (word_Shl.l1 x1 x2 k 0 [0, 0, 0, 0])
theorem word_Shl.ok (k : Nat) : word_Shl.Ctr (word_Shl.f k) := by
 intro x1 x2 r h0 mi w0 ok hm
 delta word_Shl.f at h0
 refine c_enterZ (n := 41) ok hm func90 rfl rfl rfl fun b0 hb a S => c_region (s_box S rfl rfl rfl fun g1 a w S => s_alloc S Z26 rfl ⟨rfl, trivial⟩ rfl fun g2 a w S => c_end (wp_seq (c_region (s_move S rfl rfl fun a S => s_bin S rfl rfl rfl rfl fun a S => c_end ?_))))
 rcases ite_of h0 with ⟨c1, h1⟩ | ⟨c1, h1⟩
 ·refine c_condT S rfl c1 (c_region (s_build S (ds := []) (dv := (.a4 [0, 0, 0, 0])) rfl (fun _ => by kernel_rfl) ⟨rfl, trivial⟩ rfl fun a S => s_store S rfl rfl rfl (s' := [.w4 [0, 0, 0, 0]]) .h T26 rfl rfl fun w S => c_end (wp_ret (x_thenR ?_))))
  obtain rfl := Option.some.inj h1
  exact b_ret1 (d := (.a4 [0, 0, 0, 0])) S rfl (resD_cell rfl .h T26 rfl rfl) (S.rt hb)
 ·refine c_condF S rfl c1 (wp_skip (x_thenN (c_region (s_move S rfl rfl fun a S => s_quo S rfl rfl (by decide) rfl fun a S => s_conv S rfl rfl underlying3 rfl fun a S => s_move S rfl rfl fun a S => s_rem S rfl rfl (by decide) rfl fun a S => s_assign S rfl rfl fun a S => s_assign S rfl rfl fun a S => c_end (c_region (s_alloc S Z26 rfl ⟨rfl, trivial⟩ rfl fun g3 a w S => c_end (wp_seq_k fun K1 hK1 => ?_)))))))
  have j1 : ∀ m g13 g14 y1 a w, St 41 m b0 [(7, (.p g13)), (4, (.p g14))] [Res.cells g13 26 [.w4 y1], Res.cells g14 26 [.w4 [0, 0, 0, 0]]] a w → word_Shl.j1 y1 = some r → K1 a w := by
   intro m g13 g14 y1 a w S h0
   delta word_Shl.j1 at h0
   refine hK1 a w (c_region (s_loada S rfl .h T26 (s' := [.w4 y1]) rfl rfl fun a S => s_store S rfl rfl rfl (s' := [.w4 y1]) .h1 T26 rfl rfl fun w S => c_end (wp_ret ?_)))
   obtain rfl := Option.some.inj h0
   exact b_ret1 (d := (.a4 y1)) S rfl (resD_cell rfl .h1 T26 rfl rfl) (S.rt hb)
  refine c_region (s_move S rfl rfl fun a S => c_end (wp_block ?_))
  refine c_loop (fun q1 a w => ∃ m y4 g21 g22 g23 y5, St 41 m b0 [(17, (.i y4)), (7, (.p g21)), (6, (.w (Int.tmod x2 64))), (5, (.i (wr .i64 (wr .u64 (Int.tdiv x2 64))))), (4, (.p g22)), (2, (.p g23))] [Res.cells g21 26 [.w4 y5], Res.cells g22 26 [.w4 [0, 0, 0, 0]], Res.cells g23 26 [.w4 x1]] a w ∧ word_Shl.l1 x1 x2 q1 y4 y5 = some r) ?_ ?_ (k := k) ⟨_, 0, g3, g2, g1, [0, 0, 0, 0], (S.sb rfl (.c0 (.c0 (.c0 .n)))), h1⟩
  ·rintro a w ⟨m, y4, g21, g22, g23, y5, S, h0⟩
   exact (nomatch (show (none : Option ((List Int))) = some r from h0))
  ·clear S h1
   rintro q1 a w ⟨m, y4, g21, g22, g23, y5, S, h0⟩
   replace h0 : word_Shl.b1 x1 x2 (word_Shl.l1 x1 x2 q1) y4 y5 = some r := h0
   delta word_Shl.b1 at h0
   refine c_region (s_bin S rfl rfl rfl rfl fun a S => c_end (wp_seq ?_))
   rcases ite_of h0 with ⟨c2, h1⟩ | ⟨c2, h1⟩
   ·refine c_condT S rfl c2 (wp_skip (x_thenN (wp_seq (wp_block (c_region (s_move S rfl rfl fun a S => s_assign S rfl rfl fun a S => c_end (c_heldS S (.take 0 (.take 1 (.take 2 (.take 3 (.take 4 (.take 6 (.take 8 (.take 9 (.take 10 (.take 11 (.take 12 (.take 14 (.take 15 (.alts (.run 5 true (.take 7 (.alts (.run 13 true (.take 16 (.take 17 (.take 18 (.alts (.run 19 false .done .nil))))) .nil))) .nil))))))))))))))) 19 [Res.cells g21 26 [.w4 y5], Res.cells g22 26 [.w4 [0, 0, 0, 0]], Res.cells g23 26 [.w4 x1]] (.c0 (.c0 (.c0 .n))) ⟨Res.stay_cells, Res.stay_cells, Res.stay_cells, trivial⟩ [(8, (.i y4)), (7, (.p g21)), (6, (.w (Int.tmod x2 64))), (5, (.i (wr .i64 (wr .u64 (Int.tdiv x2 64))))), (2, (.p g23))] (subR rfl) (by kernel_rfl) (by kernel_rfl) fun w S CL hw le => ?_)))))))
    refine h_move S CL hw le (subR rfl) rfl rfl rfl trivial fun a S CL => h_loada S CL hw le (subR rfl) rfl .h2 T26 (s' := [.w4 x1]) rfl rfl rfl trivial fun a S CL => h_move S CL hw le (subR rfl) rfl rfl rfl trivial fun a S CL => h_move S CL hw le (subR rfl) rfl rfl rfl trivial fun a S CL => h_bin S CL hw le (subR rfl) rfl rfl rfl rfl rfl trivial fun a S CL => h_move S CL hw le (subR rfl) rfl rfl rfl trivial fun a S CL => h_loada S CL hw le (subR rfl) rfl .h2 T26 (s' := [.w4 x1]) rfl rfl rfl trivial fun a S CL => h_move S CL hw le (subR rfl) rfl rfl rfl trivial fun a S CL => h_move S CL hw le (subR rfl) rfl rfl rfl trivial fun a S CL => h_bin S CL hw le (subR rfl) rfl rfl rfl rfl rfl trivial fun a S CL => h_bin S CL hw le (subR rfl) rfl rfl rfl rfl rfl trivial fun a S CL => h_move S CL hw le (subR rfl) rfl rfl rfl trivial fun a S CL => h_bin S CL hw le (subR rfl) rfl rfl rfl rfl rfl trivial fun a S CL => h_run' S rfl trivial (bindX h1 fun t1 et1 h2 => s_callP S _ N95 rfl rfl (word_part.ok x1 (wr .i64 (y4 - (wr .i64 (wr .u64 (Int.tdiv x2 64))))) t1 et1 _ _) fun ch1 m le1 a w S => ?_)
    replace le := le.trans le1
    replace hw := CL.again hw S (.c0 (.c0 (.c0 .n))) le
    refine h_back ⟨fun _ => hw, ?_⟩
    replace CL := CL.add (t := 25) (d := (.w t1)) S rfl rfl
    obtain ⟨c3, h3⟩ := chk_of h2; clear h2
    refine h_shl S CL hw le (subR rfl) (e := (min (Int.toNat (Int.tmod x2 64)) 64)) rfl rfl c3 rfl rfl rfl trivial fun a S CL => h_run' S rfl trivial (bindX h3 fun t2 et2 h4 => s_callP S _ N95 rfl rfl (word_part.ok x1 (wr .i64 ((wr .i64 (y4 - (wr .i64 (wr .u64 (Int.tdiv x2 64))))) - 1)) t2 et2 _ _) fun ch2 m le1 a w S => ?_)
    replace le := le.trans le1
    replace hw := CL.again hw S (.c0 (.c0 (.c0 .n))) le
    refine h_back ⟨fun _ => hw, ?_⟩
    replace CL := CL.add (t := 33) (d := (.w t2)) S rfl rfl
    obtain ⟨c4, h5⟩ := chk_of h4; clear h4
    refine h_shr S CL hw le (subR rfl) (e := (min (Int.toNat (wr .u64 (64 - (Int.tmod x2 64)))) 64)) rfl rfl c4 rfl rfl rfl trivial fun a S CL => h_bin S CL hw le (subR rfl) rfl rfl rfl rfl rfl trivial fun a S CL => ?_
    obtain ⟨c5, h6⟩ := chk_of h5; clear h5
    refine h_iaddr S CL hw le (subR rfl) rfl rfl underlying26 T24 c5.1 c5.2 (mul1 _ _) rfl rfl trivial fun a S CL => h_run' S rfl trivial (s_storei S (i := y4) rfl rfl .h T24 .h rfl c5.1 c5.2 fun w S => ?_)
    refine h_back ⟨fun h => (nomatch h), ?_⟩
    refine h_done ?_; clear CL hw le
    refine x_blockN (x_thenN (c_region' (s_bin S rfl rfl rfl rfl fun a S => s_move S rfl rfl fun a S => c_end' (x_thenN ?_))))
    exact ⟨_, (wr .i64 (y4 + 1)), g21, g22, g23, (y5.set (Int.toNat y4) (bits .or .u64 (shl .u64 t1 (min (Int.toNat (Int.tmod x2 64)) 64)) (shr t2 (min (Int.toNat (wr .u64 (64 - (Int.tmod x2 64)))) 64)))), (S.sb rfl (.c0 (.c0 (.c0 .n)))), h6⟩
   ·refine c_condF S rfl c2 (wp_exit (x_thenX (x_thenX (x_blockX (x_thenN ?_)))))
    exact j1 _ g21 g22 y5 a w (S.sb rfl (.c0 (.c0 .n))) h1
abbrev word_Bit.Ty : Type := (List Int) → Int → Option Bool
def word_Bit.Ctr (s : word_Bit.Ty) : Prop := ∀ (x1 : List Int) (x2 : Int) (r : Bool), Ct (C := Unit) Tryd.prog 91 (s x1 x2 = some r) [] [(.a4 x1), (.w x2)] (fun _ => (.b r)) fun _ => []
def word_Bit.f (x1 : List Int) (x2 : Int) : Option Bool := if (decide (x2 < 256)) = true then (if (0 : Int) ≤ (wr .u64 (Int.tdiv x2 64)) ∧ (wr .u64 (Int.tdiv x2 64)) < 4 then (if (0 : Int) ≤ (Int.tmod x2 64) then (some ((bits .and .u64 (shr (rd x1 (wr .u64 (Int.tdiv x2 64))) (min (Int.toNat (Int.tmod x2 64)) 64)) 1) == 1)) else none) else none) else (some false)
theorem word_Bit.ok : word_Bit.Ctr (word_Bit.f) := by
 intro x1 x2 r h0 mi w0 ok hm
 delta word_Bit.f at h0
 refine c_enterZ (n := 18) ok hm func91 rfl rfl rfl fun b0 hb a S => c_region (s_box S rfl rfl rfl fun g1 a w S => s_assign S rfl rfl fun a S => c_end (c_region (s_move S rfl rfl fun a S => s_bin S rfl rfl rfl rfl fun a S => s_move S rfl rfl fun a S => ?_)))
 rcases ite_of h0 with ⟨c1, h1⟩ | ⟨c1, h1⟩
 ·refine s_gT S (b := (decide (x2 < 256))) rfl rfl c1 (s_move S rfl rfl fun a S => s_gT S (b := (decide (x2 < 256))) rfl rfl c1 (s_quo S rfl rfl (by decide) rfl fun a S => s_gT S (b := (decide (x2 < 256))) rfl rfl c1 ?_))
  obtain ⟨c2, h2⟩ := chk_of h1; clear h1
  refine s_iaddr S rfl rfl underlying26 T24 c2.1 c2.2 (mul1 _ _) rfl fun a S => s_gT S (b := (decide (x2 < 256))) rfl rfl c1 (s_loadi S (i := (wr .u64 (Int.tdiv x2 64))) rfl .h T24 .h rfl c2.1 c2.2 rfl fun a S => s_gT S (b := (decide (x2 < 256))) rfl rfl c1 (s_move S rfl rfl fun a S => s_gT S (b := (decide (x2 < 256))) rfl rfl c1 (s_rem S rfl rfl (by decide) rfl fun a S => s_gT S (b := (decide (x2 < 256))) rfl rfl c1 ?_)))
  obtain ⟨c3, h3⟩ := chk_of h2; clear h2
  refine s_shr S (e := (min (Int.toNat (Int.tmod x2 64)) 64)) rfl rfl c3 rfl rfl fun a S => s_gT S (b := (decide (x2 < 256))) rfl rfl c1 (s_bin S rfl rfl rfl rfl fun a S => s_gT S (b := (decide (x2 < 256))) rfl rfl c1 (s_bin S rfl rfl rfl rfl fun a S => s_pick S (b := true) (hc_of rfl c1) rfl rfl fun a S => s_assign S rfl rfl fun a S => c_end (wp_ret ?_)))
  obtain rfl := Option.some.inj h3
  exact b_ret1 (d := (.b ((bits .and .u64 (shr (rd x1 (wr .u64 (Int.tdiv x2 64))) (min (Int.toNat (Int.tmod x2 64)) 64)) 1) == 1))) S rfl rfl (S.rt hb)
 ·refine s_gF S (b := (decide (x2 < 256))) rfl rfl c1 rfl fun a S => s_gF S (b := (decide (x2 < 256))) rfl rfl c1 rfl fun a S => s_gF S (b := (decide (x2 < 256))) rfl rfl c1 rfl fun a S => s_gF S (b := (decide (x2 < 256))) rfl rfl c1 rfl fun a S => s_gF S (b := (decide (x2 < 256))) rfl rfl c1 rfl fun a S => s_gF S (b := (decide (x2 < 256))) rfl rfl c1 rfl fun a S => s_gF S (b := (decide (x2 < 256))) rfl rfl c1 rfl fun a S => s_gF S (b := (decide (x2 < 256))) rfl rfl c1 rfl fun a S => s_gF S (b := (decide (x2 < 256))) rfl rfl c1 rfl fun a S => s_pick S (b := false) (hc_of rfl c1) rfl rfl fun a S => s_assign S rfl rfl fun a S => c_end (wp_ret ?_)
  obtain rfl := Option.some.inj h1
  exact b_ret1 (d := (.b false)) S rfl rfl (S.rt hb)
abbrev word_Sub.Ty : Type := (List Int) → (List Int) → Option ((List Int))
def word_Sub.Ctr (s : word_Sub.Ty) : Prop := ∀ (x1 : List Int) (x2 : List Int) (r : (List Int)), Ct (C := Unit) Tryd.prog 54 (s x1 x2 = some r) [] [(.a4 x1), (.a4 x2)] (fun _ => (.a4 r)) fun _ => []
def word_Sub.j1 (y1 : List Int) : Option ((List Int)) := some y1
def word_Sub.b1 (x1 : List Int) (x2 : List Int) (rec1 : Int → Int → (List Int) → Option ((List Int))) (y5 : Int) (y6 : Int) (y7 : List Int) : Option ((List Int)) := if (decide (y5 < 4)) = true then (if (0 : Int) ≤ y5 ∧ y5 < 4 then (if (0 : Int) ≤ (rd x1 y5) ∧ ((0 : Int) ≤ (rd x2 y5) ∧ ((rd x2 y5) : Int) < 18446744073709551616) ∧ (0 : Int) ≤ y6 ∧ (y6 : Int) ≤ 1 then (rec1 (wr .i64 (y5 + 1)) (if (rd x1 y5) < (rd x2 y5) + y6 then 1 else 0) (y7.set (Int.toNat y5) (((rd x1 y5) - (rd x2 y5) - y6) % 18446744073709551616))) else none) else none) else (word_Sub.j1 y7)
def word_Sub.l1 (x1 : List Int) (x2 : List Int) : Nat → Int → Int → (List Int) → Option ((List Int))
  | 0, _, _, _ => none
  | q + 1, y5, y6, y7 => word_Sub.b1 x1 x2 (word_Sub.l1 x1 x2 q) y5 y6 y7
def word_Sub.f (k : Nat) (x1 : List Int) (x2 : List Int) : Option ((List Int)) := word_Sub.l1 x1 x2 k 0 0 [0, 0, 0, 0]
theorem word_Sub.ok (k : Nat) : word_Sub.Ctr (word_Sub.f k) := by
 intro x1 x2 r h0 mi w0 ok hm
 delta word_Sub.f at h0
 refine c_enterZ (n := 30) ok hm func54 rfl rfl rfl fun b0 hb a S => c_region (s_box S rfl rfl rfl fun g1 a w S => s_box S rfl rfl rfl fun g2 a w S => s_alloc S Z26 rfl ⟨rfl, trivial⟩ rfl fun g3 a w S => c_end (c_region (s_alloc S Z26 rfl ⟨rfl, trivial⟩ rfl fun g4 a w S => c_end (c_region (s_assign S rfl rfl fun a S => c_end (wp_seq_k fun K1 hK1 => ?_))))))
 have j1 : ∀ m g17 g18 y1 a w, St 30 m b0 [(5, (.p g17)), (4, (.p g18))] [Res.cells g17 26 [.w4 y1], Res.cells g18 26 [.w4 [0, 0, 0, 0]]] a w → word_Sub.j1 y1 = some r → K1 a w := by
  intro m g17 g18 y1 a w S h0
  delta word_Sub.j1 at h0
  refine hK1 a w (c_region (s_loada S rfl .h T26 (s' := [.w4 y1]) rfl rfl fun a S => s_store S rfl rfl rfl (s' := [.w4 y1]) .h1 T26 rfl rfl fun w S => c_end (wp_ret ?_)))
  obtain rfl := Option.some.inj h0
  exact b_ret1 (d := (.a4 y1)) S rfl (resD_cell rfl .h1 T26 rfl rfl) (S.rt hb)
 refine c_region (s_move S rfl rfl fun a S => c_end (wp_block ?_))
 refine c_loop (fun q1 a w => ∃ m y5 y6 g27 g28 g29 g30 y7, St 30 m b0 [(10, (.i y5)), (6, (.w y6)), (5, (.p g27)), (4, (.p g28)), (3, (.p g29)), (2, (.p g30))] [Res.cells g27 26 [.w4 y7], Res.cells g28 26 [.w4 [0, 0, 0, 0]], Res.cells g29 26 [.w4 x2], Res.cells g30 26 [.w4 x1]] a w ∧ word_Sub.l1 x1 x2 q1 y5 y6 y7 = some r) ?_ ?_ (k := k) ⟨_, 0, 0, g4, g3, g2, g1, [0, 0, 0, 0], (S.sb rfl (.c0 (.c0 (.c0 (.c0 .n))))), h0⟩
 ·rintro a w ⟨m, y5, y6, g27, g28, g29, g30, y7, S, h0⟩
  exact (nomatch (show (none : Option ((List Int))) = some r from h0))
 ·clear S h0
  rintro q1 a w ⟨m, y5, y6, g27, g28, g29, g30, y7, S, h0⟩
  replace h0 : word_Sub.b1 x1 x2 (word_Sub.l1 x1 x2 q1) y5 y6 y7 = some r := h0
  delta word_Sub.b1 at h0
  refine c_region (s_bin S rfl rfl rfl rfl fun a S => c_end (wp_seq ?_))
  rcases ite_of h0 with ⟨c1, h1⟩ | ⟨c1, h1⟩
  ·refine c_condT S rfl c1 (wp_skip (x_thenN (wp_seq (wp_block (c_region (s_move S rfl rfl fun a S => s_assign S rfl rfl fun a S => c_end ?_))))))
   refine wp_seq (c_heldS S (.take 0 (.take 1 (.take 2 (.take 3 (.take 4 (.take 5 (.take 6 (.alts (.run 7 true (.take 8 (.take 9 (.take 10 (.take 11 (.take 12 .done))))) .nil))))))))) 13 [Res.cells g27 26 [.w4 y7], Res.cells g28 26 [.w4 [0, 0, 0, 0]], Res.cells g29 26 [.w4 x2], Res.cells g30 26 [.w4 x1]] (.c0 (.c0 (.c0 (.c0 .n)))) ⟨Res.stay_cells, Res.stay_cells, Res.stay_cells, Res.stay_cells, trivial⟩ [(7, (.i y5)), (6, (.w y6)), (3, (.p g29)), (2, (.p g30))] (subR rfl) (by kernel_rfl) (by kernel_rfl) ?_); clear S; intro w S CL hw le
   refine h_move S CL hw le (subR rfl) rfl rfl rfl trivial fun a S CL => ?_
   obtain ⟨c2, h2⟩ := chk_of h1; clear h1
   refine h_iaddr S CL hw le (subR rfl) rfl rfl underlying26 T24 c2.1 c2.2 (mul1 _ _) rfl rfl trivial fun a S CL => h_loadi S CL hw le (subR rfl) (i := y5) rfl .h3 T24 .h rfl c2.1 c2.2 rfl rfl trivial fun a S CL => h_move S CL hw le (subR rfl) rfl rfl rfl trivial fun a S CL => h_iaddr S CL hw le (subR rfl) rfl rfl underlying26 T24 c2.1 c2.2 (mul1 _ _) rfl rfl trivial fun a S CL => h_loadi S CL hw le (subR rfl) (i := y5) rfl .h2 T24 .h rfl c2.1 c2.2 rfl rfl trivial fun a S CL => h_move S CL hw le (subR rfl) rfl rfl rfl trivial fun a S CL => h_run' S rfl trivial ?_
   obtain ⟨c3, h3⟩ := chk_of h2; clear h2
   refine s_extSub S X74 rfl rfl rfl c3 rfl fun a S => ?_
   replace hw := CL.again hw S (.c0 (.c0 (.c0 (.c0 .n)))) le
   refine h_back ⟨fun _ => hw, ?_⟩
   replace CL := CL.add (t := 21) (d := (.tup [(false, [.w (((rd x1 y5) - (rd x2 y5) - y6) % 18446744073709551616)]), (false, [.w (if (rd x1 y5) < (rd x2 y5) + y6 then 1 else 0)])])) S rfl rfl
   refine h_move S CL hw le (subR rfl) rfl rfl rfl trivial fun a S CL => h_extract S CL hw le (subR rfl) rfl rfl rfl rfl rfl trivial fun a S CL => h_extract S CL hw le (subR rfl) rfl rfl rfl rfl rfl trivial fun a S CL => h_assign S CL hw le (subR rfl) rfl rfl rfl trivial fun a S CL => h_assign S CL hw le (subR rfl) rfl rfl rfl trivial fun a S CL => ?_
   refine h_done ?_; clear CL hw le
   refine x_thenN (c_region (s_move S rfl rfl fun a S => s_move S rfl rfl fun a S => s_iaddr S rfl rfl underlying26 T24 c2.1 c2.2 (mul1 _ _) rfl fun a S => s_storei S (i := y5) rfl rfl .h T24 .h rfl c2.1 c2.2 fun w S => c_end (c_region' (s_move S rfl rfl fun a S => s_assign S rfl rfl fun a S => c_end' (x_blockN (x_thenN (c_region' (s_bin S rfl rfl rfl rfl fun a S => s_move S rfl rfl fun a S => c_end' (x_thenN ?_)))))))))
   exact ⟨_, (wr .i64 (y5 + 1)), (if (rd x1 y5) < (rd x2 y5) + y6 then 1 else 0), g27, g28, g29, g30, (y7.set (Int.toNat y5) (((rd x1 y5) - (rd x2 y5) - y6) % 18446744073709551616)), (S.sb rfl (.c0 (.c0 (.c0 (.c0 .n))))), h3⟩
  ·refine c_condF S rfl c1 (wp_exit (x_thenX (x_thenX (x_blockX (x_thenN ?_)))))
   exact j1 _ g27 g28 y7 a w (S.sb rfl (.c0 (.c0 .n))) h1
abbrev fee_quotient.Ty : Type := (List Int) → (List Int) → (List Int) → Option ((List Int))
def fee_quotient.Ctr (s : fee_quotient.Ty) : Prop := ∀ (x1 : List Int) (x2 : List Int) (x3 : List Int) (r : (List Int)), Ct (C := Unit) Tryd.prog 73 (s x1 x2 x3 = some r) [] [(.a4 x1), (.a4 x2), (.a4 x3)] (fun _ => (.a4 r)) fun _ => []
def fee_quotient.j1 (y1 : List Int) : Option ((List Int)) := some y1
def fee_quotient.j2 (y11 : Int) (rec1 : Int → (List Int) → (List Int) → Option ((List Int))) (y15 : List Int) (y16 : List Int) : Option ((List Int)) := rec1 (wr .i64 (y11 - 1)) y15 y16
def fee_quotient.j3 (k : Nat) (x3 : List Int) (y11 : Int) (y13 : List Int) (rec1 : Int → (List Int) → (List Int) → Option ((List Int))) (y17 : List Int) : Option ((List Int)) := (word_Compare.f k y17 x3).bind fun t9 => (if (decide (0 ≤ t9)) = true then ((word_Sub.f k y17 x3).bind fun t10 => (if (0 : Int) ≤ (wr .i64 (Int.tdiv y11 64)) ∧ (wr .i64 (Int.tdiv y11 64)) < 4 then (if (0 : Int) ≤ (Int.tmod y11 64) then (fee_quotient.j2 y11 rec1 t10 (y13.set (Int.toNat (wr .i64 (Int.tdiv y11 64))) (bits .or .u64 (rd y13 (wr .i64 (Int.tdiv y11 64))) (shl .u64 1 (min (Int.toNat (Int.tmod y11 64)) 64))))) else none) else none)) else (fee_quotient.j2 y11 rec1 y17 y13))
def fee_quotient.b1 (k : Nat) (x1 : List Int) (x3 : List Int) (rec1 : Int → (List Int) → (List Int) → Option ((List Int))) (y11 : Int) (y12 : List Int) (y13 : List Int) : Option ((List Int)) := if (decide (0 ≤ y11)) = true then ((word_Shl.f k y12 1).bind fun t7 => ((word_Bit.f x1 (wr .u64 y11)).bind fun t11 => (if t11 = true then (fee_quotient.j3 k x3 y11 y13 rec1 (t7.set (Int.toNat 0) (bits .or .u64 (rd t7 0) 1))) else (fee_quotient.j3 k x3 y11 y13 rec1 t7)))) else (fee_quotient.j1 y13)
def fee_quotient.l1 (k : Nat) (x1 : List Int) (x3 : List Int) : Nat → Int → (List Int) → (List Int) → Option ((List Int))
  | 0, _, _, _ => none
  | q + 1, y11, y12, y13 => fee_quotient.b1 k x1 x3 (fee_quotient.l1 k x1 x3 q) y11 y12 y13
def fee_quotient.f (k : Nat) (x1 : List Int) (x2 : List Int) (x3 : List Int) : Option ((List Int)) := (word_Compare.f k x2 x3).bind fun t1 => (if (decide (0 ≤ t1)) = true then ((fee_ones.f).bind fun t2 => (some t2)) else (fee_quotient.l1 k x1 x3 k 255 x2 [0, 0, 0, 0]))
theorem fee_quotient.ok (k : Nat) : fee_quotient.Ctr (fee_quotient.f k) := by
 intro x1 x2 x3 r h0 mi w0 ok hm
 delta fee_quotient.f at h0
 refine c_enterZ (n := 47) ok hm func73 rfl rfl rfl fun b0 hb a S => c_region (s_box S rfl rfl rfl fun g1 a w S => s_box S rfl rfl rfl fun g2 a w S => s_box S rfl rfl rfl fun g3 a w S => s_alloc S Z26 rfl ⟨rfl, trivial⟩ rfl fun g4 a w S => c_end (wp_seq (c_region (s_loada S rfl .h2 T26 (s' := [.w4 x2]) rfl rfl fun a S => s_loada S rfl .h1 T26 (s' := [.w4 x3]) rfl rfl fun a S => bindX h0 fun t1 et1 h1 => s_callP S _ N53 rfl rfl (word_Compare.ok k x2 x3 t1 et1 _ _) fun ch1 m le1 a w S => s_bin S rfl rfl rfl rfl fun a S => c_end ?_))))
 rcases ite_of h1 with ⟨c1, h2⟩ | ⟨c1, h2⟩
 ·refine c_condT S rfl c1 (c_region (bindX h2 fun t2 et2 h3 => s_callP S _ N56 rfl rfl (fee_ones.ok t2 et2 _ _) fun ch2 m le1 a w S => s_store S rfl rfl rfl (s' := [.w4 t2]) .h T26 rfl rfl fun w S => c_end (wp_ret (x_thenR ?_))))
  obtain rfl := Option.some.inj h3
  exact b_ret1 (d := (.a4 t2)) S rfl (resD_cell rfl .h T26 rfl rfl) (S.rt hb)
 ·refine c_condF S rfl c1 (wp_skip (x_thenN (c_region (s_alloc S Z26 rfl ⟨rfl, trivial⟩ rfl fun g5 a w S => c_end (c_region (s_loada S rfl .h3 T26 (s' := [.w4 x2]) rfl rfl fun a S => s_alloc S Z26 rfl ⟨rfl, trivial⟩ rfl fun g6 a w S => s_store S rfl rfl rfl (s' := [.w4 x2]) .h T26 rfl rfl fun w S => c_end (wp_seq_k fun K1 hK1 => ?_)))))))
  have j1 : ∀ m g42 g43 y1 a w, St 47 m b0 [(7, (.p g42)), (6, (.p g43))] [Res.cells g42 26 [.w4 y1], Res.cells g43 26 [.w4 [0, 0, 0, 0]]] a w → fee_quotient.j1 y1 = some r → K1 a w := by
   intro m g42 g43 y1 a w S h0
   delta fee_quotient.j1 at h0
   refine hK1 a w (c_region (s_loada S rfl .h T26 (s' := [.w4 y1]) rfl rfl fun a S => s_store S rfl rfl rfl (s' := [.w4 y1]) .h1 T26 rfl rfl fun w S => c_end (wp_ret ?_)))
   obtain rfl := Option.some.inj h0
   exact b_ret1 (d := (.a4 y1)) S rfl (resD_cell rfl .h1 T26 rfl rfl) (S.rt hb)
  refine c_region (s_assign S rfl rfl fun a S => c_end (wp_block ?_))
  refine c_loop (fun q1 a w => ∃ m y11 g74 g75 g76 g77 g78 y12 y13, St 47 m b0 [(9, (.i y11)), (8, (.p g74)), (7, (.p g75)), (6, (.p g76)), (5, (.p g77)), (3, (.p g78))] [Res.cells g74 26 [.w4 y12], Res.cells g75 26 [.w4 y13], Res.cells g76 26 [.w4 [0, 0, 0, 0]], Res.cells g77 26 [.w4 x3], Res.cells g78 26 [.w4 x1]] a w ∧ fee_quotient.l1 k x1 x3 q1 y11 y12 y13 = some r) ?_ ?_ (k := k) ⟨_, 255, g6, g5, g4, g3, g1, x2, [0, 0, 0, 0], (S.sb rfl (.c0 (.c0 (.c0 (.c0 (.c1 .n)))))), h2⟩
  ·rintro a w ⟨m, y11, g74, g75, g76, g77, g78, y12, y13, S, h0⟩
   exact (nomatch (show (none : Option ((List Int))) = some r from h0))
  ·clear S h2
   rintro q1 a w ⟨m, y11, g74, g75, g76, g77, g78, y12, y13, S, h0⟩
   replace h0 : fee_quotient.b1 k x1 x3 (fee_quotient.l1 k x1 x3 q1) y11 y12 y13 = some r := h0
   delta fee_quotient.b1 at h0
   refine wp_seq (c_region (s_move S rfl rfl fun a S => s_bin S rfl rfl rfl rfl fun a S => c_end ?_))
   rcases ite_of h0 with ⟨c2, h1⟩ | ⟨c2, h1⟩
   ·refine c_condT S rfl c2 (wp_skip (x_thenN (wp_seq_k fun K2 hK2 => ?_)))
    have j2 : ∀ m g84 g85 g86 g87 g88 y15 y16 a w, St 47 m b0 [(9, (.i y11)), (8, (.p g84)), (7, (.p g85)), (6, (.p g86)), (5, (.p g87)), (3, (.p g88))] [Res.cells g84 26 [.w4 y15], Res.cells g85 26 [.w4 y16], Res.cells g86 26 [.w4 [0, 0, 0, 0]], Res.cells g87 26 [.w4 x3], Res.cells g88 26 [.w4 x1]] a w → fee_quotient.j2 y11 (fee_quotient.l1 k x1 x3 q1) y15 y16 = some r → K2 a w := by
     intro m g84 g85 g86 g87 g88 y15 y16 a w S h0
     delta fee_quotient.j2 at h0
     refine hK2 a w (c_region' (s_move S rfl rfl fun a S => s_bin S rfl rfl rfl rfl fun a S => s_assign S rfl rfl fun a S => c_end' (x_thenN ?_)))
     exact ⟨_, (wr .i64 (y11 - 1)), g84, g85, g86, g87, g88, y15, y16, (S.sb rfl (.c0 (.c0 (.c0 (.c0 (.c0 .n)))))), h0⟩
    refine wp_block (c_region (s_loada S rfl .h T26 (s' := [.w4 y12]) rfl rfl fun a S => bindX h1 fun t7 et7 h2 => s_callP S _ N90 rfl rfl (word_Shl.ok k y12 1 t7 et7 _ _) fun ch3 m le1 a w S => s_store S rfl rfl rfl (s' := [.w4 t7]) .h T26 rfl rfl fun w S => c_end (wp_seq_k fun K3 hK3 => ?_)))
    have j3 : ∀ m g89 g90 g91 g92 g93 y17 a w, St 47 m b0 [(9, (.i y11)), (8, (.p g89)), (7, (.p g90)), (6, (.p g91)), (5, (.p g92)), (3, (.p g93))] [Res.cells g89 26 [.w4 y17], Res.cells g90 26 [.w4 y13], Res.cells g91 26 [.w4 [0, 0, 0, 0]], Res.cells g92 26 [.w4 x3], Res.cells g93 26 [.w4 x1]] a w → fee_quotient.j3 k x3 y11 y13 (fee_quotient.l1 k x1 x3 q1) y17 = some r → K3 a w := by
     intro m g89 g90 g91 g92 g93 y17 a w S h0
     delta fee_quotient.j3 at h0
     refine hK3 a w (c_region (s_loada S rfl .h T26 (s' := [.w4 y17]) rfl rfl fun a S => s_loada S rfl .h3 T26 (s' := [.w4 x3]) rfl rfl fun a S => bindX h0 fun t9 et9 h1 => s_callP S _ N53 rfl rfl (word_Compare.ok k y17 x3 t9 et9 _ _) fun ch4 m le1 a w S => s_bin S rfl rfl rfl rfl fun a S => c_end ?_))
     rcases ite_of h1 with ⟨c3, h2⟩ | ⟨c3, h2⟩
     ·refine c_condT S rfl c3 (c_region (s_loada S rfl .h T26 (s' := [.w4 y17]) rfl rfl fun a S => s_loada S rfl .h3 T26 (s' := [.w4 x3]) rfl rfl fun a S => bindX h2 fun t10 et10 h3 => s_callP S _ N54 rfl rfl (word_Sub.ok k y17 x3 t10 et10 _ _) fun ch5 m le1 a w S => s_store S rfl rfl rfl (s' := [.w4 t10]) .h T26 rfl rfl fun w S => c_end (c_heldS S (.take 0 (.take 1 (.take 2 (.take 3 (.take 4 (.take 5 (.take 6 (.take 7 (.take 8 (.alts (.run 9 false .done .nil))))))))))) 9 [Res.cells g89 26 [.w4 t10], Res.cells g90 26 [.w4 y13], Res.cells g91 26 [.w4 [0, 0, 0, 0]], Res.cells g92 26 [.w4 x3], Res.cells g93 26 [.w4 x1]] (.c0 (.c0 (.c0 (.c0 (.c0 .n))))) ⟨Res.stay_cells, Res.stay_cells, Res.stay_cells, Res.stay_cells, Res.stay_cells, trivial⟩ [(9, (.i y11)), (7, (.p g90))] (subR rfl) (by kernel_rfl) (by kernel_rfl) fun w S CL hw le => ?_)))
      refine h_move S CL hw le (subR rfl) rfl rfl rfl trivial fun a S CL => h_quo S CL hw le (subR rfl) rfl rfl (by decide) rfl rfl trivial fun a S CL => ?_
      obtain ⟨c4, h4⟩ := chk_of h3; clear h3
      refine h_iaddr S CL hw le (subR rfl) rfl rfl underlying26 T24 c4.1 c4.2 (mul1 _ _) rfl rfl trivial fun a S CL => h_loadi S CL hw le (subR rfl) (i := (wr .i64 (Int.tdiv y11 64))) rfl .h1 T24 .h rfl c4.1 c4.2 rfl rfl trivial fun a S CL => h_move S CL hw le (subR rfl) rfl rfl rfl trivial fun a S CL => h_rem S CL hw le (subR rfl) rfl rfl (by decide) rfl rfl trivial fun a S CL => ?_
      obtain ⟨c5, h5⟩ := chk_of h4; clear h4
      refine h_shl S CL hw le (subR rfl) (e := (min (Int.toNat (Int.tmod y11 64)) 64)) rfl rfl c5 rfl rfl rfl trivial fun a S CL => h_bin S CL hw le (subR rfl) rfl rfl rfl rfl rfl trivial fun a S CL => h_iaddr S CL hw le (subR rfl) rfl rfl underlying26 T24 c4.1 c4.2 (mul1 _ _) rfl rfl trivial fun a S CL => h_run' S rfl trivial (s_storei S (i := (wr .i64 (Int.tdiv y11 64))) rfl rfl .h1 T24 .h rfl c4.1 c4.2 fun w S => ?_)
      refine h_back ⟨fun h => (nomatch h), ?_⟩
      refine h_done ?_; clear CL hw le
      refine x_blockN (x_thenN ?_)
      exact j2 _ g89 g90 g91 g92 g93 t10 (y13.set (Int.toNat (wr .i64 (Int.tdiv y11 64))) (bits .or .u64 (rd y13 (wr .i64 (Int.tdiv y11 64))) (shl .u64 1 (min (Int.toNat (Int.tmod y11 64)) 64)))) a w (S.sb rfl (.c0 (.c0 (.c0 (.c0 (.c0 .n)))))) h5
     ·refine c_condF S rfl c3 (wp_skip (x_blockN (x_thenN ?_)))
      exact j2 _ g89 g90 g91 g92 g93 y17 y13 a w (S.sb rfl (.c0 (.c0 (.c0 (.c0 (.c0 .n)))))) h2
    refine c_region (s_loada S rfl .h4 T26 (s' := [.w4 x1]) rfl rfl fun a S => s_move S rfl rfl fun a S => s_conv S rfl rfl underlying125 rfl fun a S => bindX h2 fun t11 et11 h3 => s_callP S _ N91 rfl rfl (word_Bit.ok x1 (wr .u64 y11) t11 et11 _ _) fun ch6 m le1 a w S => c_end ?_)
    rcases ite_of h3 with ⟨c6, h4⟩ | ⟨c6, h4⟩
    ·refine c_condT S rfl c6 (c_region' (s_iaddr S (o' := 0) rfl rfl underlying26 T24 (by decide) (by decide) rfl rfl fun a S => s_loadi S (i := 0) rfl .h T24 .h rfl (by decide) (by decide) rfl fun a S => s_bin S rfl rfl rfl rfl fun a S => s_iaddr S (o' := 0) rfl rfl underlying26 T24 (by decide) (by decide) rfl rfl fun a S => s_storei S (i := 0) rfl rfl .h T24 .h rfl (by decide) (by decide) fun w S => c_end' (x_thenN ?_)))
     exact j3 _ g74 g75 g76 g77 g78 (t7.set (Int.toNat 0) (bits .or .u64 (rd t7 0) 1)) a w (S.sb rfl (.c0 (.c0 (.c0 (.c0 (.c0 .n)))))) h4
    ·refine c_condF S rfl c6 (wp_skip (x_thenN ?_))
     exact j3 _ g74 g75 g76 g77 g78 t7 a w (S.sb rfl (.c0 (.c0 (.c0 (.c0 (.c0 .n)))))) h4
   ·refine c_condF S rfl c2 (wp_exit (x_thenX (x_thenX (x_blockX (x_thenN ?_)))))
    exact j1 _ g75 g76 y13 a w (S.sb rfl (.c1 (.c1 .n))) h1
end GW
