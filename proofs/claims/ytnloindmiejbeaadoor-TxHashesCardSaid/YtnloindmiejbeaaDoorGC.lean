/-
  Printed by a program of these sessions (wip/gw/gx.py): for each Go function a Lean function with the same answers, and the walk that shows it.
-/
import Derived.Test.YtnloindmiejbeaaDoorProg
import Derived.Test.YtnloindmiejbeaaDoorGB
set_option linter.unusedVariables false
set_option maxRecDepth 10000
namespace GW
open Go Go.RowKit Go.Proofs
/-! smithy/keccak.round -/
abbrev keccak_round.Ty : Type := (List Int) → Option ((List Int))
def keccak_round.Ctr (s : keccak_round.Ty) : Prop := ∀ (x1 : List Int) (r : (List Int)) (h0 : s x1 = some r) (mi : Mem) (w0 : World) (G : Glob mi), okL mi [(.agg [.ints .u64 x1 25])] → Pre mi [] w0 → Calls Tryd.prog 52 (([(.agg [.ints .u64 x1 25])] : List D).map D.val).toArray w0 (RetX mi [] (fun (ch : Unit) => ((.agg [.ints .u64 r 25]) : D)) (fun (ch : Unit) => []) w0)
def keccak_round.j4 (y38 : List Int) : Option ((List Int)) := some y38
def keccak_round.j5 (y51 : Int) (rec1 : Int → (List Int) → Option ((List Int))) (y57 : List Int) : Option ((List Int)) := rec1 (wr .i64 (y51 + 5)) y57
def keccak_round.b2 (y51 : Int) (y52 : List Int) (rec1 : Int → (List Int) → Option ((List Int))) (rec2 : Int → (List Int) → Option ((List Int))) (y60 : Int) (y61 : List Int) : Option ((List Int)) := if (decide (y60 < 5)) = true then (if (0 : Int) ≤ y60 ∧ y60 < 5 then (if (0 : Int) ≤ (Int.tmod (wr .i64 (y60 + 1)) 5) ∧ (Int.tmod (wr .i64 (y60 + 1)) 5) < 5 then (if (0 : Int) ≤ (Int.tmod (wr .i64 (y60 + 2)) 5) ∧ (Int.tmod (wr .i64 (y60 + 2)) 5) < 5 then (if (0 : Int) ≤ (wr .i64 (y60 + y51)) ∧ (wr .i64 (y60 + y51)) < 25 then (rec2 (wr .i64 (y60 + 1)) (y61.set (Int.toNat (wr .i64 (y60 + y51))) (bits .xor .u64 (rd (((y52).drop (Int.toNat y51)).take 5) y60) (bits .and .u64 (bnot .u64 (rd (((y52).drop (Int.toNat y51)).take 5) (Int.tmod (wr .i64 (y60 + 1)) 5))) (rd (((y52).drop (Int.toNat y51)).take 5) (Int.tmod (wr .i64 (y60 + 2)) 5)))))) else none) else none) else none) else none) else (keccak_round.j5 y51 rec1 y61)
def keccak_round.l2 (y51 : Int) (y52 : List Int) (rec1 : Int → (List Int) → Option ((List Int))) : Nat → Int → (List Int) → Option ((List Int))
  | 0, _, _ => none
  | q + 1, y60, y61 => keccak_round.b2 y51 y52 rec1 (keccak_round.l2 y51 y52 rec1 q) y60 y61
def keccak_round.b1 (k : Nat) (rec1 : Int → (List Int) → Option ((List Int))) (y51 : Int) (y52 : List Int) : Option ((List Int)) := if (decide (y51 < 25)) = true then (if (0 : Int) ≤ y51 ∧ (y51 : Int) ≤ (wr .i64 (y51 + 5)) ∧ (wr .i64 (y51 + 5)) ≤ ((25 : Nat) : Int) then (if 5 ≤ (Int.toNat (wr .i64 (y51 + 5)) - Int.toNat y51) then (keccak_round.l2 y51 y52 rec1 k 0 y52) else none) else none) else (keccak_round.j4 y52)
def keccak_round.l1 (k : Nat) : Nat → Int → (List Int) → Option ((List Int))
  | 0, _, _ => none
  | q + 1, y51, y52 => keccak_round.b1 k (keccak_round.l1 k q) y51 y52
def keccak_round.j3 (k : Nat) (y23 : List Int) : Option ((List Int)) := keccak_round.l1 k k 0 y23
def keccak_round.b3 (k : Nat) (rec3 : Int → Int → (List Int) → Option ((List Int))) (y65 : Int) (y66 : Int) (y67 : List Int) : Option ((List Int)) := if (decide (y65 < 24)) = true then (if (0 : Int) ≤ y65 ∧ y65 < 24 then (if (0 : Int) ≤ (rd tbl_keccak_places y65) ∧ (rd tbl_keccak_places y65) < 25 then ((bits_RotateLeft64.f y66 (rd tbl_keccak_turns y65)).bind fun t1 => (rec3 (wr .i64 (y65 + 1)) (rd y67 (rd tbl_keccak_places y65)) (y67.set (Int.toNat (rd tbl_keccak_places y65)) t1))) else none) else none) else (keccak_round.j3 k y67)
def keccak_round.l3 (k : Nat) : Nat → Int → Int → (List Int) → Option ((List Int))
  | 0, _, _, _ => none
  | q + 1, y65, y66, y67 => keccak_round.b3 k (keccak_round.l3 k q) y65 y66 y67
def keccak_round.j2 (k : Nat) (y16 : List Int) : Option ((List Int)) := keccak_round.l3 k k 0 (rd y16 1) y16
def keccak_round.j6 (y80 : Int) (rec4 : Int → (List Int) → Option ((List Int))) (y86 : List Int) : Option ((List Int)) := rec4 (wr .i64 (y80 + 1)) y86
def keccak_round.b5 (y1 : List Int) (y80 : Int) (rec4 : Int → (List Int) → Option ((List Int))) (t3 : Int) (rec5 : Int → (List Int) → Option ((List Int))) (y89 : Int) (y90 : List Int) : Option ((List Int)) := if (decide (y89 < 25)) = true then (if (0 : Int) ≤ (wr .i64 (y80 + y89)) ∧ (wr .i64 (y80 + y89)) < 25 then (rec5 (wr .i64 (y89 + 5)) (y90.set (Int.toNat (wr .i64 (y80 + y89))) (bits .xor .u64 (rd y90 (wr .i64 (y80 + y89))) (bits .xor .u64 (rd y1 (Int.tmod (wr .i64 (y80 + 4)) 5)) t3)))) else none) else (keccak_round.j6 y80 rec4 y90)
def keccak_round.l5 (y1 : List Int) (y80 : Int) (rec4 : Int → (List Int) → Option ((List Int))) (t3 : Int) : Nat → Int → (List Int) → Option ((List Int))
  | 0, _, _ => none
  | q + 1, y89, y90 => keccak_round.b5 y1 y80 rec4 t3 (keccak_round.l5 y1 y80 rec4 t3 q) y89 y90
def keccak_round.b4 (k : Nat) (y1 : List Int) (rec4 : Int → (List Int) → Option ((List Int))) (y80 : Int) (y81 : List Int) : Option ((List Int)) := if (decide (y80 < 5)) = true then (if (0 : Int) ≤ (Int.tmod (wr .i64 (y80 + 4)) 5) ∧ (Int.tmod (wr .i64 (y80 + 4)) 5) < 5 then (if (0 : Int) ≤ (Int.tmod (wr .i64 (y80 + 1)) 5) ∧ (Int.tmod (wr .i64 (y80 + 1)) 5) < 5 then ((bits_RotateLeft64.f (rd y1 (Int.tmod (wr .i64 (y80 + 1)) 5)) 1).bind fun t3 => (keccak_round.l5 y1 y80 rec4 t3 k 0 y81)) else none) else none) else (keccak_round.j2 k y81)
def keccak_round.l4 (k : Nat) (y1 : List Int) : Nat → Int → (List Int) → Option ((List Int))
  | 0, _, _ => none
  | q + 1, y80, y81 => keccak_round.b4 k y1 (keccak_round.l4 k y1 q) y80 y81
def keccak_round.j1 (k : Nat) (x1 : List Int) (y1 : List Int) : Option ((List Int)) := keccak_round.l4 k y1 k 0 x1
def keccak_round.b6 (k : Nat) (x1 : List Int) (rec6 : Int → (List Int) → Option ((List Int))) (y93 : Int) (y94 : List Int) : Option ((List Int)) := if (decide (y93 < 5)) = true then (if (0 : Int) ≤ y93 ∧ y93 < 25 then (if (0 : Int) ≤ (wr .i64 (y93 + 5)) ∧ (wr .i64 (y93 + 5)) < 25 then (if (0 : Int) ≤ (wr .i64 (y93 + 10)) ∧ (wr .i64 (y93 + 10)) < 25 then (if (0 : Int) ≤ (wr .i64 (y93 + 15)) ∧ (wr .i64 (y93 + 15)) < 25 then (if (0 : Int) ≤ (wr .i64 (y93 + 20)) ∧ (wr .i64 (y93 + 20)) < 25 then (if (0 : Int) ≤ y93 ∧ y93 < 5 then (rec6 (wr .i64 (y93 + 1)) (y94.set (Int.toNat y93) (bits .xor .u64 (bits .xor .u64 (bits .xor .u64 (bits .xor .u64 (rd x1 y93) (rd x1 (wr .i64 (y93 + 5)))) (rd x1 (wr .i64 (y93 + 10)))) (rd x1 (wr .i64 (y93 + 15)))) (rd x1 (wr .i64 (y93 + 20)))))) else none) else none) else none) else none) else none) else none) else (keccak_round.j1 k x1 y94)
def keccak_round.l6 (k : Nat) (x1 : List Int) : Nat → Int → (List Int) → Option ((List Int))
  | 0, _, _ => none
  | q + 1, y93, y94 => keccak_round.b6 k x1 (keccak_round.l6 k x1 q) y93 y94
def keccak_round.f (k : Nat) (x1 : List Int) : Option ((List Int)) := keccak_round.l6 k x1 k 0 [0, 0, 0, 0, 0]
theorem keccak_round.ok (k : Nat) : keccak_round.Ctr (keccak_round.f k) := by
  intro x1 r h0 mi w0 G ok hm
  delta keccak_round.f at h0
  refine c_enterX (n := 126) [(.agg [.ints .u64 x1 25])] (l := [(0, (.agg [.ints .u64 x1 25]))]) Tryd.func52 rfl rfl rfl rfl ok hm ?_
  clear ok hm
  intro b0 hb a S
  replace S := S.addfro (g := 2) 100 G.2.2
  replace S := S.addfro (g := 1) 100 G.2.1
  replace S := S.addfro (g := 0) 91 G.1
  refine c_region ?_
  refine s_box S rfl rfl rfl ?_; clear S a; intro g1 a w S
  refine s_alloc S Z73 rfl ⟨rfl, trivial⟩ rfl ?_; clear S a w; intro g2 a w S
  refine c_end ?_
  refine c_region ?_
  refine s_alloc S Z97 rfl ⟨rfl, trivial⟩ rfl ?_; clear S a w; intro g3 a w S
  refine c_end ?_
  refine wp_seq_k ?_
  intro K1 hK1
  have j1 : ∀ (m : Mem) (g13 : Nat) (g14 : Nat) (g15 : Nat) (y1 : List Int) (a : Act) (w : World), St 126 m b0 [(3, (.v (.pointer (some ⟨g13, 0, none⟩)))), (2, (.v (.pointer (some ⟨g14, 0, none⟩)))), (1, (.v (.pointer (some ⟨g15, 0, none⟩))))] [Res.cells g13 97 [.ints .u64 y1 5], Res.cells g14 73 [.ints .u64 [0, 0, 0, 0, 0, 0, 0, 0, 0, 0, 0, 0, 0, 0, 0, 0, 0, 0, 0, 0, 0, 0, 0, 0, 0] 25], Res.cells g15 73 [.ints .u64 x1 25], Res.fro 0 91 [.ints .u64 tbl_keccak_constants 24], Res.fro 1 100 [.ints .i64 tbl_keccak_places 24], Res.fro 2 100 [.ints .i64 tbl_keccak_turns 24]] a w → keccak_round.j1 k x1 y1 = some r → K1 a w := by
    intro m g13 g14 g15 y1 a w S h0
    delta keccak_round.j1 at h0
    refine hK1 a w ?_
    refine wp_seq_k ?_
    intro K2 hK2
    have j2 : ∀ (m : Mem) (g49 : Nat) (g50 : Nat) (y16 : List Int) (a : Act) (w : World), St 126 m b0 [(2, (.v (.pointer (some ⟨g49, 0, none⟩)))), (1, (.v (.pointer (some ⟨g50, 0, none⟩))))] [Res.cells g49 73 [.ints .u64 [0, 0, 0, 0, 0, 0, 0, 0, 0, 0, 0, 0, 0, 0, 0, 0, 0, 0, 0, 0, 0, 0, 0, 0, 0] 25], Res.cells g50 73 [.ints .u64 y16 25], Res.fro 0 91 [.ints .u64 tbl_keccak_constants 24], Res.fro 1 100 [.ints .i64 tbl_keccak_places 24], Res.fro 2 100 [.ints .i64 tbl_keccak_turns 24]] a w → keccak_round.j2 k y16 = some r → K2 a w := by
      intro m g49 g50 y16 a w S h0
      delta keccak_round.j2 at h0
      refine hK2 a w ?_
      refine c_region ?_
      refine s_iaddr S (o' := 1) rfl rfl Tryd.underlying73 T24 (by decide) (by decide) rfl rfl ?_; clear S a; intro a S
      refine s_loadi S (i := 1) rfl (.there .here) T24 .here rfl (by decide) (by decide) rfl ?_; clear S a; intro a S
      refine s_assign S rfl rfl ?_; clear S a; intro a S
      refine c_end ?_
      refine wp_seq_k ?_
      intro K3 hK3
      have j3 : ∀ (m : Mem) (g57 : Nat) (g58 : Nat) (y23 : List Int) (a : Act) (w : World), St 126 m b0 [(2, (.v (.pointer (some ⟨g57, 0, none⟩)))), (1, (.v (.pointer (some ⟨g58, 0, none⟩))))] [Res.cells g57 73 [.ints .u64 [0, 0, 0, 0, 0, 0, 0, 0, 0, 0, 0, 0, 0, 0, 0, 0, 0, 0, 0, 0, 0, 0, 0, 0, 0] 25], Res.cells g58 73 [.ints .u64 y23 25], Res.fro 0 91 [.ints .u64 tbl_keccak_constants 24], Res.fro 1 100 [.ints .i64 tbl_keccak_places 24], Res.fro 2 100 [.ints .i64 tbl_keccak_turns 24]] a w → keccak_round.j3 k y23 = some r → K3 a w := by
        intro m g57 g58 y23 a w S h0
        delta keccak_round.j3 at h0
        refine hK3 a w ?_
        refine wp_seq_k ?_
        intro K4 hK4
        have j4 : ∀ (m : Mem) (g89 : Nat) (g90 : Nat) (y38 : List Int) (a : Act) (w : World), St 126 m b0 [(2, (.v (.pointer (some ⟨g89, 0, none⟩)))), (1, (.v (.pointer (some ⟨g90, 0, none⟩))))] [Res.cells g89 73 [.ints .u64 [0, 0, 0, 0, 0, 0, 0, 0, 0, 0, 0, 0, 0, 0, 0, 0, 0, 0, 0, 0, 0, 0, 0, 0, 0] 25], Res.cells g90 73 [.ints .u64 y38 25], Res.fro 0 91 [.ints .u64 tbl_keccak_constants 24], Res.fro 1 100 [.ints .i64 tbl_keccak_places 24], Res.fro 2 100 [.ints .i64 tbl_keccak_turns 24]] a w → keccak_round.j4 y38 = some r → K4 a w := by
          intro m g89 g90 y38 a w S h0
          delta keccak_round.j4 at h0
          refine hK4 a w ?_
          refine c_region ?_
          refine s_loada S rfl (.there .here) T73 (s' := [.ints .u64 y38 25]) rfl rfl ?_; clear S a; intro a S
          refine s_store S rfl rfl rfl (s' := [.ints .u64 y38 25]) .here T73 rfl rfl ?_; clear S w; intro w S
          refine c_end ?_
          refine wp_ret ?_
          obtain rfl := Option.some.inj h0
          exact b_ret1 (d := (.agg [.ints .u64 y38 25])) S rfl (resD_cell rfl .here T73 rfl rfl) fun ok => S.retX (Hx := []) hb _ _ (() : Unit) .nil ok
        refine c_region ?_
        refine s_assign S rfl rfl ?_; clear S a; intro a S
        refine c_end ?_
        refine wp_block ?_
        refine c_loop (fun q1 a w => ∃ (m : Mem) (y51 : Int) (g119 : Nat) (g120 : Nat) (y52 : List Int), St 126 m b0 [(12, (.v (.int .i64 y51))), (2, (.v (.pointer (some ⟨g119, 0, none⟩)))), (1, (.v (.pointer (some ⟨g120, 0, none⟩))))] [Res.cells g119 73 [.ints .u64 [0, 0, 0, 0, 0, 0, 0, 0, 0, 0, 0, 0, 0, 0, 0, 0, 0, 0, 0, 0, 0, 0, 0, 0, 0] 25], Res.cells g120 73 [.ints .u64 y52 25], Res.fro 0 91 [.ints .u64 tbl_keccak_constants 24], Res.fro 1 100 [.ints .i64 tbl_keccak_places 24], Res.fro 2 100 [.ints .i64 tbl_keccak_turns 24]] a w ∧ keccak_round.l1 k q1 y51 y52 = some r) ?_ ?_ (k := k) ⟨_, 0, g57, g58, y23, (S.sub ⟨rfl, rfl, rfl, trivial⟩ (.cons .here (.cons .here (.cons .here (.cons .here (.cons .here .nil)))))), h0⟩
        · rintro a w ⟨m, y51, g119, g120, y52, S, h0⟩
          exact (nomatch (show (none : Option ((List Int))) = some r from h0))
        · clear S h0
          rintro q1 a w ⟨m, y51, g119, g120, y52, S, h0⟩
          replace h0 : keccak_round.b1 k (keccak_round.l1 k q1) y51 y52 = some r := h0
          delta keccak_round.b1 at h0
          refine wp_seq ?_
          refine c_region ?_
          refine s_move S rfl rfl ?_; clear S a; intro a S
          refine s_bin S rfl rfl rfl rfl ?_; clear S a; intro a S
          refine c_end ?_
          rcases ite_of h0 with ⟨c1, h1⟩ | ⟨c1, h1⟩ <;> clear h0
          · refine c_condT S rfl c1 ?_
            refine wp_skip ?_
            refine x_thenN ?_
            refine wp_seq_k ?_
            intro K5 hK5
            have j5 : ∀ (m : Mem) (g131 : Nat) (g132 : Nat) (y57 : List Int) (a : Act) (w : World), St 126 m b0 [(12, (.v (.int .i64 y51))), (2, (.v (.pointer (some ⟨g131, 0, none⟩)))), (1, (.v (.pointer (some ⟨g132, 0, none⟩))))] [Res.cells g131 73 [.ints .u64 [0, 0, 0, 0, 0, 0, 0, 0, 0, 0, 0, 0, 0, 0, 0, 0, 0, 0, 0, 0, 0, 0, 0, 0, 0] 25], Res.cells g132 73 [.ints .u64 y57 25], Res.fro 0 91 [.ints .u64 tbl_keccak_constants 24], Res.fro 1 100 [.ints .i64 tbl_keccak_places 24], Res.fro 2 100 [.ints .i64 tbl_keccak_turns 24]] a w → keccak_round.j5 y51 (keccak_round.l1 k q1) y57 = some r → K5 a w := by
              intro m g131 g132 y57 a w S h0
              delta keccak_round.j5 at h0
              refine hK5 a w ?_
              refine c_region' ?_
              refine s_move S rfl rfl ?_; clear S a; intro a S
              refine s_bin S rfl rfl rfl rfl ?_; clear S a; intro a S
              refine s_assign S rfl rfl ?_; clear S a; intro a S
              refine c_end' ?_
              refine x_thenN ?_
              exact ⟨_, (wr .i64 (y51 + 5)), g131, g132, y57, (S.sub ⟨rfl, rfl, rfl, trivial⟩ (.cons .here (.cons .here (.cons .here (.cons .here (.cons .here .nil)))))), h0⟩
            refine wp_block ?_
            refine c_region ?_
            refine s_move S rfl rfl ?_; clear S a; intro a S
            refine s_move S rfl rfl ?_; clear S a; intro a S
            refine s_bin S rfl rfl rfl rfl ?_; clear S a; intro a S
            obtain ⟨c2, h2⟩ := chk_of h1; clear h1
            refine s_sliceA S (i := y51) (j := (wr .i64 (y51 + 5))) (o' := if 25 = Int.toNat y51 then 0 else 0 + Int.toNat y51 * 1) (len := Int.toNat (wr .i64 (y51 + 5)) - Int.toNat y51) (cap := 25 - Int.toNat y51) rfl Tryd.underlying73 T24 (.inr ⟨_, _, rfl, rfl⟩) (.inr ⟨_, _, rfl, rfl⟩) c2 rfl rfl rfl rfl ?_; clear S a; intro a S
            obtain ⟨c3, h3⟩ := chk_of h2; clear h2
            refine s_arrp S rfl Tryd.underlying97 c3 rfl ?_; clear S a; intro a S
            refine s_ldInts S (lo := (Int.toNat y51)) (ys := ((y52).drop (Int.toNat y51)).take 5) rfl (.there .here) T97 .here (ho_rng c2 c3) (by have h := c2; have h' := c3; omega) rfl rfl ?_; clear S a; intro a S
            refine s_alloc S Z97 rfl ⟨rfl, trivial⟩ rfl ?_; clear S a w; intro g133 a w S
            refine s_store S rfl rfl rfl (s' := [.ints .u64 (((y52).drop (Int.toNat y51)).take 5) 5]) .here T97 rfl rfl ?_; clear S w; intro w S
            refine c_end ?_
            refine c_region ?_
            refine s_move S rfl rfl ?_; clear S a; intro a S
            refine c_end ?_
            refine wp_block ?_
            refine c_loop (fun q2 a w => ∃ (m : Mem) (y60 : Int) (g140 : Nat) (g141 : Nat) (g142 : Nat) (y61 : List Int), St 126 m b0 [(101, (.v (.int .i64 y60))), (13, (.v (.pointer (some ⟨g140, 0, none⟩)))), (12, (.v (.int .i64 y51))), (2, (.v (.pointer (some ⟨g141, 0, none⟩)))), (1, (.v (.pointer (some ⟨g142, 0, none⟩))))] [Res.cells g140 97 [.ints .u64 (((y52).drop (Int.toNat y51)).take 5) 5], Res.cells g141 73 [.ints .u64 [0, 0, 0, 0, 0, 0, 0, 0, 0, 0, 0, 0, 0, 0, 0, 0, 0, 0, 0, 0, 0, 0, 0, 0, 0] 25], Res.cells g142 73 [.ints .u64 y61 25], Res.fro 0 91 [.ints .u64 tbl_keccak_constants 24], Res.fro 1 100 [.ints .i64 tbl_keccak_places 24], Res.fro 2 100 [.ints .i64 tbl_keccak_turns 24]] a w ∧ keccak_round.l2 y51 y52 (keccak_round.l1 k q1) q2 y60 y61 = some r) ?_ ?_ (k := k) ⟨_, 0, g133, g119, g120, y52, (S.sub ⟨rfl, rfl, rfl, rfl, rfl, trivial⟩ (.cons .here (.cons .here (.cons .here (.cons .here (.cons .here (.cons .here .nil))))))), h3⟩
            · rintro a w ⟨m, y60, g140, g141, g142, y61, S, h0⟩
              exact (nomatch (show (none : Option ((List Int))) = some r from h0))
            · clear S h3
              rintro q2 a w ⟨m, y60, g140, g141, g142, y61, S, h0⟩
              replace h0 : keccak_round.b2 y51 y52 (keccak_round.l1 k q1) (keccak_round.l2 y51 y52 (keccak_round.l1 k q1) q2) y60 y61 = some r := h0
              delta keccak_round.b2 at h0
              refine c_region ?_
              refine s_bin S rfl rfl rfl rfl ?_; clear S a; intro a S
              refine c_end ?_
              refine wp_seq ?_
              rcases ite_of h0 with ⟨c4, h1⟩ | ⟨c4, h1⟩ <;> clear h0
              · refine c_condT S rfl c4 ?_
                refine wp_skip ?_
                refine x_thenN ?_
                refine wp_seq ?_
                refine wp_block ?_
                refine c_region ?_
                refine s_move S rfl rfl ?_; clear S a; intro a S
                refine s_assign S rfl rfl ?_; clear S a; intro a S
                refine c_end ?_
                refine c_heldS S (.take 0 (.take 1 (.take 2 (.take 3 (.take 4 (.take 5 (.take 6 (.take 7 (.take 8 (.take 9 (.take 10 (.take 11 (.take 12 (.take 13 (.take 14 (.take 15 (.take 16 (.take 17 (.take 18 (.take 19 (.alts (.run 20 false .done .nil)))))))))))))))))))))) 20 [Res.cells g140 97 [.ints .u64 (((y52).drop (Int.toNat y51)).take 5) 5], Res.cells g141 73 [.ints .u64 [0, 0, 0, 0, 0, 0, 0, 0, 0, 0, 0, 0, 0, 0, 0, 0, 0, 0, 0, 0, 0, 0, 0, 0, 0] 25], Res.cells g142 73 [.ints .u64 y61 25], Res.fro 0 91 [.ints .u64 tbl_keccak_constants 24], Res.fro 1 100 [.ints .i64 tbl_keccak_places 24], Res.fro 2 100 [.ints .i64 tbl_keccak_turns 24]] (.cons .here (.cons .here (.cons .here (.cons .here (.cons .here (.cons .here .nil)))))) ⟨Res.stay_cells, Res.stay_cells, Res.stay_cells, Res.stay_fro, Res.stay_fro, Res.stay_fro, trivial⟩ [(14, (.v (.int .i64 y60))), (13, (.v (.pointer (some ⟨g140, 0, none⟩)))), (12, (.v (.int .i64 y51))), (1, (.v (.pointer (some ⟨g142, 0, none⟩))))] ⟨rfl, rfl, rfl, rfl, trivial⟩ (by kernel_rfl) (by kernel_rfl) ?_; clear S; intro w S CL hw le
                refine h_move S CL hw le ⟨rfl, rfl, rfl, rfl, trivial⟩ rfl rfl rfl trivial ?_; clear S CL a; intro a S CL
                refine h_move S CL hw le ⟨rfl, rfl, rfl, rfl, rfl, trivial⟩ rfl rfl rfl trivial ?_; clear S CL a; intro a S CL
                refine h_bin S CL hw le ⟨rfl, rfl, rfl, rfl, rfl, rfl, trivial⟩ rfl rfl rfl rfl rfl trivial ?_; clear S CL a; intro a S CL
                refine h_move S CL hw le ⟨rfl, rfl, rfl, rfl, rfl, rfl, rfl, trivial⟩ rfl rfl rfl trivial ?_; clear S CL a; intro a S CL
                obtain ⟨c5, h2⟩ := chk_of h1; clear h1
                refine h_iaddr S CL hw le ⟨rfl, rfl, rfl, rfl, rfl, rfl, rfl, rfl, trivial⟩ rfl rfl Tryd.underlying97 T24 c5.1 c5.2 (mul1 _ _) rfl rfl trivial ?_; clear S CL a; intro a S CL
                refine h_loadi S CL hw le ⟨rfl, rfl, rfl, rfl, rfl, rfl, rfl, rfl, rfl, trivial⟩ (i := y60) rfl .here T24 .here rfl c5.1 c5.2 rfl rfl trivial ?_; clear S CL a; intro a S CL
                refine h_move S CL hw le ⟨rfl, rfl, rfl, rfl, rfl, rfl, rfl, rfl, rfl, rfl, trivial⟩ rfl rfl rfl trivial ?_; clear S CL a; intro a S CL
                refine h_bin S CL hw le ⟨rfl, rfl, rfl, rfl, rfl, rfl, rfl, rfl, rfl, rfl, rfl, trivial⟩ rfl rfl rfl rfl rfl trivial ?_; clear S CL a; intro a S CL
                refine h_rem S CL hw le ⟨rfl, rfl, rfl, rfl, rfl, rfl, rfl, rfl, rfl, rfl, rfl, rfl, trivial⟩ rfl rfl (by decide) rfl rfl trivial ?_; clear S CL a; intro a S CL
                obtain ⟨c6, h3⟩ := chk_of h2; clear h2
                refine h_iaddr S CL hw le ⟨rfl, rfl, rfl, rfl, rfl, rfl, rfl, rfl, rfl, rfl, rfl, rfl, rfl, trivial⟩ rfl rfl Tryd.underlying97 T24 c6.1 c6.2 (mul1 _ _) rfl rfl trivial ?_; clear S CL a; intro a S CL
                refine h_loadi S CL hw le ⟨rfl, rfl, rfl, rfl, rfl, rfl, rfl, rfl, rfl, rfl, rfl, rfl, rfl, rfl, trivial⟩ (i := (Int.tmod (wr .i64 (y60 + 1)) 5)) rfl .here T24 .here rfl c6.1 c6.2 rfl rfl trivial ?_; clear S CL a; intro a S CL
                refine h_un S CL hw le ⟨rfl, rfl, rfl, rfl, rfl, rfl, rfl, rfl, rfl, rfl, rfl, rfl, rfl, rfl, rfl, trivial⟩ rfl rfl rfl rfl trivial ?_; clear S CL a; intro a S CL
                refine h_move S CL hw le ⟨rfl, rfl, rfl, rfl, rfl, rfl, rfl, rfl, rfl, rfl, rfl, rfl, rfl, rfl, rfl, rfl, trivial⟩ rfl rfl rfl trivial ?_; clear S CL a; intro a S CL
                refine h_bin S CL hw le ⟨rfl, rfl, rfl, rfl, rfl, rfl, rfl, rfl, rfl, rfl, rfl, rfl, rfl, rfl, rfl, rfl, rfl, trivial⟩ rfl rfl rfl rfl rfl trivial ?_; clear S CL a; intro a S CL
                refine h_rem S CL hw le ⟨rfl, rfl, rfl, rfl, rfl, rfl, rfl, rfl, rfl, rfl, rfl, rfl, rfl, rfl, rfl, rfl, rfl, rfl, trivial⟩ rfl rfl (by decide) rfl rfl trivial ?_; clear S CL a; intro a S CL
                obtain ⟨c7, h4⟩ := chk_of h3; clear h3
                refine h_iaddr S CL hw le ⟨rfl, rfl, rfl, rfl, rfl, rfl, rfl, rfl, rfl, rfl, rfl, rfl, rfl, rfl, rfl, rfl, rfl, rfl, rfl, trivial⟩ rfl rfl Tryd.underlying97 T24 c7.1 c7.2 (mul1 _ _) rfl rfl trivial ?_; clear S CL a; intro a S CL
                refine h_loadi S CL hw le ⟨rfl, rfl, rfl, rfl, rfl, rfl, rfl, rfl, rfl, rfl, rfl, rfl, rfl, rfl, rfl, rfl, rfl, rfl, rfl, rfl, trivial⟩ (i := (Int.tmod (wr .i64 (y60 + 2)) 5)) rfl .here T24 .here rfl c7.1 c7.2 rfl rfl trivial ?_; clear S CL a; intro a S CL
                refine h_bin S CL hw le ⟨rfl, rfl, rfl, rfl, rfl, rfl, rfl, rfl, rfl, rfl, rfl, rfl, rfl, rfl, rfl, rfl, rfl, rfl, rfl, rfl, rfl, trivial⟩ rfl rfl rfl rfl rfl trivial ?_; clear S CL a; intro a S CL
                refine h_bin S CL hw le ⟨rfl, rfl, rfl, rfl, rfl, rfl, rfl, rfl, rfl, rfl, rfl, rfl, rfl, rfl, rfl, rfl, rfl, rfl, rfl, rfl, rfl, rfl, trivial⟩ rfl rfl rfl rfl rfl trivial ?_; clear S CL a; intro a S CL
                obtain ⟨c8, h5⟩ := chk_of h4; clear h4
                refine h_iaddr S CL hw le ⟨rfl, rfl, rfl, rfl, rfl, rfl, rfl, rfl, rfl, rfl, rfl, rfl, rfl, rfl, rfl, rfl, rfl, rfl, rfl, rfl, rfl, rfl, rfl, trivial⟩ rfl rfl Tryd.underlying73 T24 c8.1 c8.2 (mul1 _ _) rfl rfl trivial ?_; clear S CL a; intro a S CL
                refine h_run' S rfl trivial ?_
                refine s_storei S (i := (wr .i64 (y60 + y51))) rfl rfl (.there (.there .here)) T24 .here rfl c8.1 c8.2 ?_; clear S; intro w S
                refine h_back ⟨fun h => (nomatch h), ?_⟩
                refine h_done ?_; clear CL hw le
                refine x_blockN ?_
                refine x_thenN ?_
                refine c_region' ?_
                refine s_bin S rfl rfl rfl rfl ?_; clear S a; intro a S
                refine s_move S rfl rfl ?_; clear S a; intro a S
                refine c_end' ?_
                refine x_thenN ?_
                exact ⟨_, (wr .i64 (y60 + 1)), g140, g141, g142, (y61.set (Int.toNat (wr .i64 (y60 + y51))) (bits .xor .u64 (rd (((y52).drop (Int.toNat y51)).take 5) y60) (bits .and .u64 (bnot .u64 (rd (((y52).drop (Int.toNat y51)).take 5) (Int.tmod (wr .i64 (y60 + 1)) 5))) (rd (((y52).drop (Int.toNat y51)).take 5) (Int.tmod (wr .i64 (y60 + 2)) 5))))), (S.sub ⟨rfl, rfl, rfl, rfl, rfl, trivial⟩ (.cons .here (.cons .here (.cons .here (.cons .here (.cons .here (.cons .here .nil))))))), h5⟩
              · refine c_condF S rfl c4 ?_
                refine wp_exit ?_
                refine x_thenX ?_
                refine x_thenX ?_
                refine x_blockX ?_
                refine x_blockN ?_
                refine x_thenN ?_
                exact j5 _ g141 g142 y61 a w (S.sub ⟨rfl, rfl, rfl, trivial⟩ (.cons (.there .here) (.cons (.there .here) (.cons (.there .here) (.cons (.there .here) (.cons (.there .here) .nil)))))) h1
          · refine c_condF S rfl c1 ?_
            refine wp_exit ?_
            refine x_thenX ?_
            refine x_thenX ?_
            refine x_blockX ?_
            refine x_thenN ?_
            exact j4 _ g119 g120 y52 a w (S.sub ⟨rfl, rfl, trivial⟩ (.cons .here (.cons .here (.cons .here (.cons .here (.cons .here .nil)))))) h1
      refine c_region ?_
      refine s_loadaF S rfl (.there (.there (.there .here))) T100 (s' := [.ints .i64 tbl_keccak_places 24]) rfl rfl ?_; clear S a; intro a S
      refine s_move S rfl rfl ?_; clear S a; intro a S
      refine c_end ?_
      refine wp_block ?_
      refine c_loop (fun q3 a w => ∃ (m : Mem) (y65 : Int) (y66 : Int) (g147 : Nat) (g148 : Nat) (y67 : List Int), St 126 m b0 [(75, (.v (.int .i64 y65))), (74, (.agg [.ints .i64 tbl_keccak_places 24])), (8, (.v (.int .u64 y66))), (2, (.v (.pointer (some ⟨g147, 0, none⟩)))), (1, (.v (.pointer (some ⟨g148, 0, none⟩))))] [Res.cells g147 73 [.ints .u64 [0, 0, 0, 0, 0, 0, 0, 0, 0, 0, 0, 0, 0, 0, 0, 0, 0, 0, 0, 0, 0, 0, 0, 0, 0] 25], Res.cells g148 73 [.ints .u64 y67 25], Res.fro 0 91 [.ints .u64 tbl_keccak_constants 24], Res.fro 1 100 [.ints .i64 tbl_keccak_places 24], Res.fro 2 100 [.ints .i64 tbl_keccak_turns 24]] a w ∧ keccak_round.l3 k q3 y65 y66 y67 = some r) ?_ ?_ (k := k) ⟨_, 0, (rd y16 1), g49, g50, y16, (S.sub ⟨rfl, rfl, rfl, rfl, rfl, trivial⟩ (.cons .here (.cons .here (.cons .here (.cons .here (.cons .here .nil)))))), h0⟩
      · rintro a w ⟨m, y65, y66, g147, g148, y67, S, h0⟩
        exact (nomatch (show (none : Option ((List Int))) = some r from h0))
      · clear S h0
        rintro q3 a w ⟨m, y65, y66, g147, g148, y67, S, h0⟩
        replace h0 : keccak_round.b3 k (keccak_round.l3 k q3) y65 y66 y67 = some r := h0
        delta keccak_round.b3 at h0
        refine c_region ?_
        refine s_bin S rfl rfl rfl rfl ?_; clear S a; intro a S
        refine c_end ?_
        refine wp_seq ?_
        rcases ite_of h0 with ⟨c9, h1⟩ | ⟨c9, h1⟩ <;> clear h0
        · refine c_condT S rfl c9 ?_
          refine wp_skip ?_
          refine x_thenN ?_
          refine wp_seq ?_
          refine wp_block ?_
          refine c_region ?_
          refine s_move S rfl rfl ?_; clear S a; intro a S
          obtain ⟨c10, h2⟩ := chk_of h1; clear h1
          refine s_index S rfl rfl Tryd.underlying100 T3 c10.1 c10.2 rfl ?_; clear S a; intro a S
          refine s_assign S rfl rfl ?_; clear S a; intro a S
          refine s_assign S rfl rfl ?_; clear S a; intro a S
          refine c_end ?_
          refine c_region ?_
          refine s_move S rfl rfl ?_; clear S a; intro a S
          obtain ⟨c11, h3⟩ := chk_of h2; clear h2
          refine s_iaddr S rfl rfl Tryd.underlying73 T24 c11.1 c11.2 (mul1 _ _) rfl ?_; clear S a; intro a S
          refine s_loadi S (i := (rd tbl_keccak_places y65)) rfl (.there .here) T24 .here rfl c11.1 c11.2 rfl ?_; clear S a; intro a S
          refine s_assign S rfl rfl ?_; clear S a; intro a S
          refine c_end ?_
          refine c_region ?_
          refine s_move S rfl rfl ?_; clear S a; intro a S
          refine s_move S rfl rfl ?_; clear S a; intro a S
          refine s_move S rfl rfl ?_; clear S a; intro a S
          refine s_iaddr S rfl rfl Tryd.underlying100 T3 c10.1 c10.2 (mul1 _ _) rfl ?_; clear S a; intro a S
          refine s_loadiF S (i := y65) rfl (.there (.there (.there (.there .here)))) T3 .here rfl c10.1 c10.2 rfl ?_; clear S a; intro a S
          obtain ⟨t1, et1, h4⟩ := bind_of h3; clear h3
          refine s_callP S (fun (ch : Unit) => ((.v (.int .u64 t1)) : D)) N55 rfl rfl (bits_RotateLeft64.ok y66 (rd tbl_keccak_turns y65) t1 et1 _ _) ?_; clear S a w; intro ch1 m le1 a w S
          refine s_iaddr S rfl rfl Tryd.underlying73 T24 c11.1 c11.2 (mul1 _ _) rfl ?_; clear S a; intro a S
          refine s_storei S (i := (rd tbl_keccak_places y65)) rfl rfl (.there .here) T24 .here rfl c11.1 c11.2 ?_; clear S w; intro w S
          refine c_end ?_
          refine c_region' ?_
          refine s_move S rfl rfl ?_; clear S a; intro a S
          refine s_assign S rfl rfl ?_; clear S a; intro a S
          refine c_end' ?_
          refine x_blockN ?_
          refine x_thenN ?_
          refine c_region' ?_
          refine s_bin S rfl rfl rfl rfl ?_; clear S a; intro a S
          refine s_move S rfl rfl ?_; clear S a; intro a S
          refine c_end' ?_
          refine x_thenN ?_
          exact ⟨_, (wr .i64 (y65 + 1)), (rd y67 (rd tbl_keccak_places y65)), g147, g148, (y67.set (Int.toNat (rd tbl_keccak_places y65)) t1), (S.sub ⟨rfl, rfl, rfl, rfl, rfl, trivial⟩ (.cons .here (.cons .here (.cons .here (.cons .here (.cons .here .nil)))))), h4⟩
        · refine c_condF S rfl c9 ?_
          refine wp_exit ?_
          refine x_thenX ?_
          refine x_thenX ?_
          refine x_blockX ?_
          refine x_thenN ?_
          exact j3 _ g147 g148 y67 a w (S.sub ⟨rfl, rfl, trivial⟩ (.cons .here (.cons .here (.cons .here (.cons .here (.cons .here .nil)))))) h1
    refine c_region ?_
    refine s_move S rfl rfl ?_; clear S a; intro a S
    refine c_end ?_
    refine wp_block ?_
    refine c_loop (fun q4 a w => ∃ (m : Mem) (y80 : Int) (g179 : Nat) (g180 : Nat) (g181 : Nat) (y81 : List Int), St 126 m b0 [(44, (.v (.int .i64 y80))), (3, (.v (.pointer (some ⟨g179, 0, none⟩)))), (2, (.v (.pointer (some ⟨g180, 0, none⟩)))), (1, (.v (.pointer (some ⟨g181, 0, none⟩))))] [Res.cells g179 97 [.ints .u64 y1 5], Res.cells g180 73 [.ints .u64 [0, 0, 0, 0, 0, 0, 0, 0, 0, 0, 0, 0, 0, 0, 0, 0, 0, 0, 0, 0, 0, 0, 0, 0, 0] 25], Res.cells g181 73 [.ints .u64 y81 25], Res.fro 0 91 [.ints .u64 tbl_keccak_constants 24], Res.fro 1 100 [.ints .i64 tbl_keccak_places 24], Res.fro 2 100 [.ints .i64 tbl_keccak_turns 24]] a w ∧ keccak_round.l4 k y1 q4 y80 y81 = some r) ?_ ?_ (k := k) ⟨_, 0, g13, g14, g15, x1, (S.sub ⟨rfl, rfl, rfl, rfl, trivial⟩ (.cons .here (.cons .here (.cons .here (.cons .here (.cons .here (.cons .here .nil))))))), h0⟩
    · rintro a w ⟨m, y80, g179, g180, g181, y81, S, h0⟩
      exact (nomatch (show (none : Option ((List Int))) = some r from h0))
    · clear S h0
      rintro q4 a w ⟨m, y80, g179, g180, g181, y81, S, h0⟩
      replace h0 : keccak_round.b4 k y1 (keccak_round.l4 k y1 q4) y80 y81 = some r := h0
      delta keccak_round.b4 at h0
      refine c_region ?_
      refine s_bin S rfl rfl rfl rfl ?_; clear S a; intro a S
      refine c_end ?_
      refine wp_seq ?_
      rcases ite_of h0 with ⟨c12, h1⟩ | ⟨c12, h1⟩ <;> clear h0
      · refine c_condT S rfl c12 ?_
        refine wp_skip ?_
        refine x_thenN ?_
        refine wp_seq_k ?_
        intro K6 hK6
        have j6 : ∀ (m : Mem) (g191 : Nat) (g192 : Nat) (g193 : Nat) (y86 : List Int) (a : Act) (w : World), St 126 m b0 [(44, (.v (.int .i64 y80))), (3, (.v (.pointer (some ⟨g191, 0, none⟩)))), (2, (.v (.pointer (some ⟨g192, 0, none⟩)))), (1, (.v (.pointer (some ⟨g193, 0, none⟩))))] [Res.cells g191 97 [.ints .u64 y1 5], Res.cells g192 73 [.ints .u64 [0, 0, 0, 0, 0, 0, 0, 0, 0, 0, 0, 0, 0, 0, 0, 0, 0, 0, 0, 0, 0, 0, 0, 0, 0] 25], Res.cells g193 73 [.ints .u64 y86 25], Res.fro 0 91 [.ints .u64 tbl_keccak_constants 24], Res.fro 1 100 [.ints .i64 tbl_keccak_places 24], Res.fro 2 100 [.ints .i64 tbl_keccak_turns 24]] a w → keccak_round.j6 y80 (keccak_round.l4 k y1 q4) y86 = some r → K6 a w := by
          intro m g191 g192 g193 y86 a w S h0
          delta keccak_round.j6 at h0
          refine hK6 a w ?_
          refine c_region' ?_
          refine s_bin S rfl rfl rfl rfl ?_; clear S a; intro a S
          refine s_move S rfl rfl ?_; clear S a; intro a S
          refine c_end' ?_
          refine x_thenN ?_
          exact ⟨_, (wr .i64 (y80 + 1)), g191, g192, g193, y86, (S.sub ⟨rfl, rfl, rfl, rfl, trivial⟩ (.cons .here (.cons .here (.cons .here (.cons .here (.cons .here (.cons .here .nil))))))), h0⟩
        refine wp_block ?_
        refine c_region ?_
        refine s_move S rfl rfl ?_; clear S a; intro a S
        refine s_assign S rfl rfl ?_; clear S a; intro a S
        refine c_end ?_
        refine wp_seq (c_heldS S (.take 0 (.take 1 (.take 2 (.take 3 (.take 4 (.take 5 (.take 6 (.take 7 (.take 8 (.take 9 (.alts (.run 10 true (.take 11 (.take 12 .done)) .nil)))))))))))) 13 [Res.cells g179 97 [.ints .u64 y1 5], Res.cells g180 73 [.ints .u64 [0, 0, 0, 0, 0, 0, 0, 0, 0, 0, 0, 0, 0, 0, 0, 0, 0, 0, 0, 0, 0, 0, 0, 0, 0] 25], Res.cells g181 73 [.ints .u64 y81 25], Res.fro 0 91 [.ints .u64 tbl_keccak_constants 24], Res.fro 1 100 [.ints .i64 tbl_keccak_places 24], Res.fro 2 100 [.ints .i64 tbl_keccak_turns 24]] (.cons .here (.cons .here (.cons .here (.cons .here (.cons .here (.cons .here .nil)))))) ⟨Res.stay_cells, Res.stay_cells, Res.stay_cells, Res.stay_fro, Res.stay_fro, Res.stay_fro, trivial⟩ [(5, (.v (.int .i64 y80))), (3, (.v (.pointer (some ⟨g179, 0, none⟩))))] ⟨rfl, rfl, trivial⟩ (by kernel_rfl) (by kernel_rfl) ?_); clear S; intro w S CL hw le
        refine h_move S CL hw le ⟨rfl, rfl, trivial⟩ rfl rfl rfl trivial ?_; clear S CL a; intro a S CL
        refine h_bin S CL hw le ⟨rfl, rfl, rfl, trivial⟩ rfl rfl rfl rfl rfl trivial ?_; clear S CL a; intro a S CL
        refine h_rem S CL hw le ⟨rfl, rfl, rfl, rfl, trivial⟩ rfl rfl (by decide) rfl rfl trivial ?_; clear S CL a; intro a S CL
        obtain ⟨c13, h2⟩ := chk_of h1; clear h1
        refine h_iaddr S CL hw le ⟨rfl, rfl, rfl, rfl, rfl, trivial⟩ rfl rfl Tryd.underlying97 T24 c13.1 c13.2 (mul1 _ _) rfl rfl trivial ?_; clear S CL a; intro a S CL
        refine h_loadi S CL hw le ⟨rfl, rfl, rfl, rfl, rfl, rfl, trivial⟩ (i := (Int.tmod (wr .i64 (y80 + 4)) 5)) rfl .here T24 .here rfl c13.1 c13.2 rfl rfl trivial ?_; clear S CL a; intro a S CL
        refine h_move S CL hw le ⟨rfl, rfl, rfl, rfl, rfl, rfl, rfl, trivial⟩ rfl rfl rfl trivial ?_; clear S CL a; intro a S CL
        refine h_bin S CL hw le ⟨rfl, rfl, rfl, rfl, rfl, rfl, rfl, rfl, trivial⟩ rfl rfl rfl rfl rfl trivial ?_; clear S CL a; intro a S CL
        refine h_rem S CL hw le ⟨rfl, rfl, rfl, rfl, rfl, rfl, rfl, rfl, rfl, trivial⟩ rfl rfl (by decide) rfl rfl trivial ?_; clear S CL a; intro a S CL
        obtain ⟨c14, h3⟩ := chk_of h2; clear h2
        refine h_iaddr S CL hw le ⟨rfl, rfl, rfl, rfl, rfl, rfl, rfl, rfl, rfl, rfl, trivial⟩ rfl rfl Tryd.underlying97 T24 c14.1 c14.2 (mul1 _ _) rfl rfl trivial ?_; clear S CL a; intro a S CL
        refine h_loadi S CL hw le ⟨rfl, rfl, rfl, rfl, rfl, rfl, rfl, rfl, rfl, rfl, rfl, trivial⟩ (i := (Int.tmod (wr .i64 (y80 + 1)) 5)) rfl .here T24 .here rfl c14.1 c14.2 rfl rfl trivial ?_; clear S CL a; intro a S CL
        refine h_run' S rfl trivial ?_
        obtain ⟨t3, et3, h4⟩ := bind_of h3; clear h3
        refine s_callP S (fun (ch : Unit) => ((.v (.int .u64 t3)) : D)) N55 rfl rfl (bits_RotateLeft64.ok (rd y1 (Int.tmod (wr .i64 (y80 + 1)) 5)) 1 t3 et3 _ _) ?_; clear S a; intro ch2 m le1 a w S
        replace le := le.trans le1
        replace hw := CL.again hw S (.cons .here (.cons .here (.cons .here (.cons .here (.cons .here (.cons .here .nil)))))) le
        refine h_back ⟨fun _ => hw, ?_⟩
        replace CL := CL.add (t := 57) (d := (.v (.int .u64 t3))) S rfl rfl
        refine h_bin S CL hw le ⟨rfl, rfl, rfl, rfl, rfl, rfl, rfl, rfl, rfl, rfl, rfl, rfl, rfl, trivial⟩ rfl rfl rfl rfl rfl trivial ?_; clear S CL a; intro a S CL
        refine h_assign S CL hw le ⟨rfl, rfl, rfl, rfl, rfl, rfl, rfl, rfl, rfl, rfl, rfl, rfl, rfl, rfl, trivial⟩ rfl rfl rfl trivial ?_; clear S CL a; intro a S CL
        refine h_done ?_; clear CL hw le
        refine x_thenN ?_
        refine c_region ?_
        refine s_assign S rfl rfl ?_; clear S a; intro a S
        refine c_end ?_
        refine wp_block ?_
        refine c_loop (fun q5 a w => ∃ (m : Mem) (y89 : Int) (g200 : Nat) (g201 : Nat) (g202 : Nat) (y90 : List Int), St 126 m b0 [(7, (.v (.int .i64 y89))), (6, (.v (.int .u64 (bits .xor .u64 (rd y1 (Int.tmod (wr .i64 (y80 + 4)) 5)) t3)))), (5, (.v (.int .i64 y80))), (44, (.v (.int .i64 y80))), (3, (.v (.pointer (some ⟨g200, 0, none⟩)))), (2, (.v (.pointer (some ⟨g201, 0, none⟩)))), (1, (.v (.pointer (some ⟨g202, 0, none⟩))))] [Res.cells g200 97 [.ints .u64 y1 5], Res.cells g201 73 [.ints .u64 [0, 0, 0, 0, 0, 0, 0, 0, 0, 0, 0, 0, 0, 0, 0, 0, 0, 0, 0, 0, 0, 0, 0, 0, 0] 25], Res.cells g202 73 [.ints .u64 y90 25], Res.fro 0 91 [.ints .u64 tbl_keccak_constants 24], Res.fro 1 100 [.ints .i64 tbl_keccak_places 24], Res.fro 2 100 [.ints .i64 tbl_keccak_turns 24]] a w ∧ keccak_round.l5 y1 y80 (keccak_round.l4 k y1 q4) t3 q5 y89 y90 = some r) ?_ ?_ (k := k) ⟨_, 0, g179, g180, g181, y81, (S.sub ⟨rfl, rfl, rfl, rfl, rfl, rfl, rfl, trivial⟩ (.cons .here (.cons .here (.cons .here (.cons .here (.cons .here (.cons .here .nil))))))), h4⟩
        · rintro a w ⟨m, y89, g200, g201, g202, y90, S, h0⟩
          exact (nomatch (show (none : Option ((List Int))) = some r from h0))
        · clear S h4
          rintro q5 a w ⟨m, y89, g200, g201, g202, y90, S, h0⟩
          replace h0 : keccak_round.b5 y1 y80 (keccak_round.l4 k y1 q4) t3 (keccak_round.l5 y1 y80 (keccak_round.l4 k y1 q4) t3 q5) y89 y90 = some r := h0
          delta keccak_round.b5 at h0
          refine wp_seq ?_
          refine c_region ?_
          refine s_move S rfl rfl ?_; clear S a; intro a S
          refine s_bin S rfl rfl rfl rfl ?_; clear S a; intro a S
          refine c_end ?_
          rcases ite_of h0 with ⟨c15, h1⟩ | ⟨c15, h1⟩ <;> clear h0
          · refine c_condT S rfl c15 ?_
            refine wp_skip ?_
            refine x_thenN ?_
            refine wp_seq ?_
            refine wp_block ?_
            refine c_region' ?_
            refine s_move S rfl rfl ?_; clear S a; intro a S
            refine s_move S rfl rfl ?_; clear S a; intro a S
            refine s_bin S rfl rfl rfl rfl ?_; clear S a; intro a S
            obtain ⟨c16, h2⟩ := chk_of h1; clear h1
            refine s_iaddr S rfl rfl Tryd.underlying73 T24 c16.1 c16.2 (mul1 _ _) rfl ?_; clear S a; intro a S
            refine s_loadi S (i := (wr .i64 (y80 + y89))) rfl (.there (.there .here)) T24 .here rfl c16.1 c16.2 rfl ?_; clear S a; intro a S
            refine s_move S rfl rfl ?_; clear S a; intro a S
            refine s_bin S rfl rfl rfl rfl ?_; clear S a; intro a S
            refine s_iaddr S rfl rfl Tryd.underlying73 T24 c16.1 c16.2 (mul1 _ _) rfl ?_; clear S a; intro a S
            refine s_storei S (i := (wr .i64 (y80 + y89))) rfl rfl (.there (.there .here)) T24 .here rfl c16.1 c16.2 ?_; clear S w; intro w S
            refine c_end' ?_
            refine x_blockN ?_
            refine x_thenN ?_
            refine c_region' ?_
            refine s_move S rfl rfl ?_; clear S a; intro a S
            refine s_bin S rfl rfl rfl rfl ?_; clear S a; intro a S
            refine s_assign S rfl rfl ?_; clear S a; intro a S
            refine c_end' ?_
            refine x_thenN ?_
            exact ⟨_, (wr .i64 (y89 + 5)), g200, g201, g202, (y90.set (Int.toNat (wr .i64 (y80 + y89))) (bits .xor .u64 (rd y90 (wr .i64 (y80 + y89))) (bits .xor .u64 (rd y1 (Int.tmod (wr .i64 (y80 + 4)) 5)) t3))), (S.sub ⟨rfl, rfl, rfl, rfl, rfl, rfl, rfl, trivial⟩ (.cons .here (.cons .here (.cons .here (.cons .here (.cons .here (.cons .here .nil))))))), h2⟩
          · refine c_condF S rfl c15 ?_
            refine wp_exit ?_
            refine x_thenX ?_
            refine x_thenX ?_
            refine x_blockX ?_
            refine x_blockN ?_
            refine x_thenN ?_
            exact j6 _ g200 g201 g202 y90 a w (S.sub ⟨rfl, rfl, rfl, rfl, trivial⟩ (.cons .here (.cons .here (.cons .here (.cons .here (.cons .here (.cons .here .nil))))))) h1
      · refine c_condF S rfl c12 ?_
        refine wp_exit ?_
        refine x_thenX ?_
        refine x_thenX ?_
        refine x_blockX ?_
        refine x_thenN ?_
        exact j2 _ g180 g181 y81 a w (S.sub ⟨rfl, rfl, trivial⟩ (.cons (.there .here) (.cons (.there .here) (.cons (.there .here) (.cons (.there .here) (.cons (.there .here) .nil)))))) h1
  refine c_region ?_
  refine s_move S rfl rfl ?_; clear S a; intro a S
  refine c_end ?_
  refine wp_block ?_
  refine c_loop (fun q6 a w => ∃ (m : Mem) (y93 : Int) (g209 : Nat) (g210 : Nat) (g211 : Nat) (y94 : List Int), St 126 m b0 [(15, (.v (.int .i64 y93))), (3, (.v (.pointer (some ⟨g209, 0, none⟩)))), (2, (.v (.pointer (some ⟨g210, 0, none⟩)))), (1, (.v (.pointer (some ⟨g211, 0, none⟩))))] [Res.cells g209 97 [.ints .u64 y94 5], Res.cells g210 73 [.ints .u64 [0, 0, 0, 0, 0, 0, 0, 0, 0, 0, 0, 0, 0, 0, 0, 0, 0, 0, 0, 0, 0, 0, 0, 0, 0] 25], Res.cells g211 73 [.ints .u64 x1 25], Res.fro 0 91 [.ints .u64 tbl_keccak_constants 24], Res.fro 1 100 [.ints .i64 tbl_keccak_places 24], Res.fro 2 100 [.ints .i64 tbl_keccak_turns 24]] a w ∧ keccak_round.l6 k x1 q6 y93 y94 = some r) ?_ ?_ (k := k) ⟨_, 0, g3, g2, g1, [0, 0, 0, 0, 0], (S.sub ⟨rfl, rfl, rfl, rfl, trivial⟩ (.cons .here (.cons .here (.cons .here (.cons .here (.cons .here (.cons .here .nil))))))), h0⟩
  · rintro a w ⟨m, y93, g209, g210, g211, y94, S, h0⟩
    exact (nomatch (show (none : Option ((List Int))) = some r from h0))
  · clear S h0
    rintro q6 a w ⟨m, y93, g209, g210, g211, y94, S, h0⟩
    replace h0 : keccak_round.b6 k x1 (keccak_round.l6 k x1 q6) y93 y94 = some r := h0
    delta keccak_round.b6 at h0
    refine c_region ?_
    refine s_bin S rfl rfl rfl rfl ?_; clear S a; intro a S
    refine c_end ?_
    refine wp_seq ?_
    rcases ite_of h0 with ⟨c17, h1⟩ | ⟨c17, h1⟩ <;> clear h0
    · refine c_condT S rfl c17 ?_
      refine wp_skip ?_
      refine x_thenN ?_
      refine wp_seq ?_
      refine wp_block ?_
      refine c_region ?_
      refine s_move S rfl rfl ?_; clear S a; intro a S
      refine s_assign S rfl rfl ?_; clear S a; intro a S
      refine c_end ?_
      refine c_heldS S (.take 0 (.take 1 (.take 2 (.take 3 (.take 4 (.take 5 (.take 6 (.take 7 (.take 8 (.take 9 (.take 10 (.take 11 (.take 12 (.take 13 (.take 14 (.take 15 (.take 16 (.take 17 (.take 18 (.take 19 (.take 20 (.take 21 (.take 22 (.take 23 (.take 24 (.alts (.run 25 false .done .nil))))))))))))))))))))))))))) 25 [Res.cells g209 97 [.ints .u64 y94 5], Res.cells g210 73 [.ints .u64 [0, 0, 0, 0, 0, 0, 0, 0, 0, 0, 0, 0, 0, 0, 0, 0, 0, 0, 0, 0, 0, 0, 0, 0, 0] 25], Res.cells g211 73 [.ints .u64 x1 25], Res.fro 0 91 [.ints .u64 tbl_keccak_constants 24], Res.fro 1 100 [.ints .i64 tbl_keccak_places 24], Res.fro 2 100 [.ints .i64 tbl_keccak_turns 24]] (.cons .here (.cons .here (.cons .here (.cons .here (.cons .here (.cons .here .nil)))))) ⟨Res.stay_cells, Res.stay_cells, Res.stay_cells, Res.stay_fro, Res.stay_fro, Res.stay_fro, trivial⟩ [(4, (.v (.int .i64 y93))), (3, (.v (.pointer (some ⟨g209, 0, none⟩)))), (1, (.v (.pointer (some ⟨g211, 0, none⟩))))] ⟨rfl, rfl, rfl, trivial⟩ (by kernel_rfl) (by kernel_rfl) ?_; clear S; intro w S CL hw le
      refine h_move S CL hw le ⟨rfl, rfl, rfl, trivial⟩ rfl rfl rfl trivial ?_; clear S CL a; intro a S CL
      refine h_move S CL hw le ⟨rfl, rfl, rfl, rfl, trivial⟩ rfl rfl rfl trivial ?_; clear S CL a; intro a S CL
      obtain ⟨c18, h2⟩ := chk_of h1; clear h1
      refine h_iaddr S CL hw le ⟨rfl, rfl, rfl, rfl, rfl, trivial⟩ rfl rfl Tryd.underlying73 T24 c18.1 c18.2 (mul1 _ _) rfl rfl trivial ?_; clear S CL a; intro a S CL
      refine h_loadi S CL hw le ⟨rfl, rfl, rfl, rfl, rfl, rfl, trivial⟩ (i := y93) rfl (.there (.there .here)) T24 .here rfl c18.1 c18.2 rfl rfl trivial ?_; clear S CL a; intro a S CL
      refine h_move S CL hw le ⟨rfl, rfl, rfl, rfl, rfl, rfl, rfl, trivial⟩ rfl rfl rfl trivial ?_; clear S CL a; intro a S CL
      refine h_bin S CL hw le ⟨rfl, rfl, rfl, rfl, rfl, rfl, rfl, rfl, trivial⟩ rfl rfl rfl rfl rfl trivial ?_; clear S CL a; intro a S CL
      obtain ⟨c19, h3⟩ := chk_of h2; clear h2
      refine h_iaddr S CL hw le ⟨rfl, rfl, rfl, rfl, rfl, rfl, rfl, rfl, rfl, trivial⟩ rfl rfl Tryd.underlying73 T24 c19.1 c19.2 (mul1 _ _) rfl rfl trivial ?_; clear S CL a; intro a S CL
      refine h_loadi S CL hw le ⟨rfl, rfl, rfl, rfl, rfl, rfl, rfl, rfl, rfl, rfl, trivial⟩ (i := (wr .i64 (y93 + 5))) rfl (.there (.there .here)) T24 .here rfl c19.1 c19.2 rfl rfl trivial ?_; clear S CL a; intro a S CL
      refine h_bin S CL hw le ⟨rfl, rfl, rfl, rfl, rfl, rfl, rfl, rfl, rfl, rfl, rfl, trivial⟩ rfl rfl rfl rfl rfl trivial ?_; clear S CL a; intro a S CL
      refine h_move S CL hw le ⟨rfl, rfl, rfl, rfl, rfl, rfl, rfl, rfl, rfl, rfl, rfl, rfl, trivial⟩ rfl rfl rfl trivial ?_; clear S CL a; intro a S CL
      refine h_bin S CL hw le ⟨rfl, rfl, rfl, rfl, rfl, rfl, rfl, rfl, rfl, rfl, rfl, rfl, rfl, trivial⟩ rfl rfl rfl rfl rfl trivial ?_; clear S CL a; intro a S CL
      obtain ⟨c20, h4⟩ := chk_of h3; clear h3
      refine h_iaddr S CL hw le ⟨rfl, rfl, rfl, rfl, rfl, rfl, rfl, rfl, rfl, rfl, rfl, rfl, rfl, rfl, trivial⟩ rfl rfl Tryd.underlying73 T24 c20.1 c20.2 (mul1 _ _) rfl rfl trivial ?_; clear S CL a; intro a S CL
      refine h_loadi S CL hw le ⟨rfl, rfl, rfl, rfl, rfl, rfl, rfl, rfl, rfl, rfl, rfl, rfl, rfl, rfl, rfl, trivial⟩ (i := (wr .i64 (y93 + 10))) rfl (.there (.there .here)) T24 .here rfl c20.1 c20.2 rfl rfl trivial ?_; clear S CL a; intro a S CL
      refine h_bin S CL hw le ⟨rfl, rfl, rfl, rfl, rfl, rfl, rfl, rfl, rfl, rfl, rfl, rfl, rfl, rfl, rfl, rfl, trivial⟩ rfl rfl rfl rfl rfl trivial ?_; clear S CL a; intro a S CL
      refine h_move S CL hw le ⟨rfl, rfl, rfl, rfl, rfl, rfl, rfl, rfl, rfl, rfl, rfl, rfl, rfl, rfl, rfl, rfl, rfl, trivial⟩ rfl rfl rfl trivial ?_; clear S CL a; intro a S CL
      refine h_bin S CL hw le ⟨rfl, rfl, rfl, rfl, rfl, rfl, rfl, rfl, rfl, rfl, rfl, rfl, rfl, rfl, rfl, rfl, rfl, rfl, trivial⟩ rfl rfl rfl rfl rfl trivial ?_; clear S CL a; intro a S CL
      obtain ⟨c21, h5⟩ := chk_of h4; clear h4
      refine h_iaddr S CL hw le ⟨rfl, rfl, rfl, rfl, rfl, rfl, rfl, rfl, rfl, rfl, rfl, rfl, rfl, rfl, rfl, rfl, rfl, rfl, rfl, trivial⟩ rfl rfl Tryd.underlying73 T24 c21.1 c21.2 (mul1 _ _) rfl rfl trivial ?_; clear S CL a; intro a S CL
      refine h_loadi S CL hw le ⟨rfl, rfl, rfl, rfl, rfl, rfl, rfl, rfl, rfl, rfl, rfl, rfl, rfl, rfl, rfl, rfl, rfl, rfl, rfl, rfl, trivial⟩ (i := (wr .i64 (y93 + 15))) rfl (.there (.there .here)) T24 .here rfl c21.1 c21.2 rfl rfl trivial ?_; clear S CL a; intro a S CL
      refine h_bin S CL hw le ⟨rfl, rfl, rfl, rfl, rfl, rfl, rfl, rfl, rfl, rfl, rfl, rfl, rfl, rfl, rfl, rfl, rfl, rfl, rfl, rfl, rfl, trivial⟩ rfl rfl rfl rfl rfl trivial ?_; clear S CL a; intro a S CL
      refine h_move S CL hw le ⟨rfl, rfl, rfl, rfl, rfl, rfl, rfl, rfl, rfl, rfl, rfl, rfl, rfl, rfl, rfl, rfl, rfl, rfl, rfl, rfl, rfl, rfl, trivial⟩ rfl rfl rfl trivial ?_; clear S CL a; intro a S CL
      refine h_bin S CL hw le ⟨rfl, rfl, rfl, rfl, rfl, rfl, rfl, rfl, rfl, rfl, rfl, rfl, rfl, rfl, rfl, rfl, rfl, rfl, rfl, rfl, rfl, rfl, rfl, trivial⟩ rfl rfl rfl rfl rfl trivial ?_; clear S CL a; intro a S CL
      obtain ⟨c22, h6⟩ := chk_of h5; clear h5
      refine h_iaddr S CL hw le ⟨rfl, rfl, rfl, rfl, rfl, rfl, rfl, rfl, rfl, rfl, rfl, rfl, rfl, rfl, rfl, rfl, rfl, rfl, rfl, rfl, rfl, rfl, rfl, rfl, trivial⟩ rfl rfl Tryd.underlying73 T24 c22.1 c22.2 (mul1 _ _) rfl rfl trivial ?_; clear S CL a; intro a S CL
      refine h_loadi S CL hw le ⟨rfl, rfl, rfl, rfl, rfl, rfl, rfl, rfl, rfl, rfl, rfl, rfl, rfl, rfl, rfl, rfl, rfl, rfl, rfl, rfl, rfl, rfl, rfl, rfl, rfl, trivial⟩ (i := (wr .i64 (y93 + 20))) rfl (.there (.there .here)) T24 .here rfl c22.1 c22.2 rfl rfl trivial ?_; clear S CL a; intro a S CL
      refine h_bin S CL hw le ⟨rfl, rfl, rfl, rfl, rfl, rfl, rfl, rfl, rfl, rfl, rfl, rfl, rfl, rfl, rfl, rfl, rfl, rfl, rfl, rfl, rfl, rfl, rfl, rfl, rfl, rfl, trivial⟩ rfl rfl rfl rfl rfl trivial ?_; clear S CL a; intro a S CL
      obtain ⟨c23, h7⟩ := chk_of h6; clear h6
      refine h_iaddr S CL hw le ⟨rfl, rfl, rfl, rfl, rfl, rfl, rfl, rfl, rfl, rfl, rfl, rfl, rfl, rfl, rfl, rfl, rfl, rfl, rfl, rfl, rfl, rfl, rfl, rfl, rfl, rfl, rfl, trivial⟩ rfl rfl Tryd.underlying97 T24 c23.1 c23.2 (mul1 _ _) rfl rfl trivial ?_; clear S CL a; intro a S CL
      refine h_run' S rfl trivial ?_
      refine s_storei S (i := y93) rfl rfl .here T24 .here rfl c23.1 c23.2 ?_; clear S; intro w S
      refine h_back ⟨fun h => (nomatch h), ?_⟩
      refine h_done ?_; clear CL hw le
      refine x_blockN ?_
      refine x_thenN ?_
      refine c_region' ?_
      refine s_bin S rfl rfl rfl rfl ?_; clear S a; intro a S
      refine s_move S rfl rfl ?_; clear S a; intro a S
      refine c_end' ?_
      refine x_thenN ?_
      exact ⟨_, (wr .i64 (y93 + 1)), g209, g210, g211, (y94.set (Int.toNat y93) (bits .xor .u64 (bits .xor .u64 (bits .xor .u64 (bits .xor .u64 (rd x1 y93) (rd x1 (wr .i64 (y93 + 5)))) (rd x1 (wr .i64 (y93 + 10)))) (rd x1 (wr .i64 (y93 + 15)))) (rd x1 (wr .i64 (y93 + 20))))), (S.sub ⟨rfl, rfl, rfl, rfl, trivial⟩ (.cons .here (.cons .here (.cons .here (.cons .here (.cons .here (.cons .here .nil))))))), h7⟩
    · refine c_condF S rfl c17 ?_
      refine wp_exit ?_
      refine x_thenX ?_
      refine x_thenX ?_
      refine x_blockX ?_
      refine x_thenN ?_
      exact j1 _ g209 g210 g211 y94 a w (S.sub ⟨rfl, rfl, rfl, trivial⟩ (.cons .here (.cons .here (.cons .here (.cons .here (.cons .here (.cons .here .nil))))))) h1
/-! smithy/keccak.Turn -/
abbrev keccak_Turn.Ty : Type := (List Int) → Option ((List Int))
def keccak_Turn.Ctr (s : keccak_Turn.Ty) : Prop := ∀ (x1 : List Int) (r : (List Int)) (h0 : s x1 = some r) (mi : Mem) (w0 : World) (G : Glob mi), okL mi [(.agg [.ints .u64 x1 25])] → Pre mi [] w0 → Calls Tryd.prog 45 (([(.agg [.ints .u64 x1 25])] : List D).map D.val).toArray w0 (RetX mi [] (fun (ch : Unit) => ((.agg [.ints .u64 r 25]) : D)) (fun (ch : Unit) => []) w0)
def keccak_Turn.j1 (y1 : List Int) : Option ((List Int)) := some y1
def keccak_Turn.b1 (k : Nat) (rec1 : Int → (List Int) → Option ((List Int))) (y4 : Int) (y5 : List Int) : Option ((List Int)) := if (decide (y4 < 24)) = true then (if (0 : Int) ≤ y4 ∧ y4 < 24 then ((keccak_round.f k y5).bind fun t1 => (rec1 (wr .i64 (y4 + 1)) (t1.set (Int.toNat 0) (bits .xor .u64 (rd t1 0) (rd tbl_keccak_constants y4))))) else none) else (keccak_Turn.j1 y5)
def keccak_Turn.l1 (k : Nat) : Nat → Int → (List Int) → Option ((List Int))
  | 0, _, _ => none
  | q + 1, y4, y5 => keccak_Turn.b1 k (keccak_Turn.l1 k q) y4 y5
def keccak_Turn.f (k : Nat) (x1 : List Int) : Option ((List Int)) := keccak_Turn.l1 k k 0 x1
theorem keccak_Turn.ok (k : Nat) : keccak_Turn.Ctr (keccak_Turn.f k) := by
  intro x1 r h0 mi w0 G ok hm
  delta keccak_Turn.f at h0
  refine c_enterX (n := 18) [(.agg [.ints .u64 x1 25])] (l := [(0, (.agg [.ints .u64 x1 25]))]) Tryd.func45 rfl rfl rfl rfl ok hm ?_
  clear ok hm
  intro b0 hb a S
  replace S := S.addfro (g := 2) 100 G.2.2
  replace S := S.addfro (g := 1) 100 G.2.1
  replace S := S.addfro (g := 0) 91 G.1
  refine c_region ?_
  refine s_box S rfl rfl rfl ?_; clear S a; intro g1 a w S
  refine s_alloc S Z73 rfl ⟨rfl, trivial⟩ rfl ?_; clear S a w; intro g2 a w S
  refine c_end ?_
  refine wp_seq_k ?_
  intro K1 hK1
  have j1 : ∀ (m : Mem) (g9 : Nat) (g10 : Nat) (y1 : List Int) (a : Act) (w : World), St 18 m b0 [(2, (.v (.pointer (some ⟨g9, 0, none⟩)))), (1, (.v (.pointer (some ⟨g10, 0, none⟩))))] [Res.cells g9 73 [.ints .u64 [0, 0, 0, 0, 0, 0, 0, 0, 0, 0, 0, 0, 0, 0, 0, 0, 0, 0, 0, 0, 0, 0, 0, 0, 0] 25], Res.cells g10 73 [.ints .u64 y1 25], Res.fro 0 91 [.ints .u64 tbl_keccak_constants 24], Res.fro 1 100 [.ints .i64 tbl_keccak_places 24], Res.fro 2 100 [.ints .i64 tbl_keccak_turns 24]] a w → keccak_Turn.j1 y1 = some r → K1 a w := by
    intro m g9 g10 y1 a w S h0
    delta keccak_Turn.j1 at h0
    refine hK1 a w ?_
    refine c_region ?_
    refine s_loada S rfl (.there .here) T73 (s' := [.ints .u64 y1 25]) rfl rfl ?_; clear S a; intro a S
    refine s_store S rfl rfl rfl (s' := [.ints .u64 y1 25]) .here T73 rfl rfl ?_; clear S w; intro w S
    refine c_end ?_
    refine wp_ret ?_
    obtain rfl := Option.some.inj h0
    exact b_ret1 (d := (.agg [.ints .u64 y1 25])) S rfl (resD_cell rfl .here T73 rfl rfl) fun ok => S.retX (Hx := []) hb _ _ (() : Unit) .nil ok
  refine c_region ?_
  refine s_loadaF S rfl (.there (.there .here)) T91 (s' := [.ints .u64 tbl_keccak_constants 24]) rfl rfl ?_; clear S a; intro a S
  refine s_move S rfl rfl ?_; clear S a; intro a S
  refine c_end ?_
  refine wp_block ?_
  refine c_loop (fun q1 a w => ∃ (m : Mem) (y4 : Int) (g15 : Nat) (g16 : Nat) (y5 : List Int), St 18 m b0 [(6, (.v (.int .i64 y4))), (5, (.agg [.ints .u64 tbl_keccak_constants 24])), (2, (.v (.pointer (some ⟨g15, 0, none⟩)))), (1, (.v (.pointer (some ⟨g16, 0, none⟩))))] [Res.cells g15 73 [.ints .u64 [0, 0, 0, 0, 0, 0, 0, 0, 0, 0, 0, 0, 0, 0, 0, 0, 0, 0, 0, 0, 0, 0, 0, 0, 0] 25], Res.cells g16 73 [.ints .u64 y5 25], Res.fro 0 91 [.ints .u64 tbl_keccak_constants 24], Res.fro 1 100 [.ints .i64 tbl_keccak_places 24], Res.fro 2 100 [.ints .i64 tbl_keccak_turns 24]] a w ∧ keccak_Turn.l1 k q1 y4 y5 = some r) ?_ ?_ (k := k) ⟨_, 0, g2, g1, x1, (S.sub ⟨rfl, rfl, rfl, rfl, trivial⟩ (.cons .here (.cons .here (.cons .here (.cons .here (.cons .here .nil)))))), h0⟩
  · rintro a w ⟨m, y4, g15, g16, y5, S, h0⟩
    exact (nomatch (show (none : Option ((List Int))) = some r from h0))
  · clear S h0
    rintro q1 a w ⟨m, y4, g15, g16, y5, S, h0⟩
    replace h0 : keccak_Turn.b1 k (keccak_Turn.l1 k q1) y4 y5 = some r := h0
    delta keccak_Turn.b1 at h0
    refine c_region ?_
    refine s_bin S rfl rfl rfl rfl ?_; clear S a; intro a S
    refine c_end ?_
    refine wp_seq ?_
    rcases ite_of h0 with ⟨c1, h1⟩ | ⟨c1, h1⟩ <;> clear h0
    · refine c_condT S rfl c1 ?_
      refine wp_skip ?_
      refine x_thenN ?_
      refine wp_seq ?_
      refine wp_block ?_
      refine c_region ?_
      obtain ⟨c2, h2⟩ := chk_of h1; clear h1
      refine s_index S rfl rfl Tryd.underlying91 T24 c2.1 c2.2 rfl ?_; clear S a; intro a S
      refine s_assign S rfl rfl ?_; clear S a; intro a S
      refine c_end ?_
      refine c_region ?_
      refine s_loada S rfl (.there .here) T73 (s' := [.ints .u64 y5 25]) rfl rfl ?_; clear S a; intro a S
      obtain ⟨t1, et1, h3⟩ := bind_of h2; clear h2
      refine s_callP S (fun (ch : Unit) => ((.agg [.ints .u64 t1 25]) : D)) N52 rfl rfl (keccak_round.ok k y5 t1 et1 _ _ (G.mono (S.leB hb))) ?_; clear S a w; intro ch1 m le1 a w S
      refine s_store S rfl rfl rfl (s' := [.ints .u64 t1 25]) (.there .here) T73 rfl rfl ?_; clear S w; intro w S
      refine c_end ?_
      refine c_region' ?_
      refine s_iaddr S (o' := 0) rfl rfl Tryd.underlying73 T24 (by decide) (by decide) rfl rfl ?_; clear S a; intro a S
      refine s_loadi S (i := 0) rfl (.there .here) T24 .here rfl (by decide) (by decide) rfl ?_; clear S a; intro a S
      refine s_move S rfl rfl ?_; clear S a; intro a S
      refine s_bin S rfl rfl rfl rfl ?_; clear S a; intro a S
      refine s_iaddr S (o' := 0) rfl rfl Tryd.underlying73 T24 (by decide) (by decide) rfl rfl ?_; clear S a; intro a S
      refine s_storei S (i := 0) rfl rfl (.there .here) T24 .here rfl (by decide) (by decide) ?_; clear S w; intro w S
      refine c_end' ?_
      refine x_blockN ?_
      refine x_thenN ?_
      refine c_region' ?_
      refine s_bin S rfl rfl rfl rfl ?_; clear S a; intro a S
      refine s_move S rfl rfl ?_; clear S a; intro a S
      refine c_end' ?_
      refine x_thenN ?_
      exact ⟨_, (wr .i64 (y4 + 1)), g15, g16, (t1.set (Int.toNat 0) (bits .xor .u64 (rd t1 0) (rd tbl_keccak_constants y4))), (S.sub ⟨rfl, rfl, rfl, rfl, trivial⟩ (.cons .here (.cons .here (.cons .here (.cons .here (.cons .here .nil)))))), h3⟩
    · refine c_condF S rfl c1 ?_
      refine wp_exit ?_
      refine x_thenX ?_
      refine x_thenX ?_
      refine x_blockX ?_
      refine x_thenN ?_
      exact j1 _ g15 g16 y5 a w (S.sub ⟨rfl, rfl, trivial⟩ (.cons .here (.cons .here (.cons .here (.cons .here (.cons .here .nil)))))) h1
/-! smithy/keccak.absorb -/
abbrev keccak_absorb.Ty : Type := (List Int) → (List Int) → Option ((List Int))
def keccak_absorb.Ctr (s : keccak_absorb.Ty) : Prop := ∀ (x1 : List Int) (x2 : List Int) (ch_1_0 : Option Addr) (ch_1_1 : Nat) (r : (List Int)) (h0 : s x1 x2 = some r) (mi : Mem) (w0 : World) (G : Glob mi), okL mi [(.agg [.ints .u64 x1 25]), (.sl ch_1_0 (x2).length ch_1_1 (RdS (Ty.int .u8) ch_1_0 x2))] → Pre mi [] w0 → Calls Tryd.prog 33 (([(.agg [.ints .u64 x1 25]), (.sl ch_1_0 (x2).length ch_1_1 (RdS (Ty.int .u8) ch_1_0 x2))] : List D).map D.val).toArray w0 (RetX mi [] (fun (ch : Unit) => ((.agg [.ints .u64 r 25]) : D)) (fun (ch : Unit) => []) w0)
def keccak_absorb.j1 (k : Nat) (y1 : List Int) : Option ((List Int)) := (keccak_Turn.f k y1).bind fun t1 => (some t1)
def keccak_absorb.b1 (k : Nat) (x2 : List Int) (rec1 : Int → (List Int) → Option ((List Int))) (y4 : Int) (y5 : List Int) : Option ((List Int)) := if (decide (y4 < ((x2).length : Int))) = true then (if (0 : Int) ≤ y4 ∧ y4 < ((x2).length : Int) then (if (0 : Int) ≤ (wr .i64 (Int.tdiv y4 8)) ∧ (wr .i64 (Int.tdiv y4 8)) < 25 then (if (0 : Int) ≤ (wr .i64 ((Int.tmod y4 8) * 8)) then (rec1 (wr .i64 (y4 + 1)) (y5.set (Int.toNat (wr .i64 (Int.tdiv y4 8))) (bits .xor .u64 (rd y5 (wr .i64 (Int.tdiv y4 8))) (shl .u64 (wr .u64 (rd x2 y4)) (min (Int.toNat (wr .i64 ((Int.tmod y4 8) * 8))) 64))))) else none) else none) else none) else (keccak_absorb.j1 k y5)
def keccak_absorb.l1 (k : Nat) (x2 : List Int) : Nat → Int → (List Int) → Option ((List Int))
  | 0, _, _ => none
  | q + 1, y4, y5 => keccak_absorb.b1 k x2 (keccak_absorb.l1 k x2 q) y4 y5
def keccak_absorb.f (k : Nat) (x1 : List Int) (x2 : List Int) : Option ((List Int)) := keccak_absorb.l1 k x2 k 0 x1
theorem keccak_absorb.ok (k : Nat) : keccak_absorb.Ctr (keccak_absorb.f k) := by
  intro x1 x2 ch_1_0 ch_1_1 r h0 mi w0 G ok hm
  delta keccak_absorb.f at h0
  refine c_enterX (n := 29) [(.agg [.ints .u64 x1 25]), (.sl ch_1_0 (x2).length ch_1_1 (RdS (Ty.int .u8) ch_1_0 x2))] (l := [(0, (.agg [.ints .u64 x1 25])), (1, (.sl ch_1_0 (x2).length ch_1_1 (RdS (Ty.int .u8) ch_1_0 x2)))]) Tryd.func33 rfl rfl rfl rfl ok hm ?_
  clear ok hm
  intro b0 hb a S
  refine c_region ?_
  refine s_box S rfl rfl rfl ?_; clear S a; intro g1 a w S
  refine s_alloc S Z73 rfl ⟨rfl, trivial⟩ rfl ?_; clear S a w; intro g2 a w S
  refine c_end ?_
  refine wp_seq_k ?_
  intro K1 hK1
  have j1 : ∀ (m : Mem) (g9 : Nat) (g10 : Nat) (y1 : List Int) (a : Act) (w : World), St 29 m b0 [(4, (.v (.pointer (some ⟨g9, 0, none⟩)))), (2, (.v (.pointer (some ⟨g10, 0, none⟩))))] [Res.cells g9 73 [.ints .u64 [0, 0, 0, 0, 0, 0, 0, 0, 0, 0, 0, 0, 0, 0, 0, 0, 0, 0, 0, 0, 0, 0, 0, 0, 0] 25], Res.cells g10 73 [.ints .u64 y1 25]] a w → keccak_absorb.j1 k y1 = some r → K1 a w := by
    intro m g9 g10 y1 a w S h0
    delta keccak_absorb.j1 at h0
    refine hK1 a w ?_
    refine c_region ?_
    refine s_loada S rfl (.there .here) T73 (s' := [.ints .u64 y1 25]) rfl rfl ?_; clear S a; intro a S
    obtain ⟨t1, et1, h1⟩ := bind_of h0; clear h0
    refine s_callP S (fun (ch : Unit) => ((.agg [.ints .u64 t1 25]) : D)) N45 rfl rfl (keccak_Turn.ok k y1 t1 et1 _ _ (G.mono (S.leB hb))) ?_; clear S a w; intro ch1 m le1 a w S
    refine s_store S rfl rfl rfl (s' := [.ints .u64 t1 25]) .here T73 rfl rfl ?_; clear S w; intro w S
    refine c_end ?_
    refine wp_ret ?_
    obtain rfl := Option.some.inj h1
    exact b_ret1 (d := (.agg [.ints .u64 t1 25])) S rfl (resD_cell rfl .here T73 rfl rfl) fun ok => S.retX (Hx := []) hb _ _ (() : Unit) .nil ok
  refine c_region ?_
  refine s_move S rfl rfl ?_; clear S a; intro a S
  refine s_lenS S rfl Tryd.underlying27 rfl ?_; clear S a; intro a S
  refine s_move S rfl rfl ?_; clear S a; intro a S
  refine c_end ?_
  refine wp_block ?_
  refine c_loop (fun q1 a w => ∃ (m : Mem) (y4 : Int) (g15 : Nat) (g16 : Nat) (y5 : List Int), St 29 m b0 [(9, (.v (.int .i64 y4))), (8, (.v (.int .i64 ((x2).length : Int)))), (7, (.sl ch_1_0 (x2).length ch_1_1 (RdS (Ty.int .u8) ch_1_0 x2))), (4, (.v (.pointer (some ⟨g15, 0, none⟩)))), (2, (.v (.pointer (some ⟨g16, 0, none⟩))))] [Res.cells g15 73 [.ints .u64 [0, 0, 0, 0, 0, 0, 0, 0, 0, 0, 0, 0, 0, 0, 0, 0, 0, 0, 0, 0, 0, 0, 0, 0, 0] 25], Res.cells g16 73 [.ints .u64 y5 25]] a w ∧ keccak_absorb.l1 k x2 q1 y4 y5 = some r) ?_ ?_ (k := k) ⟨_, 0, g2, g1, x1, (S.sub ⟨rfl, rfl, rfl, rfl, rfl, trivial⟩ (.cons .here (.cons .here .nil))), h0⟩
  · rintro a w ⟨m, y4, g15, g16, y5, S, h0⟩
    exact (nomatch (show (none : Option ((List Int))) = some r from h0))
  · clear S h0
    rintro q1 a w ⟨m, y4, g15, g16, y5, S, h0⟩
    replace h0 : keccak_absorb.b1 k x2 (keccak_absorb.l1 k x2 q1) y4 y5 = some r := h0
    delta keccak_absorb.b1 at h0
    refine c_region ?_
    refine s_bin S rfl rfl rfl rfl ?_; clear S a; intro a S
    refine c_end ?_
    refine wp_seq ?_
    rcases ite_of h0 with ⟨c1, h1⟩ | ⟨c1, h1⟩ <;> clear h0
    · refine c_condT S rfl c1 ?_
      refine wp_skip ?_
      refine x_thenN ?_
      refine wp_seq ?_
      refine wp_block ?_
      refine c_region ?_
      refine s_move S rfl rfl ?_; clear S a; intro a S
      obtain ⟨c2, h2⟩ := chk_of h1; clear h1
      refine s_iaddrS S rfl rfl rfl Tryd.underlying27 T5 c2.1 c2.2 rfl ?_; clear S a; intro p1 a S
      refine s_ld1 S (v := (.int .u8 (rd x2 y4))) rfl T5 (fun _ => rfl) rfl ?_; clear S a; intro a S
      refine s_assign S rfl rfl ?_; clear S a; intro a S
      refine s_assign S rfl rfl ?_; clear S a; intro a S
      refine c_end ?_
      refine c_heldS S (.take 0 (.take 1 (.take 2 (.take 3 (.take 4 (.take 5 (.take 6 (.take 7 (.take 8 (.take 9 (.take 10 (.take 11 (.alts (.run 12 false .done .nil)))))))))))))) 12 [Res.cells g15 73 [.ints .u64 [0, 0, 0, 0, 0, 0, 0, 0, 0, 0, 0, 0, 0, 0, 0, 0, 0, 0, 0, 0, 0, 0, 0, 0, 0] 25], Res.cells g16 73 [.ints .u64 y5 25]] (.cons .here (.cons .here .nil)) ⟨Res.stay_cells, Res.stay_cells, trivial⟩ [(6, (.v (.int .u8 (rd x2 y4)))), (5, (.v (.int .i64 y4))), (2, (.v (.pointer (some ⟨g16, 0, none⟩))))] ⟨rfl, rfl, rfl, trivial⟩ (by kernel_rfl) (by kernel_rfl) ?_; clear S; intro w S CL hw le
      refine h_move S CL hw le ⟨rfl, rfl, rfl, trivial⟩ rfl rfl rfl trivial ?_; clear S CL a; intro a S CL
      refine h_quo S CL hw le ⟨rfl, rfl, rfl, rfl, trivial⟩ rfl rfl (by decide) rfl rfl trivial ?_; clear S CL a; intro a S CL
      obtain ⟨c3, h3⟩ := chk_of h2; clear h2
      refine h_iaddr S CL hw le ⟨rfl, rfl, rfl, rfl, rfl, trivial⟩ rfl rfl Tryd.underlying73 T24 c3.1 c3.2 (mul1 _ _) rfl rfl trivial ?_; clear S CL a; intro a S CL
      refine h_loadi S CL hw le ⟨rfl, rfl, rfl, rfl, rfl, rfl, trivial⟩ (i := (wr .i64 (Int.tdiv y4 8))) rfl (.there .here) T24 .here rfl c3.1 c3.2 rfl rfl trivial ?_; clear S CL a; intro a S CL
      refine h_move S CL hw le ⟨rfl, rfl, rfl, rfl, rfl, rfl, rfl, trivial⟩ rfl rfl rfl trivial ?_; clear S CL a; intro a S CL
      refine h_conv S CL hw le ⟨rfl, rfl, rfl, rfl, rfl, rfl, rfl, rfl, trivial⟩ rfl rfl Tryd.underlying24 rfl rfl trivial ?_; clear S CL a; intro a S CL
      refine h_move S CL hw le ⟨rfl, rfl, rfl, rfl, rfl, rfl, rfl, rfl, rfl, trivial⟩ rfl rfl rfl trivial ?_; clear S CL a; intro a S CL
      refine h_rem S CL hw le ⟨rfl, rfl, rfl, rfl, rfl, rfl, rfl, rfl, rfl, rfl, trivial⟩ rfl rfl (by decide) rfl rfl trivial ?_; clear S CL a; intro a S CL
      refine h_bin S CL hw le ⟨rfl, rfl, rfl, rfl, rfl, rfl, rfl, rfl, rfl, rfl, rfl, trivial⟩ rfl rfl rfl rfl rfl trivial ?_; clear S CL a; intro a S CL
      obtain ⟨c4, h4⟩ := chk_of h3; clear h3
      refine h_shl S CL hw le ⟨rfl, rfl, rfl, rfl, rfl, rfl, rfl, rfl, rfl, rfl, rfl, rfl, trivial⟩ (e := (min (Int.toNat (wr .i64 ((Int.tmod y4 8) * 8))) 64)) rfl rfl c4 rfl rfl rfl trivial ?_; clear S CL a; intro a S CL
      refine h_bin S CL hw le ⟨rfl, rfl, rfl, rfl, rfl, rfl, rfl, rfl, rfl, rfl, rfl, rfl, rfl, trivial⟩ rfl rfl rfl rfl rfl trivial ?_; clear S CL a; intro a S CL
      refine h_iaddr S CL hw le ⟨rfl, rfl, rfl, rfl, rfl, rfl, rfl, rfl, rfl, rfl, rfl, rfl, rfl, rfl, trivial⟩ rfl rfl Tryd.underlying73 T24 c3.1 c3.2 (mul1 _ _) rfl rfl trivial ?_; clear S CL a; intro a S CL
      refine h_run' S rfl trivial ?_
      refine s_storei S (i := (wr .i64 (Int.tdiv y4 8))) rfl rfl (.there .here) T24 .here rfl c3.1 c3.2 ?_; clear S; intro w S
      refine h_back ⟨fun h => (nomatch h), ?_⟩
      refine h_done ?_; clear CL hw le
      refine x_blockN ?_
      refine x_thenN ?_
      refine c_region' ?_
      refine s_bin S rfl rfl rfl rfl ?_; clear S a; intro a S
      refine s_move S rfl rfl ?_; clear S a; intro a S
      refine c_end' ?_
      refine x_thenN ?_
      exact ⟨_, (wr .i64 (y4 + 1)), g15, g16, (y5.set (Int.toNat (wr .i64 (Int.tdiv y4 8))) (bits .xor .u64 (rd y5 (wr .i64 (Int.tdiv y4 8))) (shl .u64 (wr .u64 (rd x2 y4)) (min (Int.toNat (wr .i64 ((Int.tmod y4 8) * 8))) 64)))), (S.sub ⟨rfl, rfl, rfl, rfl, rfl, trivial⟩ (.cons .here (.cons .here .nil))), h4⟩
    · refine c_condF S rfl c1 ?_
      refine wp_exit ?_
      refine x_thenX ?_
      refine x_thenX ?_
      refine x_blockX ?_
      refine x_thenN ?_
      exact j1 _ g15 g16 y5 a w (S.sub ⟨rfl, rfl, trivial⟩ (.cons .here (.cons .here .nil))) h1
/-! smithy/keccak.Sum -/
abbrev keccak_Sum.Ty : Type := (List Int) → Option ((List Int))
def keccak_Sum.Ctr (s : keccak_Sum.Ty) : Prop := ∀ (x1 : List Int) (ch_0_0 : Option Addr) (ch_0_1 : Nat) (r : (List Int)) (h0 : s x1 = some r) (mi : Mem) (w0 : World) (G : Glob mi), okL mi [(.sl ch_0_0 (x1).length ch_0_1 (RdS (Ty.int .u8) ch_0_0 x1))] → Pre mi [] w0 → Calls Tryd.prog 17 (([(.sl ch_0_0 (x1).length ch_0_1 (RdS (Ty.int .u8) ch_0_0 x1))] : List D).map D.val).toArray w0 (RetX mi [] (fun (ch : Unit) => ((.agg [.ints .u8 r 32]) : D)) (fun (ch : Unit) => []) w0)
def keccak_Sum.j2 (y7 : List Int) : Option ((List Int)) := some y7
def keccak_Sum.b1 (t1 : (List Int)) (rec1 : Int → (List Int) → Option ((List Int))) (y10 : Int) (y11 : List Int) : Option ((List Int)) := if (decide (y10 < 32)) = true then (if (0 : Int) ≤ (wr .i64 (Int.tdiv y10 8)) ∧ (wr .i64 (Int.tdiv y10 8)) < 25 then (if (0 : Int) ≤ (wr .i64 ((Int.tmod y10 8) * 8)) then (if (0 : Int) ≤ y10 ∧ y10 < 32 then (rec1 (wr .i64 (y10 + 1)) (y11.set (Int.toNat y10) (wr .u8 (shr (rd t1 (wr .i64 (Int.tdiv y10 8))) (min (Int.toNat (wr .i64 ((Int.tmod y10 8) * 8))) 64))))) else none) else none) else none) else (keccak_Sum.j2 y11)
def keccak_Sum.l1 (t1 : (List Int)) : Nat → Int → (List Int) → Option ((List Int))
  | 0, _, _ => none
  | q + 1, y10, y11 => keccak_Sum.b1 t1 (keccak_Sum.l1 t1 q) y10 y11
def keccak_Sum.j1 (k : Nat) (y1 : List Int) (y2 : List Int) : Option ((List Int)) := if (0 : Int) ≤ ((min (y1).length 136 : Nat) : Int) ∧ ((min (y1).length 136 : Nat) : Int) < 136 then ((keccak_absorb.f k y2 (((((cpy (List.replicate 136 0) 0 y1 (min (y1).length 136)).set (Int.toNat ((min (y1).length 136 : Nat) : Int)) 1).set (Int.toNat 135) (bits .or .u8 (rd ((cpy (List.replicate 136 0) 0 y1 (min (y1).length 136)).set (Int.toNat ((min (y1).length 136 : Nat) : Int)) 1) 135) 128)).drop 0).take 136)).bind fun t1 => (keccak_Sum.l1 t1 k 0 [0, 0, 0, 0, 0, 0, 0, 0, 0, 0, 0, 0, 0, 0, 0, 0, 0, 0, 0, 0, 0, 0, 0, 0, 0, 0, 0, 0, 0, 0, 0, 0])) else none
def keccak_Sum.b2 (k : Nat) (rec2 : (List Int) → (List Int) → Option ((List Int))) (y14 : List Int) (y15 : List Int) : Option ((List Int)) := if (decide (136 ≤ ((y14).length : Int))) = true then (if (0 : Int) ≤ 0 ∧ (0 : Int) ≤ 136 ∧ 136 ≤ ((y14).length : Int) then ((keccak_absorb.f k y15 (y14.take (Int.toNat 136))).bind fun t4 => (if (0 : Int) ≤ 136 ∧ (136 : Int) ≤ ((y14).length : Int) ∧ ((y14).length : Int) ≤ ((y14).length : Int) then (rec2 (y14.drop (Int.toNat 136)) t4) else none)) else none) else (keccak_Sum.j1 k y14 y15)
def keccak_Sum.l2 (k : Nat) : Nat → (List Int) → (List Int) → Option ((List Int))
  | 0, _, _ => none
  | q + 1, y14, y15 => keccak_Sum.b2 k (keccak_Sum.l2 k q) y14 y15
def keccak_Sum.f (k : Nat) (x1 : List Int) : Option ((List Int)) := keccak_Sum.l2 k k x1 [0, 0, 0, 0, 0, 0, 0, 0, 0, 0, 0, 0, 0, 0, 0, 0, 0, 0, 0, 0, 0, 0, 0, 0, 0]
theorem keccak_Sum.ok (k : Nat) : keccak_Sum.Ctr (keccak_Sum.f k) := by
  intro x1 ch_0_0 ch_0_1 r h0 mi w0 G ok hm
  delta keccak_Sum.f at h0
  refine c_enterX (n := 45) [(.sl ch_0_0 (x1).length ch_0_1 (RdS (Ty.int .u8) ch_0_0 x1))] (l := [(0, (.sl ch_0_0 (x1).length ch_0_1 (RdS (Ty.int .u8) ch_0_0 x1)))]) Tryd.func17 rfl rfl rfl rfl ok hm ?_
  clear ok hm
  intro b0 hb a S
  refine c_region ?_
  refine s_alloc S Z37 rfl ⟨rfl, trivial⟩ rfl ?_; clear S a; intro g1 a w S
  refine c_end ?_
  refine c_region ?_
  refine s_alloc S Z73 rfl ⟨rfl, trivial⟩ rfl ?_; clear S a w; intro g2 a w S
  refine c_end ?_
  refine wp_seq_k ?_
  intro K1 hK1
  have j1 : ∀ (m : Mem) (g9 : Nat) (g10 : Nat) (A1 : Option Addr) (cp1 : Nat) (y1 : List Int) (y2 : List Int) (a : Act) (w : World), St 45 m b0 [(3, (.v (.pointer (some ⟨g9, 0, none⟩)))), (2, (.v (.pointer (some ⟨g10, 0, none⟩)))), (0, (.sl A1 (y1).length cp1 (RdS (Ty.int .u8) A1 y1)))] [Res.cells g9 73 [.ints .u64 y2 25], Res.cells g10 37 [.ints .u8 [0, 0, 0, 0, 0, 0, 0, 0, 0, 0, 0, 0, 0, 0, 0, 0, 0, 0, 0, 0, 0, 0, 0, 0, 0, 0, 0, 0, 0, 0, 0, 0] 32]] a w → keccak_Sum.j1 k y1 y2 = some r → K1 a w := by
    intro m g9 g10 A1 cp1 y1 y2 a w S h0
    delta keccak_Sum.j1 at h0
    refine hK1 a w ?_
    refine c_region ?_
    refine s_alloc S Z75 rfl ⟨rfl, trivial⟩ rfl ?_; clear S a w; intro g11 a w S
    refine c_end ?_
    refine c_region ?_
    refine s_sliceA S (i := 0) (j := 136) (o' := 0) (len := 136) (cap := 136) rfl Tryd.underlying75 T5 (.inl ⟨rfl, rfl⟩) (.inl ⟨rfl, rfl⟩) (by decide) rfl rfl rfl rfl ?_; clear S a; intro a S
    refine s_move S rfl rfl ?_; clear S a; intro a S
    refine s_copyA S (N := min (y1).length 136) (lo := 0) rfl .here rfl rfl (RdS.srcI (S.get 18 (.sl A1 (y1).length cp1 (RdS (Ty.int .u8) A1 y1)) rfl).2.2.2.1 S.frz) rfl .here (.inl rfl) (by decide) Tryd.underlying27 T5 rfl ?_; clear S a w; intro a w S
    refine s_assign S rfl rfl ?_; clear S a; intro a S
    refine c_end ?_
    refine c_region ?_
    refine s_move S rfl rfl ?_; clear S a; intro a S
    obtain ⟨c1, h1⟩ := chk_of h0; clear h0
    refine s_iaddr S rfl rfl Tryd.underlying75 T5 c1.1 c1.2 (mul1 _ _) rfl ?_; clear S a; intro a S
    refine s_storei S (i := ((min (y1).length 136 : Nat) : Int)) rfl rfl .here T5 .here rfl c1.1 c1.2 ?_; clear S w; intro w S
    refine c_end ?_
    refine c_region ?_
    refine s_iaddr S (o' := 135) rfl rfl Tryd.underlying75 T5 (by decide) (by decide) rfl rfl ?_; clear S a; intro a S
    refine s_loadi S (i := 135) rfl .here T5 .here rfl (by decide) (by decide) rfl ?_; clear S a; intro a S
    refine s_bin S rfl rfl rfl rfl ?_; clear S a; intro a S
    refine s_iaddr S (o' := 135) rfl rfl Tryd.underlying75 T5 (by decide) (by decide) rfl rfl ?_; clear S a; intro a S
    refine s_storei S (i := 135) rfl rfl .here T5 .here rfl (by decide) (by decide) ?_; clear S w; intro w S
    refine c_end ?_
    replace S := S.freeze .here
    obtain ⟨m, le1, S⟩ := S
    refine wp_seq (c_heldS S (.take 0 (.take 1 (.alts (.run 2 true (.alts (.run 3 false .done .nil)) .nil)))) 3 [Res.fro g11 75 [.ints .u8 (((cpy (List.replicate 136 0) 0 y1 (min (y1).length 136)).set (Int.toNat ((min (y1).length 136 : Nat) : Int)) 1).set (Int.toNat 135) (bits .or .u8 (rd ((cpy (List.replicate 136 0) 0 y1 (min (y1).length 136)).set (Int.toNat ((min (y1).length 136 : Nat) : Int)) 1) 135) 128)) 136], Res.cells g9 73 [.ints .u64 y2 25], Res.cells g10 37 [.ints .u8 [0, 0, 0, 0, 0, 0, 0, 0, 0, 0, 0, 0, 0, 0, 0, 0, 0, 0, 0, 0, 0, 0, 0, 0, 0, 0, 0, 0, 0, 0, 0, 0] 32]] (.cons .here (.cons .here (.cons .here .nil))) ⟨Res.stay_fro, Res.stay_cells, Res.stay_cells, trivial⟩ [(4, (.v (.pointer (some ⟨g11, 0, none⟩)))), (3, (.v (.pointer (some ⟨g9, 0, none⟩))))] ⟨rfl, rfl, trivial⟩ (by kernel_rfl) (by kernel_rfl) ?_); clear S; intro w S CL hw le
    refine h_loada S CL hw le ⟨rfl, rfl, trivial⟩ rfl (.there .here) T73 (s' := [.ints .u64 y2 25]) rfl rfl rfl trivial ?_; clear S CL a; intro a S CL
    refine h_sliceA S CL hw le ⟨rfl, rfl, rfl, trivial⟩ (i := 0) (j := 136) (o' := 0) (len := 136) (cap := 136) rfl Tryd.underlying75 T5 (.inl ⟨rfl, rfl⟩) (.inl ⟨rfl, rfl⟩) (by decide) rfl rfl rfl rfl rfl trivial ?_; clear S CL a; intro a S CL
    refine h_run' S rfl trivial ?_
    replace S := (S.slup' (u := 27) (lo := 0) (c := 136) (ys := ((((cpy (List.replicate 136 0) 0 y1 (min (y1).length 136)).set (Int.toNat ((min (y1).length 136 : Nat) : Int)) 1).set (Int.toNat 135) (bits .or .u8 (rd ((cpy (List.replicate 136 0) 0 y1 (min (y1).length 136)).set (Int.toNat ((min (y1).length 136 : Nat) : Int)) 1) 135) 128)).drop 0).take 136) rfl (Pull.mem .here).1 .here (.inl rfl) (by decide) (by decide) rfl).2
    replace CL := CL.drop (lq' := [(26, (.agg [.ints .u64 y2 25])), (4, (.v (.pointer (some ⟨g11, 0, none⟩)))), (3, (.v (.pointer (some ⟨g9, 0, none⟩))))]) ⟨rfl, rfl, rfl, trivial⟩
    obtain ⟨t1, et1, h2⟩ := bind_of h1; clear h1
    refine s_callP S (fun (ch : Unit) => ((.agg [.ints .u64 t1 25]) : D)) N33 rfl rfl (keccak_absorb.ok k y2 (((((cpy (List.replicate 136 0) 0 y1 (min (y1).length 136)).set (Int.toNat ((min (y1).length 136 : Nat) : Int)) 1).set (Int.toNat 135) (bits .or .u8 (rd ((cpy (List.replicate 136 0) 0 y1 (min (y1).length 136)).set (Int.toNat ((min (y1).length 136 : Nat) : Int)) 1) 135) 128)).drop 0).take 136) (some ⟨g11, 0, none⟩) 136 t1 et1 _ _ (G.mono (S.leB hb))) ?_; clear S a; intro ch1 m le1 a w S
    replace le := le.trans le1
    replace hw := CL.again hw S (.cons .here (.cons .here (.cons .here .nil))) le
    refine h_back ⟨fun _ => hw, ?_⟩
    refine h_run' S rfl trivial ?_
    refine s_store S rfl rfl rfl (s' := [.ints .u64 t1 25]) (.there .here) T73 rfl rfl ?_; clear S; intro w S
    refine h_back ⟨fun h => (nomatch h), ?_⟩
    refine h_done ?_; clear CL hw le
    refine x_thenN ?_
    refine c_region ?_
    refine s_alloc S Z37 rfl ⟨rfl, trivial⟩ rfl ?_; clear S a w; intro g12 a w S
    refine c_end ?_
    refine wp_seq_k ?_
    intro K2 hK2
    have j2 : ∀ (m : Mem) (g22 : Nat) (g23 : Nat) (y7 : List Int) (a : Act) (w : World), St 45 m b0 [(6, (.v (.pointer (some ⟨g22, 0, none⟩)))), (2, (.v (.pointer (some ⟨g23, 0, none⟩))))] [Res.cells g22 37 [.ints .u8 y7 32], Res.cells g23 37 [.ints .u8 [0, 0, 0, 0, 0, 0, 0, 0, 0, 0, 0, 0, 0, 0, 0, 0, 0, 0, 0, 0, 0, 0, 0, 0, 0, 0, 0, 0, 0, 0, 0, 0] 32]] a w → keccak_Sum.j2 y7 = some r → K2 a w := by
      intro m g22 g23 y7 a w S h0
      delta keccak_Sum.j2 at h0
      refine hK2 a w ?_
      refine c_region ?_
      refine s_loada S rfl .here T37 (s' := [.ints .u8 y7 32]) rfl rfl ?_; clear S a; intro a S
      refine s_store S rfl rfl rfl (s' := [.ints .u8 y7 32]) (.there .here) T37 rfl rfl ?_; clear S w; intro w S
      refine c_end ?_
      refine wp_ret ?_
      obtain rfl := Option.some.inj h0
      exact b_ret1 (d := (.agg [.ints .u8 y7 32])) S rfl (resD_cell rfl (.there .here) T37 rfl rfl) fun ok => S.retX (Hx := []) hb _ _ (() : Unit) .nil ok
    refine c_region ?_
    refine s_move S rfl rfl ?_; clear S a; intro a S
    refine c_end ?_
    refine wp_block ?_
    refine c_loop (fun q1 a w => ∃ (m : Mem) (y10 : Int) (g30 : Nat) (g31 : Nat) (g32 : Nat) (y11 : List Int), St 45 m b0 [(29, (.v (.int .i64 y10))), (6, (.v (.pointer (some ⟨g30, 0, none⟩)))), (3, (.v (.pointer (some ⟨g31, 0, none⟩)))), (2, (.v (.pointer (some ⟨g32, 0, none⟩))))] [Res.cells g30 37 [.ints .u8 y11 32], Res.cells g31 73 [.ints .u64 t1 25], Res.cells g32 37 [.ints .u8 [0, 0, 0, 0, 0, 0, 0, 0, 0, 0, 0, 0, 0, 0, 0, 0, 0, 0, 0, 0, 0, 0, 0, 0, 0, 0, 0, 0, 0, 0, 0, 0] 32]] a w ∧ keccak_Sum.l1 t1 q1 y10 y11 = some r) ?_ ?_ (k := k) ⟨_, 0, g12, g9, g10, [0, 0, 0, 0, 0, 0, 0, 0, 0, 0, 0, 0, 0, 0, 0, 0, 0, 0, 0, 0, 0, 0, 0, 0, 0, 0, 0, 0, 0, 0, 0, 0], (S.sub ⟨rfl, rfl, rfl, rfl, trivial⟩ (.cons .here (.cons (.there .here) (.cons (.there .here) .nil)))), h2⟩
    · rintro a w ⟨m, y10, g30, g31, g32, y11, S, h0⟩
      exact (nomatch (show (none : Option ((List Int))) = some r from h0))
    · clear S h2
      rintro q1 a w ⟨m, y10, g30, g31, g32, y11, S, h0⟩
      replace h0 : keccak_Sum.b1 t1 (keccak_Sum.l1 t1 q1) y10 y11 = some r := h0
      delta keccak_Sum.b1 at h0
      refine c_region ?_
      refine s_bin S rfl rfl rfl rfl ?_; clear S a; intro a S
      refine c_end ?_
      refine wp_seq ?_
      rcases ite_of h0 with ⟨c2, h1⟩ | ⟨c2, h1⟩ <;> clear h0
      · refine c_condT S rfl c2 ?_
        refine wp_skip ?_
        refine x_thenN ?_
        refine wp_seq ?_
        refine wp_block ?_
        refine c_region ?_
        refine s_move S rfl rfl ?_; clear S a; intro a S
        refine s_assign S rfl rfl ?_; clear S a; intro a S
        refine c_end ?_
        refine c_region' ?_
        refine s_move S rfl rfl ?_; clear S a; intro a S
        refine s_move S rfl rfl ?_; clear S a; intro a S
        refine s_quo S rfl rfl (by decide) rfl ?_; clear S a; intro a S
        obtain ⟨c3, h2⟩ := chk_of h1; clear h1
        refine s_iaddr S rfl rfl Tryd.underlying73 T24 c3.1 c3.2 (mul1 _ _) rfl ?_; clear S a; intro a S
        refine s_loadi S (i := (wr .i64 (Int.tdiv y10 8))) rfl (.there .here) T24 .here rfl c3.1 c3.2 rfl ?_; clear S a; intro a S
        refine s_move S rfl rfl ?_; clear S a; intro a S
        refine s_rem S rfl rfl (by decide) rfl ?_; clear S a; intro a S
        refine s_bin S rfl rfl rfl rfl ?_; clear S a; intro a S
        obtain ⟨c4, h3⟩ := chk_of h2; clear h2
        refine s_shr S (e := (min (Int.toNat (wr .i64 ((Int.tmod y10 8) * 8))) 64)) rfl rfl c4 rfl rfl ?_; clear S a; intro a S
        refine s_conv S rfl rfl Tryd.underlying5 rfl ?_; clear S a; intro a S
        obtain ⟨c5, h4⟩ := chk_of h3; clear h3
        refine s_iaddr S rfl rfl Tryd.underlying37 T5 c5.1 c5.2 (mul1 _ _) rfl ?_; clear S a; intro a S
        refine s_storei S (i := y10) rfl rfl .here T5 .here rfl c5.1 c5.2 ?_; clear S w; intro w S
        refine c_end' ?_
        refine x_blockN ?_
        refine x_thenN ?_
        refine c_region' ?_
        refine s_bin S rfl rfl rfl rfl ?_; clear S a; intro a S
        refine s_move S rfl rfl ?_; clear S a; intro a S
        refine c_end' ?_
        refine x_thenN ?_
        exact ⟨_, (wr .i64 (y10 + 1)), g30, g31, g32, (y11.set (Int.toNat y10) (wr .u8 (shr (rd t1 (wr .i64 (Int.tdiv y10 8))) (min (Int.toNat (wr .i64 ((Int.tmod y10 8) * 8))) 64)))), (S.sub ⟨rfl, rfl, rfl, rfl, trivial⟩ (.cons .here (.cons .here (.cons .here .nil)))), h4⟩
      · refine c_condF S rfl c2 ?_
        refine wp_exit ?_
        refine x_thenX ?_
        refine x_thenX ?_
        refine x_blockX ?_
        refine x_thenN ?_
        exact j2 _ g30 g32 y11 a w (S.sub ⟨rfl, rfl, trivial⟩ (.cons .here (.cons (.there .here) .nil))) h1
  refine wp_block ?_
  refine c_loop (fun q2 a w => ∃ (m : Mem) (g37 : Nat) (g38 : Nat) (A2 : Option Addr) (cp7 : Nat) (y14 : List Int) (y15 : List Int), St 45 m b0 [(3, (.v (.pointer (some ⟨g37, 0, none⟩)))), (2, (.v (.pointer (some ⟨g38, 0, none⟩)))), (0, (.sl A2 (y14).length cp7 (RdS (Ty.int .u8) A2 y14)))] [Res.cells g37 73 [.ints .u64 y15 25], Res.cells g38 37 [.ints .u8 [0, 0, 0, 0, 0, 0, 0, 0, 0, 0, 0, 0, 0, 0, 0, 0, 0, 0, 0, 0, 0, 0, 0, 0, 0, 0, 0, 0, 0, 0, 0, 0] 32]] a w ∧ keccak_Sum.l2 k q2 y14 y15 = some r) ?_ ?_ (k := k) ⟨_, g2, g1, ch_0_0, ch_0_1, x1, [0, 0, 0, 0, 0, 0, 0, 0, 0, 0, 0, 0, 0, 0, 0, 0, 0, 0, 0, 0, 0, 0, 0, 0, 0], (S.sub ⟨rfl, rfl, rfl, trivial⟩ (.cons .here (.cons .here .nil))), h0⟩
  · rintro a w ⟨m, g37, g38, A2, cp7, y14, y15, S, h0⟩
    exact (nomatch (show (none : Option ((List Int))) = some r from h0))
  · clear S h0
    rintro q2 a w ⟨m, g37, g38, A2, cp7, y14, y15, S, h0⟩
    replace h0 : keccak_Sum.b2 k (keccak_Sum.l2 k q2) y14 y15 = some r := h0
    delta keccak_Sum.b2 at h0
    refine wp_seq ?_
    refine c_region ?_
    refine s_move S rfl rfl ?_; clear S a; intro a S
    refine s_lenS S rfl Tryd.underlying27 rfl ?_; clear S a; intro a S
    refine s_bin S rfl rfl rfl rfl ?_; clear S a; intro a S
    refine c_end ?_
    rcases ite_of h0 with ⟨c6, h1⟩ | ⟨c6, h1⟩ <;> clear h0
    · refine c_condT S rfl c6 ?_
      refine wp_skip ?_
      refine x_thenN ?_
      refine wp_block ?_
      refine wp_seq (c_heldS S (.take 0 (.take 1 (.take 2 (.alts (.run 3 true (.alts (.run 4 false .done .nil)) .nil))))) 4 [Res.cells g37 73 [.ints .u64 y15 25], Res.cells g38 37 [.ints .u8 [0, 0, 0, 0, 0, 0, 0, 0, 0, 0, 0, 0, 0, 0, 0, 0, 0, 0, 0, 0, 0, 0, 0, 0, 0, 0, 0, 0, 0, 0, 0, 0] 32]] (.cons .here (.cons .here .nil)) ⟨Res.stay_cells, Res.stay_cells, trivial⟩ [(3, (.v (.pointer (some ⟨g37, 0, none⟩)))), (0, (.sl A2 (y14).length cp7 (RdS (Ty.int .u8) A2 y14)))] ⟨rfl, rfl, trivial⟩ (by kernel_rfl) (by kernel_rfl) ?_); clear S; intro w S CL hw le
      refine h_loada S CL hw le ⟨rfl, rfl, trivial⟩ rfl .here T73 (s' := [.ints .u64 y15 25]) rfl rfl rfl trivial ?_; clear S CL a; intro a S CL
      refine h_move S CL hw le ⟨rfl, rfl, rfl, trivial⟩ rfl rfl rfl trivial ?_; clear S CL a; intro a S CL
      obtain ⟨c7, h2⟩ := chk_of h1; clear h1
      refine h_cutS S CL hw le ⟨rfl, rfl, rfl, rfl, trivial⟩ (i := 0) (j := 136) (ys := y14.take (Int.toNat 136)) rfl rfl Tryd.underlying27 T5 (.inl ⟨rfl, rfl⟩) (.inr ⟨_, _, rfl, rfl⟩) c7 rfl (cut_pre rfl) rfl trivial ?_; clear S CL a; intro A3 cp8 a S CL
      refine h_run' S rfl trivial ?_
      obtain ⟨t4, et4, h3⟩ := bind_of h2; clear h2
      refine s_callP S (fun (ch : Unit) => ((.agg [.ints .u64 t4 25]) : D)) N33 rfl rfl (keccak_absorb.ok k y15 (y14.take (Int.toNat 136)) A3 cp8 t4 et4 _ _ (G.mono (S.leB hb))) ?_; clear S a; intro ch2 m le1 a w S
      replace le := le.trans le1
      replace hw := CL.again hw S (.cons .here (.cons .here .nil)) le
      refine h_back ⟨fun _ => hw, ?_⟩
      refine h_run' S rfl trivial ?_
      refine s_store S rfl rfl rfl (s' := [.ints .u64 t4 25]) .here T73 rfl rfl ?_; clear S; intro w S
      refine h_back ⟨fun h => (nomatch h), ?_⟩
      refine h_done ?_; clear CL hw le
      refine x_thenN ?_
      refine c_region' ?_
      refine s_move S rfl rfl ?_; clear S a; intro a S
      obtain ⟨c8, h4⟩ := chk_of h3; clear h3
      refine s_cutS S (i := 136) (j := ((y14).length : Int)) (ys := y14.drop (Int.toNat 136)) rfl rfl Tryd.underlying27 T5 (.inr ⟨_, _, rfl, rfl⟩) (.inl ⟨rfl, rfl⟩) c8 rfl (cut_end rfl) ?_; clear S a; intro A4 cp9 a S
      refine s_assign S rfl rfl ?_; clear S a; intro a S
      refine c_end' ?_
      refine x_blockN ?_
      refine x_thenN ?_
      exact ⟨_, g37, g38, A4, cp9, (y14.drop (Int.toNat 136)), t4, (S.sub ⟨rfl, rfl, rfl, trivial⟩ (.cons .here (.cons .here .nil))), h4⟩
    · refine c_condF S rfl c6 ?_
      refine wp_exit ?_
      refine x_thenX ?_
      refine x_thenX ?_
      refine x_blockX ?_
      refine x_thenN ?_
      exact j1 _ g37 g38 A2 cp7 y14 y15 a w (S.sub ⟨rfl, rfl, rfl, trivial⟩ (.cons .here (.cons .here .nil))) h1
/-! smithy/tx.Hash -/
abbrev tx_Hash.Ty : Type := ((List Int) × (List Int) × Bool × Int × (List Int) × (List Int) × Int × (List Int) × (List Int) × (List ((List Int) × (List (List Int))))) → Option ((List Int))
def tx_Hash.Ctr (s : tx_Hash.Ty) : Prop := ∀ (x1 : (List Int) × (List Int) × Bool × Int × (List Int) × (List Int) × Int × (List Int) × (List Int) × (List ((List Int) × (List (List Int))))) (ch_0_0 : Option Addr) (ch_0_1 : Nat) (ch_0_2 : Option Addr) (ch_0_3 : Nat) (r : (List Int)) (h0 : s x1 = some r) (mi : Mem) (w0 : World) (G : Glob mi), okL mi [(.agg [.ints .u8 x1.1 20, .ints .u8 x1.2.1 20, .one (.bool x1.2.2.1), .one (.int .u64 x1.2.2.2.1), .ints .u64 x1.2.2.2.2.1 4, .sl ch_0_0 (x1.2.2.2.2.2.1).length ch_0_1 (RdS (Ty.int .u8) ch_0_0 x1.2.2.2.2.2.1), .one (.int .u64 x1.2.2.2.2.2.2.1), .ints .u64 x1.2.2.2.2.2.2.2.1 4, .ints .u64 x1.2.2.2.2.2.2.2.2.1 4, .sl ch_0_2 (x1.2.2.2.2.2.2.2.2.2).length ch_0_3 (RdS (Ty.prod (Ty.arr .u8 20) (Ty.slice (Ty.arr .u64 4))) ch_0_2 x1.2.2.2.2.2.2.2.2.2)])] → Pre mi [] w0 → Calls Tryd.prog 6 (([(.agg [.ints .u8 x1.1 20, .ints .u8 x1.2.1 20, .one (.bool x1.2.2.1), .one (.int .u64 x1.2.2.2.1), .ints .u64 x1.2.2.2.2.1 4, .sl ch_0_0 (x1.2.2.2.2.2.1).length ch_0_1 (RdS (Ty.int .u8) ch_0_0 x1.2.2.2.2.2.1), .one (.int .u64 x1.2.2.2.2.2.2.1), .ints .u64 x1.2.2.2.2.2.2.2.1 4, .ints .u64 x1.2.2.2.2.2.2.2.2.1 4, .sl ch_0_2 (x1.2.2.2.2.2.2.2.2.2).length ch_0_3 (RdS (Ty.prod (Ty.arr .u8 20) (Ty.slice (Ty.arr .u64 4))) ch_0_2 x1.2.2.2.2.2.2.2.2.2)])] : List D).map D.val).toArray w0 (RetX mi [] (fun (ch : Unit) => ((.agg [.ints .u8 r 32]) : D)) (fun (ch : Unit) => []) w0)
def tx_Hash.j1 (k : Nat) (x1 : (List Int) × (List Int) × Bool × Int × (List Int) × (List Int) × Int × (List Int) × (List Int) × (List ((List Int) × (List (List Int))))) (y1 : List Int) : Option ((List Int)) := (tx_item.f (((x1.1).drop 0).take 20)).bind fun t2 => ((word_Of.f x1.2.2.2.1).bind fun t3 => ((tx_number.f k t3).bind fun t4 => ((tx_item.f y1).bind fun t5 => ((tx_number.f k x1.2.2.2.2.1).bind fun t6 => ((tx_item.f x1.2.2.2.2.2.1).bind fun t7 => ((word_Of.f x1.2.2.2.2.2.2.1).bind fun t8 => ((tx_number.f k t8).bind fun t9 => ((tx_number.f k x1.2.2.2.2.2.2.2.1).bind fun t10 => ((tx_number.f k x1.2.2.2.2.2.2.2.2.1).bind fun t11 => ((tx_warm.f k x1.2.2.2.2.2.2.2.2.2).bind fun t12 => (if (([(true, ([] : List Int), 0), (t2.1, t2.2.1, t2.2.2), (t4.1, t4.2.1, t4.2.2), (t5.1, t5.2.1, t5.2.2), (t6.1, t6.2.1, t6.2.2), (t7.1, t7.2.1, t7.2.2), (t9.1, t9.2.1, t9.2.2), (t10.1, t10.2.1, t10.2.2), (t11.1, t11.2.1, t11.2.2)]).length + (t12).length) * 40 ≤ 140737488355328 then (if (0 : Int) ≤ 0 ∧ 0 < (([(true, ([] : List Int), 0), (t2.1, t2.2.1, t2.2.2), (t4.1, t4.2.1, t4.2.2), (t5.1, t5.2.1, t5.2.2), (t6.1, t6.2.1, t6.2.2), (t7.1, t7.2.1, t7.2.2), (t9.1, t9.2.1, t9.2.2), (t10.1, t10.2.1, t10.2.2), (t11.1, t11.2.1, t11.2.2)] ++ t12).length : Int) then ((rlp_Encode.f k (([(true, ([] : List Int), 0), (t2.1, t2.2.1, t2.2.2), (t4.1, t4.2.1, t4.2.2), (t5.1, t5.2.1, t5.2.2), (t6.1, t6.2.1, t6.2.2), (t7.1, t7.2.1, t7.2.2), (t9.1, t9.2.1, t9.2.2), (t10.1, t10.2.1, t10.2.2), (t11.1, t11.2.1, t11.2.2)] ++ t12).set (Int.toNat 0) ((gt ([(true, ([] : List Int), 0), (t2.1, t2.2.1, t2.2.2), (t4.1, t4.2.1, t4.2.2), (t5.1, t5.2.1, t5.2.2), (t6.1, t6.2.1, t6.2.2), (t7.1, t7.2.1, t7.2.2), (t9.1, t9.2.1, t9.2.2), (t10.1, t10.2.1, t10.2.2), (t11.1, t11.2.1, t11.2.2)] ++ t12) 0).1, (gt ([(true, ([] : List Int), 0), (t2.1, t2.2.1, t2.2.2), (t4.1, t4.2.1, t4.2.2), (t5.1, t5.2.1, t5.2.2), (t6.1, t6.2.1, t6.2.2), (t7.1, t7.2.1, t7.2.2), (t9.1, t9.2.1, t9.2.2), (t10.1, t10.2.1, t10.2.2), (t11.1, t11.2.1, t11.2.2)] ++ t12) 0).2.1, wr .i64 ((([(true, ([] : List Int), 0), (t2.1, t2.2.1, t2.2.2), (t4.1, t4.2.1, t4.2.2), (t5.1, t5.2.1, t5.2.2), (t6.1, t6.2.1, t6.2.2), (t7.1, t7.2.1, t7.2.2), (t9.1, t9.2.1, t9.2.2), (t10.1, t10.2.1, t10.2.2), (t11.1, t11.2.1, t11.2.2)] ++ t12).length : Int) - 1)))).bind fun t13 => ((keccak_Sum.f k t13.1).bind fun t14 => (some t14))) else none) else none)))))))))))
def tx_Hash.f (k : Nat) (x1 : (List Int) × (List Int) × Bool × Int × (List Int) × (List Int) × Int × (List Int) × (List Int) × (List ((List Int) × (List (List Int))))) : Option ((List Int)) := (tx_long.f k (x1.1, x1.2.1, x1.2.2.1, x1.2.2.2.1, x1.2.2.2.2.1, x1.2.2.2.2.2.1, x1.2.2.2.2.2.2.1, x1.2.2.2.2.2.2.2.1, x1.2.2.2.2.2.2.2.2.1, x1.2.2.2.2.2.2.2.2.2)).bind fun t1 => (if t1 = true then (some [0, 0, 0, 0, 0, 0, 0, 0, 0, 0, 0, 0, 0, 0, 0, 0, 0, 0, 0, 0, 0, 0, 0, 0, 0, 0, 0, 0, 0, 0, 0, 0]) else (if x1.2.2.1 = true then (tx_Hash.j1 k x1 ([] : List Int)) else (tx_Hash.j1 k x1 (((x1.2.1).drop 0).take 20))))
theorem tx_Hash.ok (k : Nat) : tx_Hash.Ctr (tx_Hash.f k) := by
  intro x1 ch_0_0 ch_0_1 ch_0_2 ch_0_3 r h0 mi w0 G ok hm
  delta tx_Hash.f at h0
  refine c_enterX (n := 59) [(.agg [.ints .u8 x1.1 20, .ints .u8 x1.2.1 20, .one (.bool x1.2.2.1), .one (.int .u64 x1.2.2.2.1), .ints .u64 x1.2.2.2.2.1 4, .sl ch_0_0 (x1.2.2.2.2.2.1).length ch_0_1 (RdS (Ty.int .u8) ch_0_0 x1.2.2.2.2.2.1), .one (.int .u64 x1.2.2.2.2.2.2.1), .ints .u64 x1.2.2.2.2.2.2.2.1 4, .ints .u64 x1.2.2.2.2.2.2.2.2.1 4, .sl ch_0_2 (x1.2.2.2.2.2.2.2.2.2).length ch_0_3 (RdS (Ty.prod (Ty.arr .u8 20) (Ty.slice (Ty.arr .u64 4))) ch_0_2 x1.2.2.2.2.2.2.2.2.2)])] (l := [(0, (.agg [.ints .u8 x1.1 20, .ints .u8 x1.2.1 20, .one (.bool x1.2.2.1), .one (.int .u64 x1.2.2.2.1), .ints .u64 x1.2.2.2.2.1 4, .sl ch_0_0 (x1.2.2.2.2.2.1).length ch_0_1 (RdS (Ty.int .u8) ch_0_0 x1.2.2.2.2.2.1), .one (.int .u64 x1.2.2.2.2.2.2.1), .ints .u64 x1.2.2.2.2.2.2.2.1 4, .ints .u64 x1.2.2.2.2.2.2.2.2.1 4, .sl ch_0_2 (x1.2.2.2.2.2.2.2.2.2).length ch_0_3 (RdS (Ty.prod (Ty.arr .u8 20) (Ty.slice (Ty.arr .u64 4))) ch_0_2 x1.2.2.2.2.2.2.2.2.2)]))]) Tryd.func6 rfl rfl rfl rfl ok hm ?_
  clear ok hm
  intro b0 hb a S
  refine c_region ?_
  refine s_box S rfl rfl rfl ?_; clear S a; intro g1 a w S
  refine s_alloc S Z37 rfl ⟨rfl, trivial⟩ rfl ?_; clear S a w; intro g2 a w S
  refine c_end ?_
  refine wp_seq ?_
  refine c_region ?_
  refine s_loada S rfl (.there .here) T30 (s' := [.ints .u8 x1.1 20, .ints .u8 x1.2.1 20, .one (.bool x1.2.2.1), .one (.int .u64 x1.2.2.2.1), .ints .u64 x1.2.2.2.2.1 4, .sl ch_0_0 (x1.2.2.2.2.2.1).length ch_0_1 (RdS (Ty.int .u8) ch_0_0 x1.2.2.2.2.2.1), .one (.int .u64 x1.2.2.2.2.2.2.1), .ints .u64 x1.2.2.2.2.2.2.2.1 4, .ints .u64 x1.2.2.2.2.2.2.2.2.1 4, .sl ch_0_2 (x1.2.2.2.2.2.2.2.2.2).length ch_0_3 (RdS (Ty.prod (Ty.arr .u8 20) (Ty.slice (Ty.arr .u64 4))) ch_0_2 x1.2.2.2.2.2.2.2.2.2)]) rfl rfl ?_; clear S a; intro a S
  obtain ⟨t1, et1, h1⟩ := bind_of h0; clear h0
  refine s_callP S (fun (ch : Unit) => ((.v (.bool t1)) : D)) N11 rfl rfl (tx_long.ok k (x1.1, x1.2.1, x1.2.2.1, x1.2.2.2.1, x1.2.2.2.2.1, x1.2.2.2.2.2.1, x1.2.2.2.2.2.2.1, x1.2.2.2.2.2.2.2.1, x1.2.2.2.2.2.2.2.2.1, x1.2.2.2.2.2.2.2.2.2) ch_0_0 ch_0_1 ch_0_2 ch_0_3 t1 et1 _ _) ?_; clear S a w; intro ch1 m le1 a w S
  refine c_end ?_
  rcases ite_of h1 with ⟨c1, h2⟩ | ⟨c1, h2⟩ <;> clear h1
  · refine c_condT S rfl c1 ?_
    refine c_region ?_
    refine s_build S (ds := []) (dv := (.agg [.ints .u8 [0, 0, 0, 0, 0, 0, 0, 0, 0, 0, 0, 0, 0, 0, 0, 0, 0, 0, 0, 0, 0, 0, 0, 0, 0, 0, 0, 0, 0, 0, 0, 0] 32])) rfl (fun _ => by kernel_rfl) ⟨rfl, trivial⟩ rfl ?_; clear S a; intro a S
    refine s_store S rfl rfl rfl (s' := [.ints .u8 [0, 0, 0, 0, 0, 0, 0, 0, 0, 0, 0, 0, 0, 0, 0, 0, 0, 0, 0, 0, 0, 0, 0, 0, 0, 0, 0, 0, 0, 0, 0, 0] 32]) .here T37 rfl rfl ?_; clear S w; intro w S
    refine c_end ?_
    refine wp_ret ?_
    refine x_thenR ?_
    obtain rfl := Option.some.inj h2
    exact b_ret1 (d := (.agg [.ints .u8 [0, 0, 0, 0, 0, 0, 0, 0, 0, 0, 0, 0, 0, 0, 0, 0, 0, 0, 0, 0, 0, 0, 0, 0, 0, 0, 0, 0, 0, 0, 0, 0] 32])) S rfl (resD_cell rfl .here T37 rfl rfl) fun ok => S.retX (Hx := []) hb _ _ (() : Unit) .nil ok
  · refine c_condF S rfl c1 ?_
    refine wp_skip ?_
    refine x_thenN ?_
    refine c_region ?_
    refine s_fieldAddr S rfl I30_1 T23 (by decide) rfl rfl ?_; clear S a; intro a S
    refine s_sliceA S (i := 0) (j := 20) (o' := 20) (len := 20) (cap := 20) rfl Tryd.underlying23 T5 (.inl ⟨rfl, rfl⟩) (.inl ⟨rfl, rfl⟩) (by decide) rfl rfl rfl rfl ?_; clear S a; intro a S
    refine s_assign S rfl rfl ?_; clear S a; intro a S
    refine c_end ?_
    refine wp_seq_k ?_
    intro K1 hK1
    have j1 : ∀ (m : Mem) (A1 : Option Addr) (cp1 : Nat) (y1 : List Int) (g3 : Nat) (g4 : Nat) (a : Act) (w : World), St 59 m b0 [(3, (.sl A1 (y1).length cp1 (RdS (Ty.int .u8) A1 y1))), (2, (.v (.pointer (some ⟨g3, 0, none⟩)))), (1, (.v (.pointer (some ⟨g4, 0, none⟩))))] [Res.cells g3 37 [.ints .u8 [0, 0, 0, 0, 0, 0, 0, 0, 0, 0, 0, 0, 0, 0, 0, 0, 0, 0, 0, 0, 0, 0, 0, 0, 0, 0, 0, 0, 0, 0, 0, 0] 32], Res.fro g4 30 [.ints .u8 x1.1 20, .ints .u8 x1.2.1 20, .one (.bool x1.2.2.1), .one (.int .u64 x1.2.2.2.1), .ints .u64 x1.2.2.2.2.1 4, .sl ch_0_0 (x1.2.2.2.2.2.1).length ch_0_1 (RdS (Ty.int .u8) ch_0_0 x1.2.2.2.2.2.1), .one (.int .u64 x1.2.2.2.2.2.2.1), .ints .u64 x1.2.2.2.2.2.2.2.1 4, .ints .u64 x1.2.2.2.2.2.2.2.2.1 4, .sl ch_0_2 (x1.2.2.2.2.2.2.2.2.2).length ch_0_3 (RdS (Ty.prod (Ty.arr .u8 20) (Ty.slice (Ty.arr .u64 4))) ch_0_2 x1.2.2.2.2.2.2.2.2.2)]] a w → tx_Hash.j1 k x1 y1 = some r → K1 a w := by
      intro m A1 cp1 y1 g3 g4 a w S h0
      delta tx_Hash.j1 at h0
      refine hK1 a w ?_
      refine wp_seq (c_heldS S (.take 0 (.take 1 (.take 2 (.take 4 (.take 5 (.take 8 (.take 10 (.take 11 (.take 13 (.take 14 (.take 16 (.take 17 (.take 20 (.take 21 (.take 23 (.take 24 (.alts (.run 3 true (.alts (.run 6 true (.alts (.run 7 true (.alts (.run 9 true (.alts (.run 12 true (.alts (.run 15 true (.alts (.run 18 true (.alts (.run 19 true (.alts (.run 22 true (.alts (.run 25 true (.alts (.run 26 true (.take 27 .done) .nil)) .nil)) .nil)) .nil)) .nil)) .nil)) .nil)) .nil)) .nil)) .nil)) .nil)))))))))))))))))) 28 [Res.cells g3 37 [.ints .u8 [0, 0, 0, 0, 0, 0, 0, 0, 0, 0, 0, 0, 0, 0, 0, 0, 0, 0, 0, 0, 0, 0, 0, 0, 0, 0, 0, 0, 0, 0, 0, 0] 32], Res.fro g4 30 [.ints .u8 x1.1 20, .ints .u8 x1.2.1 20, .one (.bool x1.2.2.1), .one (.int .u64 x1.2.2.2.1), .ints .u64 x1.2.2.2.2.1 4, .sl ch_0_0 (x1.2.2.2.2.2.1).length ch_0_1 (RdS (Ty.int .u8) ch_0_0 x1.2.2.2.2.2.1), .one (.int .u64 x1.2.2.2.2.2.2.1), .ints .u64 x1.2.2.2.2.2.2.2.1 4, .ints .u64 x1.2.2.2.2.2.2.2.2.1 4, .sl ch_0_2 (x1.2.2.2.2.2.2.2.2.2).length ch_0_3 (RdS (Ty.prod (Ty.arr .u8 20) (Ty.slice (Ty.arr .u64 4))) ch_0_2 x1.2.2.2.2.2.2.2.2.2)]] (.cons .here (.cons .here .nil)) ⟨Res.stay_cells, Res.stay_fro, trivial⟩ [(3, (.sl A1 (y1).length cp1 (RdS (Ty.int .u8) A1 y1))), (1, (.v (.pointer (some ⟨g4, 0, none⟩))))] ⟨rfl, rfl, trivial⟩ (by kernel_rfl) (by kernel_rfl) ?_); clear S; intro w S CL hw le
      refine h_bldS S CL hw le ⟨rfl, rfl, trivial⟩ (ds := [(0, (.v (.bool true)))]) (zs := [.one (.bool false), .one (.slice none 0 0), .one (.int .i64 0)]) (s' := [.one (.bool true), .one (.slice none 0 0), .one (.int .i64 0)]) rfl Tryd.underlying46 P46 Z46 ⟨rfl, rfl, rfl, trivial⟩ rfl rfl rfl trivial ?_; clear S CL a; intro a S CL
      refine h_fieldAddr S CL hw le ⟨rfl, rfl, rfl, trivial⟩ rfl I30_0 T23 (by decide) rfl rfl rfl trivial ?_; clear S CL a; intro a S CL
      refine h_sliceA S CL hw le ⟨rfl, rfl, rfl, rfl, trivial⟩ (i := 0) (j := 20) (o' := 0) (len := 20) (cap := 20) rfl Tryd.underlying23 T5 (.inl ⟨rfl, rfl⟩) (.inl ⟨rfl, rfl⟩) (by decide) rfl rfl rfl rfl rfl trivial ?_; clear S CL a; intro a S CL
      refine h_fieldAddr S CL hw le ⟨rfl, rfl, rfl, rfl, rfl, trivial⟩ rfl I30_3 T24 (by decide) rfl rfl rfl trivial ?_; clear S CL a; intro a S CL
      refine h_load1F S CL hw le ⟨rfl, rfl, rfl, rfl, rfl, rfl, trivial⟩ rfl (.there .here) T24 (v := (.int .u64 x1.2.2.2.1)) rfl rfl rfl trivial ?_; clear S CL a; intro a S CL
      refine h_move S CL hw le ⟨rfl, rfl, rfl, rfl, rfl, rfl, rfl, trivial⟩ rfl rfl rfl trivial ?_; clear S CL a; intro a S CL
      refine h_fieldAddr S CL hw le ⟨rfl, rfl, rfl, rfl, rfl, rfl, rfl, rfl, trivial⟩ rfl I30_4 T26 (by decide) rfl rfl rfl trivial ?_; clear S CL a; intro a S CL
      refine h_loadaF S CL hw le ⟨rfl, rfl, rfl, rfl, rfl, rfl, rfl, rfl, rfl, trivial⟩ rfl (.there .here) T26 (s' := [.ints .u64 x1.2.2.2.2.1 4]) rfl rfl rfl trivial ?_; clear S CL a; intro a S CL
      refine h_fieldAddr S CL hw le ⟨rfl, rfl, rfl, rfl, rfl, rfl, rfl, rfl, rfl, rfl, trivial⟩ rfl I30_5 T27 (by decide) rfl rfl rfl trivial ?_; clear S CL a; intro a S CL
      refine h_loadSlF S CL hw le ⟨rfl, rfl, rfl, rfl, rfl, rfl, rfl, rfl, rfl, rfl, rfl, trivial⟩ rfl (.there .here) T27 (A := ch_0_0) (len := (x1.2.2.2.2.2.1).length) (cap := ch_0_1) rfl rfl rfl trivial ?_; clear S CL a; intro a S CL
      refine h_fieldAddr S CL hw le ⟨rfl, rfl, rfl, rfl, rfl, rfl, rfl, rfl, rfl, rfl, rfl, rfl, trivial⟩ rfl I30_6 T24 (by decide) rfl rfl rfl trivial ?_; clear S CL a; intro a S CL
      refine h_load1F S CL hw le ⟨rfl, rfl, rfl, rfl, rfl, rfl, rfl, rfl, rfl, rfl, rfl, rfl, rfl, trivial⟩ rfl (.there .here) T24 (v := (.int .u64 x1.2.2.2.2.2.2.1)) rfl rfl rfl trivial ?_; clear S CL a; intro a S CL
      refine h_fieldAddr S CL hw le ⟨rfl, rfl, rfl, rfl, rfl, rfl, rfl, rfl, rfl, rfl, rfl, rfl, rfl, rfl, trivial⟩ rfl I30_7 T26 (by decide) rfl rfl rfl trivial ?_; clear S CL a; intro a S CL
      refine h_loadaF S CL hw le ⟨rfl, rfl, rfl, rfl, rfl, rfl, rfl, rfl, rfl, rfl, rfl, rfl, rfl, rfl, rfl, trivial⟩ rfl (.there .here) T26 (s' := [.ints .u64 x1.2.2.2.2.2.2.2.1 4]) rfl rfl rfl trivial ?_; clear S CL a; intro a S CL
      refine h_fieldAddr S CL hw le ⟨rfl, rfl, rfl, rfl, rfl, rfl, rfl, rfl, rfl, rfl, rfl, rfl, rfl, rfl, rfl, rfl, trivial⟩ rfl I30_8 T26 (by decide) rfl rfl rfl trivial ?_; clear S CL a; intro a S CL
      refine h_loadaF S CL hw le ⟨rfl, rfl, rfl, rfl, rfl, rfl, rfl, rfl, rfl, rfl, rfl, rfl, rfl, rfl, rfl, rfl, rfl, trivial⟩ rfl (.there .here) T26 (s' := [.ints .u64 x1.2.2.2.2.2.2.2.2.1 4]) rfl rfl rfl trivial ?_; clear S CL a; intro a S CL
      refine h_run' S rfl trivial ?_
      replace S := (S.slup' (u := 16) (lo := 0) (c := 20) (ys := ((x1.1).drop 0).take 20) rfl (Pull.mem (.there .here)).1 .here (.inl rfl) (by decide) (by decide) rfl).2
      replace CL := CL.drop (lq' := [(38, (.agg [.ints .u64 x1.2.2.2.2.2.2.2.2.1 4])), (37, (.v (.pointer (some ⟨g4, 52, none⟩)))), (35, (.agg [.ints .u64 x1.2.2.2.2.2.2.2.1 4])), (34, (.v (.pointer (some ⟨g4, 48, none⟩)))), (31, (.v (.int .u64 x1.2.2.2.2.2.2.1))), (30, (.v (.pointer (some ⟨g4, 47, none⟩)))), (28, (.sl ch_0_0 (x1.2.2.2.2.2.1).length ch_0_1 (RdS (Ty.int .u8) ch_0_0 x1.2.2.2.2.2.1))), (27, (.v (.pointer (some ⟨g4, 46, none⟩)))), (25, (.agg [.ints .u64 x1.2.2.2.2.1 4])), (24, (.v (.pointer (some ⟨g4, 42, none⟩)))), (22, (.sl A1 (y1).length cp1 (RdS (Ty.int .u8) A1 y1))), (19, (.v (.int .u64 x1.2.2.2.1))), (18, (.v (.pointer (some ⟨g4, 41, none⟩)))), (15, (.v (.pointer (some ⟨g4, 0, none⟩)))), (14, (.agg [.one (.bool true), .one (.slice none 0 0), .one (.int .i64 0)])), (3, (.sl A1 (y1).length cp1 (RdS (Ty.int .u8) A1 y1))), (1, (.v (.pointer (some ⟨g4, 0, none⟩))))]) ⟨rfl, rfl, rfl, rfl, rfl, rfl, rfl, rfl, rfl, rfl, rfl, rfl, rfl, rfl, rfl, rfl, rfl, trivial⟩
      obtain ⟨t2, et2, h1⟩ := bind_of h0; clear h0
      refine s_callP S (fun (ch : (Option Addr) × Nat) => ((.agg [.one (.bool t2.1), .sl ch.1 (t2.2.1).length ch.2 (RdS (Ty.int .u8) ch.1 t2.2.1), .one (.int .i64 t2.2.2)]) : D)) N12 rfl rfl (tx_item.ok (((x1.1).drop 0).take 20) (some ⟨g4, 0, none⟩) 20 t2 et2 _ _) ?_; clear S a; intro ch2 m le1 a w S
      replace le := le.trans le1
      replace hw := CL.again hw S (.cons .here (.cons .here .nil)) le
      refine h_back ⟨fun _ => hw, ?_⟩
      refine h_run' S rfl trivial ?_
      obtain ⟨t3, et3, h2⟩ := bind_of h1; clear h1
      refine s_callP S (fun (ch : Unit) => ((.agg [.ints .u64 t3 4]) : D)) N14 rfl rfl (word_Of.ok x1.2.2.2.1 t3 et3 _ _) ?_; clear S a; intro ch3 m le1 a w S
      replace le := le.trans le1
      replace hw := CL.again hw S (.cons .here (.cons .here .nil)) le
      refine h_back ⟨fun _ => hw, ?_⟩
      refine h_run' S rfl trivial ?_
      obtain ⟨t4, et4, h3⟩ := bind_of h2; clear h2
      refine s_callP S (fun (ch : (Option Addr) × Nat) => ((.agg [.one (.bool t4.1), .sl ch.1 (t4.2.1).length ch.2 (RdS (Ty.int .u8) ch.1 t4.2.1), .one (.int .i64 t4.2.2)]) : D)) N13 rfl rfl (tx_number.ok k t3 t4 et4 _ _) ?_; clear S a; intro ch4 m le1 a w S
      replace le := le.trans le1
      replace hw := CL.again hw S (.cons .here (.cons .here .nil)) le
      refine h_back ⟨fun _ => hw, ?_⟩
      refine h_run' S rfl trivial ?_
      obtain ⟨t5, et5, h4⟩ := bind_of h3; clear h3
      refine s_callP S (fun (ch : (Option Addr) × Nat) => ((.agg [.one (.bool t5.1), .sl ch.1 (t5.2.1).length ch.2 (RdS (Ty.int .u8) ch.1 t5.2.1), .one (.int .i64 t5.2.2)]) : D)) N12 rfl rfl (tx_item.ok y1 A1 cp1 t5 et5 _ _) ?_; clear S a; intro ch5 m le1 a w S
      replace le := le.trans le1
      replace hw := CL.again hw S (.cons .here (.cons .here .nil)) le
      refine h_back ⟨fun _ => hw, ?_⟩
      refine h_run' S rfl trivial ?_
      obtain ⟨t6, et6, h5⟩ := bind_of h4; clear h4
      refine s_callP S (fun (ch : (Option Addr) × Nat) => ((.agg [.one (.bool t6.1), .sl ch.1 (t6.2.1).length ch.2 (RdS (Ty.int .u8) ch.1 t6.2.1), .one (.int .i64 t6.2.2)]) : D)) N13 rfl rfl (tx_number.ok k x1.2.2.2.2.1 t6 et6 _ _) ?_; clear S a; intro ch6 m le1 a w S
      replace le := le.trans le1
      replace hw := CL.again hw S (.cons .here (.cons .here .nil)) le
      refine h_back ⟨fun _ => hw, ?_⟩
      refine h_run' S rfl trivial ?_
      obtain ⟨t7, et7, h6⟩ := bind_of h5; clear h5
      refine s_callP S (fun (ch : (Option Addr) × Nat) => ((.agg [.one (.bool t7.1), .sl ch.1 (t7.2.1).length ch.2 (RdS (Ty.int .u8) ch.1 t7.2.1), .one (.int .i64 t7.2.2)]) : D)) N12 rfl rfl (tx_item.ok x1.2.2.2.2.2.1 ch_0_0 ch_0_1 t7 et7 _ _) ?_; clear S a; intro ch7 m le1 a w S
      replace le := le.trans le1
      replace hw := CL.again hw S (.cons .here (.cons .here .nil)) le
      refine h_back ⟨fun _ => hw, ?_⟩
      refine h_run' S rfl trivial ?_
      obtain ⟨t8, et8, h7⟩ := bind_of h6; clear h6
      refine s_callP S (fun (ch : Unit) => ((.agg [.ints .u64 t8 4]) : D)) N14 rfl rfl (word_Of.ok x1.2.2.2.2.2.2.1 t8 et8 _ _) ?_; clear S a; intro ch8 m le1 a w S
      replace le := le.trans le1
      replace hw := CL.again hw S (.cons .here (.cons .here .nil)) le
      refine h_back ⟨fun _ => hw, ?_⟩
      refine h_run' S rfl trivial ?_
      obtain ⟨t9, et9, h8⟩ := bind_of h7; clear h7
      refine s_callP S (fun (ch : (Option Addr) × Nat) => ((.agg [.one (.bool t9.1), .sl ch.1 (t9.2.1).length ch.2 (RdS (Ty.int .u8) ch.1 t9.2.1), .one (.int .i64 t9.2.2)]) : D)) N13 rfl rfl (tx_number.ok k t8 t9 et9 _ _) ?_; clear S a; intro ch9 m le1 a w S
      replace le := le.trans le1
      replace hw := CL.again hw S (.cons .here (.cons .here .nil)) le
      refine h_back ⟨fun _ => hw, ?_⟩
      refine h_run' S rfl trivial ?_
      obtain ⟨t10, et10, h9⟩ := bind_of h8; clear h8
      refine s_callP S (fun (ch : (Option Addr) × Nat) => ((.agg [.one (.bool t10.1), .sl ch.1 (t10.2.1).length ch.2 (RdS (Ty.int .u8) ch.1 t10.2.1), .one (.int .i64 t10.2.2)]) : D)) N13 rfl rfl (tx_number.ok k x1.2.2.2.2.2.2.2.1 t10 et10 _ _) ?_; clear S a; intro ch10 m le1 a w S
      replace le := le.trans le1
      replace hw := CL.again hw S (.cons .here (.cons .here .nil)) le
      refine h_back ⟨fun _ => hw, ?_⟩
      refine h_run' S rfl trivial ?_
      obtain ⟨t11, et11, h10⟩ := bind_of h9; clear h9
      refine s_callP S (fun (ch : (Option Addr) × Nat) => ((.agg [.one (.bool t11.1), .sl ch.1 (t11.2.1).length ch.2 (RdS (Ty.int .u8) ch.1 t11.2.1), .one (.int .i64 t11.2.2)]) : D)) N13 rfl rfl (tx_number.ok k x1.2.2.2.2.2.2.2.2.1 t11 et11 _ _) ?_; clear S a; intro ch11 m le1 a w S
      replace le := le.trans le1
      replace hw := CL.again hw S (.cons .here (.cons .here .nil)) le
      refine h_back ⟨fun _ => hw, ?_⟩
      refine h_run' S rfl trivial ?_
      replace S := S.slot (u := 14) (d' := (.agg [.one (.bool true), .sl none (([] : List Int)).length 0 (RdS (Ty.int .u8) none ([] : List Int)), .one (.int .i64 0)])) rfl rfl (by have h := (S.get 14 (.agg [.one (.bool true), .one (.slice none 0 0), .one (.int .i64 0)]) rfl).2; exact ⟨h.1, ok_nil, h.2.2.1, trivial⟩)
      replace CL := CL.drop (lq' := [(38, (.agg [.ints .u64 x1.2.2.2.2.2.2.2.2.1 4])), (37, (.v (.pointer (some ⟨g4, 52, none⟩)))), (35, (.agg [.ints .u64 x1.2.2.2.2.2.2.2.1 4])), (34, (.v (.pointer (some ⟨g4, 48, none⟩)))), (31, (.v (.int .u64 x1.2.2.2.2.2.2.1))), (30, (.v (.pointer (some ⟨g4, 47, none⟩)))), (28, (.sl ch_0_0 (x1.2.2.2.2.2.1).length ch_0_1 (RdS (Ty.int .u8) ch_0_0 x1.2.2.2.2.2.1))), (27, (.v (.pointer (some ⟨g4, 46, none⟩)))), (25, (.agg [.ints .u64 x1.2.2.2.2.1 4])), (24, (.v (.pointer (some ⟨g4, 42, none⟩)))), (22, (.sl A1 (y1).length cp1 (RdS (Ty.int .u8) A1 y1))), (19, (.v (.int .u64 x1.2.2.2.1))), (18, (.v (.pointer (some ⟨g4, 41, none⟩)))), (15, (.v (.pointer (some ⟨g4, 0, none⟩)))), (3, (.sl A1 (y1).length cp1 (RdS (Ty.int .u8) A1 y1))), (1, (.v (.pointer (some ⟨g4, 0, none⟩))))]) ⟨rfl, rfl, rfl, rfl, rfl, rfl, rfl, rfl, rfl, rfl, rfl, rfl, rfl, rfl, rfl, rfl, trivial⟩
      refine s_bldSl S (ty' := (Ty.prod Ty.bool (Ty.prod (Ty.slice (Ty.int .u8)) (Ty.int .i64)))) (ds := [(0, (.agg [.one (.bool true), .sl none (([] : List Int)).length 0 (RdS (Ty.int .u8) none ([] : List Int)), .one (.int .i64 0)])), (1, (.agg [.one (.bool t2.1), .sl ch2.1 (t2.2.1).length ch2.2 (RdS (Ty.int .u8) ch2.1 t2.2.1), .one (.int .i64 t2.2.2)])), (2, (.agg [.one (.bool t4.1), .sl ch4.1 (t4.2.1).length ch4.2 (RdS (Ty.int .u8) ch4.1 t4.2.1), .one (.int .i64 t4.2.2)])), (3, (.agg [.one (.bool t5.1), .sl ch5.1 (t5.2.1).length ch5.2 (RdS (Ty.int .u8) ch5.1 t5.2.1), .one (.int .i64 t5.2.2)])), (4, (.agg [.one (.bool t6.1), .sl ch6.1 (t6.2.1).length ch6.2 (RdS (Ty.int .u8) ch6.1 t6.2.1), .one (.int .i64 t6.2.2)])), (5, (.agg [.one (.bool t7.1), .sl ch7.1 (t7.2.1).length ch7.2 (RdS (Ty.int .u8) ch7.1 t7.2.1), .one (.int .i64 t7.2.2)])), (6, (.agg [.one (.bool t9.1), .sl ch9.1 (t9.2.1).length ch9.2 (RdS (Ty.int .u8) ch9.1 t9.2.1), .one (.int .i64 t9.2.2)])), (7, (.agg [.one (.bool t10.1), .sl ch10.1 (t10.2.1).length ch10.2 (RdS (Ty.int .u8) ch10.1 t10.2.1), .one (.int .i64 t10.2.2)])), (8, (.agg [.one (.bool t11.1), .sl ch11.1 (t11.2.1).length ch11.2 (RdS (Ty.int .u8) ch11.1 t11.2.1), .one (.int .i64 t11.2.2)]))]) (z := (false, ([] : List Int), 0)) (c0 := ((), (none, 0), ())) (ys := [(true, ([] : List Int), 0), (t2.1, t2.2.1, t2.2.2), (t4.1, t4.2.1, t4.2.2), (t5.1, t5.2.1, t5.2.2), (t6.1, t6.2.1, t6.2.2), (t7.1, t7.2.1, t7.2.2), (t9.1, t9.2.1, t9.2.2), (t10.1, t10.2.1, t10.2.2), (t11.1, t11.2.1, t11.2.2)]) (cs := [((), (none, 0), ()), ((), (ch2.1, ch2.2), ()), ((), (ch4.1, ch4.2), ()), ((), (ch5.1, ch5.2), ()), ((), (ch6.1, ch6.2), ()), ((), (ch7.1, ch7.2), ()), ((), (ch9.1, ch9.2), ()), ((), (ch10.1, ch10.2), ()), ((), (ch11.1, ch11.2), ())]) rfl Tryd.underlying50 J46 Z46 rfl ⟨rfl, ⟨Nat.le_refl _, Nat.zero_le _, RdS.nil _ _ _, RdS.mono _ _ _⟩, rfl, trivial⟩ rfl rfl rfl rfl rfl rfl ?_; clear S a; intro g5 a w S
      replace hw := CL.again hw S (.cons (.there .here) (.cons (.there .here) .nil)) le
      refine h_back ⟨fun _ => hw, ?_⟩
      replace CL := CL.add (t := 40) (d := (.v (.slice (some ⟨g5, 0, none⟩) 9 9))) S rfl rfl
      refine h_assign S CL hw le ⟨rfl, rfl, rfl, rfl, rfl, rfl, rfl, rfl, rfl, rfl, rfl, rfl, rfl, rfl, rfl, rfl, rfl, trivial⟩ rfl rfl rfl trivial ?_; clear S CL a; intro a S CL
      refine h_done ?_; clear CL hw le
      refine x_thenN ?_
      refine c_region ?_
      refine s_move S rfl rfl ?_; clear S a; intro a S
      refine s_fieldAddr S rfl I30_9 T28 (by decide) rfl rfl ?_; clear S a; intro a S
      refine s_loadSlF S rfl (.there (.there .here)) T28 (A := ch_0_2) (len := (x1.2.2.2.2.2.2.2.2.2).length) (cap := ch_0_3) rfl rfl ?_; clear S a; intro a S
      obtain ⟨t12, et12, h11⟩ := bind_of h10; clear h10
      refine s_callR S (fun (ch : (Option Addr) × Nat × Nat) => ((.v (.slice ch.1 ch.2.1 ch.2.2)) : D)) (fun (ch : (Option Addr) × Nat × Nat) => Res.row (Ty.prod Ty.bool (Ty.prod (Ty.slice (Ty.int .u8)) (Ty.int .i64))) 46 ch.1 ch.2.1 ch.2.2 t12) N15 rfl rfl (tx_warm.ok k x1.2.2.2.2.2.2.2.2.2 ch_0_2 ch_0_3 t12 et12 _ _) ?_; clear S a w; intro ch12 m le1 a w S
      obtain ⟨c2, h12⟩ := chk_of h11; clear h11
      refine s_app S (k2 := ch12.2.1) (ys := t12) rfl (fun _ _ => (.there .here)) rfl rfl (S.holds _ (Pull.mem .here).1).1 (Res.row.src (S.holds _ (Pull.mem .here).1)) Tryd.underlying50 J46 c2 rfl ?_; clear S a w; intro A2 cp2 a w S
      refine s_assign S rfl rfl ?_; clear S a; intro a S
      refine c_end ?_
      refine c_region ?_
      refine s_move S rfl rfl ?_; clear S a; intro a S
      refine s_move S rfl rfl ?_; clear S a; intro a S
      refine s_lenO S rfl (.there .here) Tryd.underlying50 rfl ?_; clear S a; intro a S
      refine s_bin S rfl rfl rfl rfl ?_; clear S a; intro a S
      obtain ⟨c3, h13⟩ := chk_of h12; clear h12
      refine s_iaddrO S (ty' := (Ty.prod Ty.bool (Ty.prod (Ty.slice (Ty.int .u8)) (Ty.int .i64)))) rfl (.there .here) rfl Tryd.underlying50 T46 c3.1 c3.2 rfl ?_; clear S a; intro g6 a hA1 S
      refine s_fieldAddr S rfl I46_2 T3 (by decide) rfl rfl ?_; clear S a; intro a S
      refine s_stR S (ty' := (Ty.prod Ty.bool (Ty.prod (Ty.slice (Ty.int .u8)) (Ty.int .i64)))) (i := 0) (off := 2) (u := ((gt ([(true, ([] : List Int), 0), (t2.1, t2.2.1, t2.2.2), (t4.1, t4.2.1, t4.2.2), (t5.1, t5.2.1, t5.2.2), (t6.1, t6.2.1, t6.2.2), (t7.1, t7.2.1, t7.2.2), (t9.1, t9.2.1, t9.2.2), (t10.1, t10.2.1, t10.2.2), (t11.1, t11.2.1, t11.2.2)] ++ t12) 0).1, (gt ([(true, ([] : List Int), 0), (t2.1, t2.2.1, t2.2.2), (t4.1, t4.2.1, t4.2.2), (t5.1, t5.2.1, t5.2.2), (t6.1, t6.2.1, t6.2.2), (t7.1, t7.2.1, t7.2.2), (t9.1, t9.2.1, t9.2.2), (t10.1, t10.2.1, t10.2.2), (t11.1, t11.2.1, t11.2.2)] ++ t12) 0).2.1, wr .i64 ((([(true, ([] : List Int), 0), (t2.1, t2.2.1, t2.2.2), (t4.1, t4.2.1, t4.2.2), (t5.1, t5.2.1, t5.2.2), (t6.1, t6.2.1, t6.2.2), (t7.1, t7.2.1, t7.2.2), (t9.1, t9.2.1, t9.2.2), (t10.1, t10.2.1, t10.2.2), (t11.1, t11.2.1, t11.2.2)] ++ t12).length : Int) - 1))) (fun (c : Unit × (Option Addr × Nat) × Unit) => ((), (c.2.1.1, c.2.1.2), ())) rfl rfl rfl hA1 (.there .here) T3 c3.1 c3.2 rfl (by decide) rfl (fun _ => rfl) ?_; clear S w; intro w S
      refine c_end ?_
      refine c_region ?_
      refine s_move S rfl rfl ?_; clear S a; intro a S
      replace S := S.rowfro (.there .here)
      obtain ⟨m, le1, S, hro⟩ := S
      replace S := S.slotro (u := 53) rfl hro
      replace S := S.slotro (u := 47) rfl hro
      replace S := S.slotro (u := 46) rfl hro
      replace S := S.slotro (u := 4) rfl hro
      replace S := S.slotro (u := 45) rfl hro
      obtain ⟨t13, et13, h14⟩ := bind_of h13; clear h13
      refine s_callP S (fun (ch : (Option Addr) × Nat) => ((.tup [(false, [.sl ch.1 (t13.1).length ch.2 (RdS (Ty.int .u8) ch.1 t13.1)]), (false, [.one (.int .i64 t13.2)])]) : D)) N16 rfl rfl (rlp_Encode.ok k (([(true, ([] : List Int), 0), (t2.1, t2.2.1, t2.2.2), (t4.1, t4.2.1, t4.2.2), (t5.1, t5.2.1, t5.2.2), (t6.1, t6.2.1, t6.2.2), (t7.1, t7.2.1, t7.2.2), (t9.1, t9.2.1, t9.2.2), (t10.1, t10.2.1, t10.2.2), (t11.1, t11.2.1, t11.2.2)] ++ t12).set (Int.toNat 0) ((gt ([(true, ([] : List Int), 0), (t2.1, t2.2.1, t2.2.2), (t4.1, t4.2.1, t4.2.2), (t5.1, t5.2.1, t5.2.2), (t6.1, t6.2.1, t6.2.2), (t7.1, t7.2.1, t7.2.2), (t9.1, t9.2.1, t9.2.2), (t10.1, t10.2.1, t10.2.2), (t11.1, t11.2.1, t11.2.2)] ++ t12) 0).1, (gt ([(true, ([] : List Int), 0), (t2.1, t2.2.1, t2.2.2), (t4.1, t4.2.1, t4.2.2), (t5.1, t5.2.1, t5.2.2), (t6.1, t6.2.1, t6.2.2), (t7.1, t7.2.1, t7.2.2), (t9.1, t9.2.1, t9.2.2), (t10.1, t10.2.1, t10.2.2), (t11.1, t11.2.1, t11.2.2)] ++ t12) 0).2.1, wr .i64 ((([(true, ([] : List Int), 0), (t2.1, t2.2.1, t2.2.2), (t4.1, t4.2.1, t4.2.2), (t5.1, t5.2.1, t5.2.2), (t6.1, t6.2.1, t6.2.2), (t7.1, t7.2.1, t7.2.2), (t9.1, t9.2.1, t9.2.2), (t10.1, t10.2.1, t10.2.2), (t11.1, t11.2.1, t11.2.2)] ++ t12).length : Int) - 1))) A2 cp2 t13 et13 _ _) ?_; clear S a w; intro ch13 m le1 a w S
      refine s_move S rfl rfl ?_; clear S a; intro a S
      refine s_extract S rfl rfl rfl rfl ?_; clear S a; intro a S
      refine s_extract S rfl rfl rfl rfl ?_; clear S a; intro a S
      refine s_assign S rfl rfl ?_; clear S a; intro a S
      refine s_assign S rfl rfl ?_; clear S a; intro a S
      refine c_end ?_
      refine c_region ?_
      refine s_move S rfl rfl ?_; clear S a; intro a S
      obtain ⟨t14, et14, h15⟩ := bind_of h14; clear h14
      refine s_callP S (fun (ch : Unit) => ((.agg [.ints .u8 t14 32]) : D)) N17 rfl rfl (keccak_Sum.ok k t13.1 ch13.1 ch13.2 t14 et14 _ _ (G.mono (S.leB hb))) ?_; clear S a w; intro ch14 m le1 a w S
      refine s_store S rfl rfl rfl (s' := [.ints .u8 t14 32]) (.there .here) T37 rfl rfl ?_; clear S w; intro w S
      refine c_end ?_
      refine wp_ret ?_
      obtain rfl := Option.some.inj h15
      exact b_ret1 (d := (.agg [.ints .u8 t14 32])) S rfl (resD_cell rfl (.there .here) T37 rfl rfl) fun ok => S.retX (Hx := []) hb _ _ (() : Unit) .nil ok
    refine c_region ?_
    refine s_fieldAddr S rfl I30_2 T4 (by decide) rfl rfl ?_; clear S a; intro a S
    refine s_load1 S rfl (.there .here) T4 (v := (.bool x1.2.2.1)) rfl rfl ?_; clear S a; intro a S
    refine c_end ?_
    rcases ite_of h2 with ⟨c4, h3⟩ | ⟨c4, h3⟩ <;> clear h2
    · refine c_condT S rfl c4 ?_
      refine c_region' ?_
      refine s_assign S rfl rfl ?_; clear S a; intro a S
      refine c_end' ?_
      refine x_thenN ?_
      replace S := S.slot (u := 3) (d' := (.sl none (([] : List Int)).length 0 (RdS (Ty.int .u8) none ([] : List Int)))) rfl rfl ok_nil
      replace S := S.freeze (.there .here)
      obtain ⟨m, le1, S⟩ := S
      exact j1 _ none 0 ([] : List Int) g2 g1 a w (S.sub ⟨rfl, rfl, rfl, trivial⟩ (.cons .here (.cons .here .nil))) h3
    · refine c_condF S rfl c4 ?_
      refine wp_skip ?_
      refine x_thenN ?_
      replace S := S.freeze (.there .here)
      obtain ⟨m, le1, S⟩ := S
      replace S := (S.slup' (u := 3) (lo := 0) (c := 20) (ys := ((x1.2.1).drop 0).take 20) rfl (Pull.mem (.there .here)).1 (.there .here rfl) (.inl rfl) (by decide) (by decide) rfl).2
      exact j1 _ (some ⟨g1, 20, none⟩) 20 (((x1.2.1).drop 0).take 20) g2 g1 a w (S.sub ⟨rfl, rfl, rfl, trivial⟩ (.cons .here (.cons .here .nil))) h3
/-! smithy/smithyref19.item -/
abbrev smithyref19_item.Ty : Type := (List Int) → Option ((Bool × (List Int) × Int))
def smithyref19_item.Ctr (s : smithyref19_item.Ty) : Prop := ∀ (x1 : List Int) (ch_0_0 : Option Addr) (ch_0_1 : Nat) (r : (Bool × (List Int) × Int)) (h0 : s x1 = some r) (mi : Mem) (w0 : World), okL mi [(.sl ch_0_0 (x1).length ch_0_1 (RdS (Ty.int .u8) ch_0_0 x1))] → Pre mi [] w0 → Calls Tryd.prog 18 (([(.sl ch_0_0 (x1).length ch_0_1 (RdS (Ty.int .u8) ch_0_0 x1))] : List D).map D.val).toArray w0 (RetX mi [] (fun (ch : (Option Addr) × Nat) => ((.agg [.one (.bool r.1), .sl ch.1 (r.2.1).length ch.2 (RdS (Ty.int .u8) ch.1 r.2.1), .one (.int .i64 r.2.2)]) : D)) (fun (ch : (Option Addr) × Nat) => []) w0)
def smithyref19_item.f (x1 : List Int) : Option ((Bool × (List Int) × Int)) := some (false, x1, 0)
theorem smithyref19_item.ok : smithyref19_item.Ctr (smithyref19_item.f) := by
  intro x1 ch_0_0 ch_0_1 r h0 mi w0 ok hm
  delta smithyref19_item.f at h0
  refine c_enterX (n := 5) [(.sl ch_0_0 (x1).length ch_0_1 (RdS (Ty.int .u8) ch_0_0 x1))] (l := [(0, (.sl ch_0_0 (x1).length ch_0_1 (RdS (Ty.int .u8) ch_0_0 x1)))]) Tryd.func18 rfl rfl rfl rfl ok hm ?_
  clear ok hm
  intro b0 hb a S
  refine c_region ?_
  refine s_alloc S Z46 rfl ⟨rfl, rfl, rfl, trivial⟩ rfl ?_; clear S a; intro g1 a w S
  refine c_end ?_
  refine c_region ?_
  refine s_move S rfl rfl ?_; clear S a; intro a S
  refine s_bldS S (ds := [(1, (.sl ch_0_0 (x1).length ch_0_1 (RdS (Ty.int .u8) ch_0_0 x1)))]) (zs := [.one (.bool false), .one (.slice none 0 0), .one (.int .i64 0)]) (s' := [.one (.bool false), .sl ch_0_0 (x1).length ch_0_1 (RdS (Ty.int .u8) ch_0_0 x1), .one (.int .i64 0)]) rfl Tryd.underlying46 P46 Z46 ⟨rfl, rfl, rfl, trivial⟩ rfl rfl ?_; clear S a; intro a S
  refine s_store S rfl rfl rfl (s' := [.one (.bool false), .sl ch_0_0 (x1).length ch_0_1 (RdS (Ty.int .u8) ch_0_0 x1), .one (.int .i64 0)]) .here T46 rfl rfl ?_; clear S w; intro w S
  refine c_end ?_
  refine wp_ret ?_
  obtain rfl := Option.some.inj h0
  exact b_ret1 (d := (.agg [.one (.bool false), .sl ch_0_0 (x1).length ch_0_1 (RdS (Ty.int .u8) ch_0_0 x1), .one (.int .i64 0)])) S rfl (resD_cell rfl .here T46 rfl rfl) fun ok => S.retX (Hx := []) hb _ _ ((ch_0_0, ch_0_1) : (Option Addr) × Nat) .nil ok
/-! smithy/smithyref01.Of -/
abbrev smithyref01_Of.Ty : Type := (List Int) → Option ((List Int))
def smithyref01_Of.Ctr (s : smithyref01_Of.Ty) : Prop := ∀ (x1 : List Int) (r : (List Int)) (h0 : s x1 = some r) (mi : Mem) (w0 : World), okL mi [(.agg [.ints .u64 x1 4])] → Pre mi [] w0 → Calls Tryd.prog 20 (([(.agg [.ints .u64 x1 4])] : List D).map D.val).toArray w0 (RetX mi [] (fun (ch : Unit) => ((.agg [.ints .i64 r 32]) : D)) (fun (ch : Unit) => []) w0)
def smithyref01_Of.j1 (y1 : List Int) : Option ((List Int)) := some y1
def smithyref01_Of.b1 (x1 : List Int) (rec1 : Int → (List Int) → Option ((List Int))) (y4 : Int) (y5 : List Int) : Option ((List Int)) := if (decide (y4 < 32)) = true then (if (0 : Int) ≤ (wr .i64 (Int.tdiv y4 8)) ∧ (wr .i64 (Int.tdiv y4 8)) < 4 then (if (0 : Int) ≤ (wr .i64 (8 * (Int.tmod y4 8))) then (if (0 : Int) ≤ y4 ∧ y4 < 32 then (rec1 (wr .i64 (y4 + 1)) (y5.set (Int.toNat y4) (wr .i64 (Int.tmod (shr (rd x1 (wr .i64 (Int.tdiv y4 8))) (min (Int.toNat (wr .i64 (8 * (Int.tmod y4 8)))) 64)) 256)))) else none) else none) else none) else (smithyref01_Of.j1 y5)
def smithyref01_Of.l1 (x1 : List Int) : Nat → Int → (List Int) → Option ((List Int))
  | 0, _, _ => none
  | q + 1, y4, y5 => smithyref01_Of.b1 x1 (smithyref01_Of.l1 x1 q) y4 y5
def smithyref01_Of.f (k : Nat) (x1 : List Int) : Option ((List Int)) := smithyref01_Of.l1 x1 k 0 [0, 0, 0, 0, 0, 0, 0, 0, 0, 0, 0, 0, 0, 0, 0, 0, 0, 0, 0, 0, 0, 0, 0, 0, 0, 0, 0, 0, 0, 0, 0, 0]
theorem smithyref01_Of.ok (k : Nat) : smithyref01_Of.Ctr (smithyref01_Of.f k) := by
  intro x1 r h0 mi w0 ok hm
  delta smithyref01_Of.f at h0
  refine c_enterX (n := 23) [(.agg [.ints .u64 x1 4])] (l := [(0, (.agg [.ints .u64 x1 4]))]) Tryd.func20 rfl rfl rfl rfl ok hm ?_
  clear ok hm
  intro b0 hb a S
  refine c_region ?_
  refine s_box S rfl rfl rfl ?_; clear S a; intro g1 a w S
  refine s_alloc S Z57 rfl ⟨rfl, trivial⟩ rfl ?_; clear S a w; intro g2 a w S
  refine c_end ?_
  refine c_region ?_
  refine s_build S (ds := []) (dv := (.agg [.ints .i64 [0, 0, 0, 0, 0, 0, 0, 0, 0, 0, 0, 0, 0, 0, 0, 0, 0, 0, 0, 0, 0, 0, 0, 0, 0, 0, 0, 0, 0, 0, 0, 0] 32])) rfl (fun _ => by kernel_rfl) ⟨rfl, trivial⟩ rfl ?_; clear S a; intro a S
  refine s_alloc S Z57 rfl ⟨rfl, trivial⟩ rfl ?_; clear S a w; intro g3 a w S
  refine s_store S rfl rfl rfl (s' := [.ints .i64 [0, 0, 0, 0, 0, 0, 0, 0, 0, 0, 0, 0, 0, 0, 0, 0, 0, 0, 0, 0, 0, 0, 0, 0, 0, 0, 0, 0, 0, 0, 0, 0] 32]) .here T57 rfl rfl ?_; clear S w; intro w S
  refine c_end ?_
  refine wp_seq_k ?_
  intro K1 hK1
  have j1 : ∀ (m : Mem) (g13 : Nat) (g14 : Nat) (y1 : List Int) (a : Act) (w : World), St 23 m b0 [(3, (.v (.pointer (some ⟨g13, 0, none⟩)))), (2, (.v (.pointer (some ⟨g14, 0, none⟩))))] [Res.cells g13 57 [.ints .i64 y1 32], Res.cells g14 57 [.ints .i64 [0, 0, 0, 0, 0, 0, 0, 0, 0, 0, 0, 0, 0, 0, 0, 0, 0, 0, 0, 0, 0, 0, 0, 0, 0, 0, 0, 0, 0, 0, 0, 0] 32]] a w → smithyref01_Of.j1 y1 = some r → K1 a w := by
    intro m g13 g14 y1 a w S h0
    delta smithyref01_Of.j1 at h0
    refine hK1 a w ?_
    refine c_region ?_
    refine s_loada S rfl .here T57 (s' := [.ints .i64 y1 32]) rfl rfl ?_; clear S a; intro a S
    refine s_store S rfl rfl rfl (s' := [.ints .i64 y1 32]) (.there .here) T57 rfl rfl ?_; clear S w; intro w S
    refine c_end ?_
    refine wp_ret ?_
    obtain rfl := Option.some.inj h0
    exact b_ret1 (d := (.agg [.ints .i64 y1 32])) S rfl (resD_cell rfl (.there .here) T57 rfl rfl) fun ok => S.retX (Hx := []) hb _ _ (() : Unit) .nil ok
  refine c_region ?_
  refine s_assign S rfl rfl ?_; clear S a; intro a S
  refine c_end ?_
  refine wp_block ?_
  refine c_loop (fun q1 a w => ∃ (m : Mem) (y4 : Int) (g21 : Nat) (g22 : Nat) (g23 : Nat) (y5 : List Int), St 23 m b0 [(4, (.v (.int .i64 y4))), (3, (.v (.pointer (some ⟨g21, 0, none⟩)))), (2, (.v (.pointer (some ⟨g22, 0, none⟩)))), (1, (.v (.pointer (some ⟨g23, 0, none⟩))))] [Res.cells g21 57 [.ints .i64 y5 32], Res.cells g22 57 [.ints .i64 [0, 0, 0, 0, 0, 0, 0, 0, 0, 0, 0, 0, 0, 0, 0, 0, 0, 0, 0, 0, 0, 0, 0, 0, 0, 0, 0, 0, 0, 0, 0, 0] 32], Res.cells g23 26 [.ints .u64 x1 4]] a w ∧ smithyref01_Of.l1 x1 q1 y4 y5 = some r) ?_ ?_ (k := k) ⟨_, 0, g3, g2, g1, [0, 0, 0, 0, 0, 0, 0, 0, 0, 0, 0, 0, 0, 0, 0, 0, 0, 0, 0, 0, 0, 0, 0, 0, 0, 0, 0, 0, 0, 0, 0, 0], (S.sub ⟨rfl, rfl, rfl, rfl, trivial⟩ (.cons .here (.cons .here (.cons .here .nil)))), h0⟩
  · rintro a w ⟨m, y4, g21, g22, g23, y5, S, h0⟩
    exact (nomatch (show (none : Option ((List Int))) = some r from h0))
  · clear S h0
    rintro q1 a w ⟨m, y4, g21, g22, g23, y5, S, h0⟩
    replace h0 : smithyref01_Of.b1 x1 (smithyref01_Of.l1 x1 q1) y4 y5 = some r := h0
    delta smithyref01_Of.b1 at h0
    refine wp_seq ?_
    refine c_region ?_
    refine s_move S rfl rfl ?_; clear S a; intro a S
    refine s_bin S rfl rfl rfl rfl ?_; clear S a; intro a S
    refine c_end ?_
    rcases ite_of h0 with ⟨c1, h1⟩ | ⟨c1, h1⟩ <;> clear h0
    · refine c_condT S rfl c1 ?_
      refine wp_skip ?_
      refine x_thenN ?_
      refine wp_seq ?_
      refine wp_block ?_
      refine c_region' ?_
      refine s_move S rfl rfl ?_; clear S a; intro a S
      refine s_move S rfl rfl ?_; clear S a; intro a S
      refine s_quo S rfl rfl (by decide) rfl ?_; clear S a; intro a S
      obtain ⟨c2, h2⟩ := chk_of h1; clear h1
      refine s_iaddr S rfl rfl Tryd.underlying26 T24 c2.1 c2.2 (mul1 _ _) rfl ?_; clear S a; intro a S
      refine s_loadi S (i := (wr .i64 (Int.tdiv y4 8))) rfl (.there (.there .here)) T24 .here rfl c2.1 c2.2 rfl ?_; clear S a; intro a S
      refine s_move S rfl rfl ?_; clear S a; intro a S
      refine s_rem S rfl rfl (by decide) rfl ?_; clear S a; intro a S
      refine s_bin S rfl rfl rfl rfl ?_; clear S a; intro a S
      obtain ⟨c3, h3⟩ := chk_of h2; clear h2
      refine s_shr S (e := (min (Int.toNat (wr .i64 (8 * (Int.tmod y4 8)))) 64)) rfl rfl c3 rfl rfl ?_; clear S a; intro a S
      refine s_rem S rfl rfl (by decide) rfl ?_; clear S a; intro a S
      refine s_conv S rfl rfl Tryd.underlying3 rfl ?_; clear S a; intro a S
      obtain ⟨c4, h4⟩ := chk_of h3; clear h3
      refine s_iaddr S rfl rfl Tryd.underlying57 T3 c4.1 c4.2 (mul1 _ _) rfl ?_; clear S a; intro a S
      refine s_storei S (i := y4) rfl rfl .here T3 .here rfl c4.1 c4.2 ?_; clear S w; intro w S
      refine c_end' ?_
      refine x_blockN ?_
      refine x_thenN ?_
      refine c_region' ?_
      refine s_move S rfl rfl ?_; clear S a; intro a S
      refine s_bin S rfl rfl rfl rfl ?_; clear S a; intro a S
      refine s_assign S rfl rfl ?_; clear S a; intro a S
      refine c_end' ?_
      refine x_thenN ?_
      exact ⟨_, (wr .i64 (y4 + 1)), g21, g22, g23, (y5.set (Int.toNat y4) (wr .i64 (Int.tmod (shr (rd x1 (wr .i64 (Int.tdiv y4 8))) (min (Int.toNat (wr .i64 (8 * (Int.tmod y4 8)))) 64)) 256))), (S.sub ⟨rfl, rfl, rfl, rfl, trivial⟩ (.cons .here (.cons .here (.cons .here .nil)))), h4⟩
    · refine c_condF S rfl c1 ?_
      refine wp_exit ?_
      refine x_thenX ?_
      refine x_thenX ?_
      refine x_blockX ?_
      refine x_thenN ?_
      exact j1 _ g21 g22 y5 a w (S.sub ⟨rfl, rfl, trivial⟩ (.cons .here (.cons .here .nil))) h1
/-! (smithy/smithyref01.D).Bytes -/
abbrev smithyref01_D_Bytes.Ty : Type := (List Int) → Option ((List Int))
def smithyref01_D_Bytes.Ctr (s : smithyref01_D_Bytes.Ty) : Prop := ∀ (x1 : List Int) (r : (List Int)) (h0 : s x1 = some r) (mi : Mem) (w0 : World), okL mi [(.agg [.ints .i64 x1 32])] → Pre mi [] w0 → Calls Tryd.prog 21 (([(.agg [.ints .i64 x1 32])] : List D).map D.val).toArray w0 (RetX mi [] (fun (ch : Unit) => ((.agg [.ints .u8 r 32]) : D)) (fun (ch : Unit) => []) w0)
def smithyref01_D_Bytes.j1 (y1 : List Int) : Option ((List Int)) := some y1
def smithyref01_D_Bytes.b1 (x1 : List Int) (rec1 : Int → (List Int) → Option ((List Int))) (y4 : Int) (y5 : List Int) : Option ((List Int)) := if (decide (y4 < 32)) = true then (if (0 : Int) ≤ y4 ∧ y4 < 32 then (if (0 : Int) ≤ (wr .i64 (31 - y4)) ∧ (wr .i64 (31 - y4)) < 32 then (rec1 (wr .i64 (y4 + 1)) (y5.set (Int.toNat (wr .i64 (31 - y4))) (wr .u8 (rd x1 y4)))) else none) else none) else (smithyref01_D_Bytes.j1 y5)
def smithyref01_D_Bytes.l1 (x1 : List Int) : Nat → Int → (List Int) → Option ((List Int))
  | 0, _, _ => none
  | q + 1, y4, y5 => smithyref01_D_Bytes.b1 x1 (smithyref01_D_Bytes.l1 x1 q) y4 y5
def smithyref01_D_Bytes.f (k : Nat) (x1 : List Int) : Option ((List Int)) := smithyref01_D_Bytes.l1 x1 k 0 [0, 0, 0, 0, 0, 0, 0, 0, 0, 0, 0, 0, 0, 0, 0, 0, 0, 0, 0, 0, 0, 0, 0, 0, 0, 0, 0, 0, 0, 0, 0, 0]
theorem smithyref01_D_Bytes.ok (k : Nat) : smithyref01_D_Bytes.Ctr (smithyref01_D_Bytes.f k) := by
  intro x1 r h0 mi w0 ok hm
  delta smithyref01_D_Bytes.f at h0
  refine c_enterX (n := 18) [(.agg [.ints .i64 x1 32])] (l := [(0, (.agg [.ints .i64 x1 32]))]) Tryd.func21 rfl rfl rfl rfl ok hm ?_
  clear ok hm
  intro b0 hb a S
  refine c_region ?_
  refine s_box S rfl rfl rfl ?_; clear S a; intro g1 a w S
  refine s_alloc S Z36 rfl ⟨rfl, trivial⟩ rfl ?_; clear S a w; intro g2 a w S
  refine c_end ?_
  refine c_region ?_
  refine s_build S (ds := []) (dv := (.agg [.ints .u8 [0, 0, 0, 0, 0, 0, 0, 0, 0, 0, 0, 0, 0, 0, 0, 0, 0, 0, 0, 0, 0, 0, 0, 0, 0, 0, 0, 0, 0, 0, 0, 0] 32])) rfl (fun _ => by kernel_rfl) ⟨rfl, trivial⟩ rfl ?_; clear S a; intro a S
  refine s_alloc S Z36 rfl ⟨rfl, trivial⟩ rfl ?_; clear S a w; intro g3 a w S
  refine s_store S rfl rfl rfl (s' := [.ints .u8 [0, 0, 0, 0, 0, 0, 0, 0, 0, 0, 0, 0, 0, 0, 0, 0, 0, 0, 0, 0, 0, 0, 0, 0, 0, 0, 0, 0, 0, 0, 0, 0] 32]) .here T36 rfl rfl ?_; clear S w; intro w S
  refine c_end ?_
  refine wp_seq_k ?_
  intro K1 hK1
  have j1 : ∀ (m : Mem) (g13 : Nat) (g14 : Nat) (y1 : List Int) (a : Act) (w : World), St 18 m b0 [(3, (.v (.pointer (some ⟨g13, 0, none⟩)))), (2, (.v (.pointer (some ⟨g14, 0, none⟩))))] [Res.cells g13 36 [.ints .u8 y1 32], Res.cells g14 36 [.ints .u8 [0, 0, 0, 0, 0, 0, 0, 0, 0, 0, 0, 0, 0, 0, 0, 0, 0, 0, 0, 0, 0, 0, 0, 0, 0, 0, 0, 0, 0, 0, 0, 0] 32]] a w → smithyref01_D_Bytes.j1 y1 = some r → K1 a w := by
    intro m g13 g14 y1 a w S h0
    delta smithyref01_D_Bytes.j1 at h0
    refine hK1 a w ?_
    refine c_region ?_
    refine s_loada S rfl .here T36 (s' := [.ints .u8 y1 32]) rfl rfl ?_; clear S a; intro a S
    refine s_store S rfl rfl rfl (s' := [.ints .u8 y1 32]) (.there .here) T36 rfl rfl ?_; clear S w; intro w S
    refine c_end ?_
    refine wp_ret ?_
    obtain rfl := Option.some.inj h0
    exact b_ret1 (d := (.agg [.ints .u8 y1 32])) S rfl (resD_cell rfl (.there .here) T36 rfl rfl) fun ok => S.retX (Hx := []) hb _ _ (() : Unit) .nil ok
  refine c_region ?_
  refine s_assign S rfl rfl ?_; clear S a; intro a S
  refine c_end ?_
  refine wp_block ?_
  refine c_loop (fun q1 a w => ∃ (m : Mem) (y4 : Int) (g21 : Nat) (g22 : Nat) (g23 : Nat) (y5 : List Int), St 18 m b0 [(4, (.v (.int .i64 y4))), (3, (.v (.pointer (some ⟨g21, 0, none⟩)))), (2, (.v (.pointer (some ⟨g22, 0, none⟩)))), (1, (.v (.pointer (some ⟨g23, 0, none⟩))))] [Res.cells g21 36 [.ints .u8 y5 32], Res.cells g22 36 [.ints .u8 [0, 0, 0, 0, 0, 0, 0, 0, 0, 0, 0, 0, 0, 0, 0, 0, 0, 0, 0, 0, 0, 0, 0, 0, 0, 0, 0, 0, 0, 0, 0, 0] 32], Res.cells g23 57 [.ints .i64 x1 32]] a w ∧ smithyref01_D_Bytes.l1 x1 q1 y4 y5 = some r) ?_ ?_ (k := k) ⟨_, 0, g3, g2, g1, [0, 0, 0, 0, 0, 0, 0, 0, 0, 0, 0, 0, 0, 0, 0, 0, 0, 0, 0, 0, 0, 0, 0, 0, 0, 0, 0, 0, 0, 0, 0, 0], (S.sub ⟨rfl, rfl, rfl, rfl, trivial⟩ (.cons .here (.cons .here (.cons .here .nil)))), h0⟩
  · rintro a w ⟨m, y4, g21, g22, g23, y5, S, h0⟩
    exact (nomatch (show (none : Option ((List Int))) = some r from h0))
  · clear S h0
    rintro q1 a w ⟨m, y4, g21, g22, g23, y5, S, h0⟩
    replace h0 : smithyref01_D_Bytes.b1 x1 (smithyref01_D_Bytes.l1 x1 q1) y4 y5 = some r := h0
    delta smithyref01_D_Bytes.b1 at h0
    refine wp_seq ?_
    refine c_region ?_
    refine s_move S rfl rfl ?_; clear S a; intro a S
    refine s_bin S rfl rfl rfl rfl ?_; clear S a; intro a S
    refine c_end ?_
    rcases ite_of h0 with ⟨c1, h1⟩ | ⟨c1, h1⟩ <;> clear h0
    · refine c_condT S rfl c1 ?_
      refine wp_skip ?_
      refine x_thenN ?_
      refine wp_seq ?_
      refine wp_block ?_
      refine c_region' ?_
      refine s_move S rfl rfl ?_; clear S a; intro a S
      refine s_bin S rfl rfl rfl rfl ?_; clear S a; intro a S
      refine s_move S rfl rfl ?_; clear S a; intro a S
      obtain ⟨c2, h2⟩ := chk_of h1; clear h1
      refine s_iaddr S rfl rfl Tryd.underlying57 T3 c2.1 c2.2 (mul1 _ _) rfl ?_; clear S a; intro a S
      refine s_loadi S (i := y4) rfl (.there (.there .here)) T3 .here rfl c2.1 c2.2 rfl ?_; clear S a; intro a S
      refine s_conv S rfl rfl Tryd.underlying5 rfl ?_; clear S a; intro a S
      obtain ⟨c3, h3⟩ := chk_of h2; clear h2
      refine s_iaddr S rfl rfl Tryd.underlying36 T5 c3.1 c3.2 (mul1 _ _) rfl ?_; clear S a; intro a S
      refine s_storei S (i := (wr .i64 (31 - y4))) rfl rfl .here T5 .here rfl c3.1 c3.2 ?_; clear S w; intro w S
      refine c_end' ?_
      refine x_blockN ?_
      refine x_thenN ?_
      refine c_region' ?_
      refine s_move S rfl rfl ?_; clear S a; intro a S
      refine s_bin S rfl rfl rfl rfl ?_; clear S a; intro a S
      refine s_assign S rfl rfl ?_; clear S a; intro a S
      refine c_end' ?_
      refine x_thenN ?_
      exact ⟨_, (wr .i64 (y4 + 1)), g21, g22, g23, (y5.set (Int.toNat (wr .i64 (31 - y4))) (wr .u8 (rd x1 y4))), (S.sub ⟨rfl, rfl, rfl, rfl, trivial⟩ (.cons .here (.cons .here (.cons .here .nil)))), h3⟩
    · refine c_condF S rfl c1 ?_
      refine wp_exit ?_
      refine x_thenX ?_
      refine x_thenX ?_
      refine x_blockX ?_
      refine x_thenN ?_
      exact j1 _ g21 g22 y5 a w (S.sub ⟨rfl, rfl, trivial⟩ (.cons .here (.cons .here .nil))) h1
/-! smithy/smithyref07.Number -/
abbrev smithyref07_Number.Ty : Type := (List Int) → Option ((List Int))
def smithyref07_Number.Ctr (s : smithyref07_Number.Ty) : Prop := ∀ (x1 : List Int) (r : (List Int)) (h0 : s x1 = some r) (mi : Mem) (w0 : World), okL mi [(.agg [.ints .u64 x1 4])] → Pre mi [] w0 → Calls Tryd.prog 19 (([(.agg [.ints .u64 x1 4])] : List D).map D.val).toArray w0 (RetX mi [] (fun (ch : (Option Addr) × Nat × Nat) => ((.v (.slice ch.1 ch.2.1 ch.2.2)) : D)) (fun (ch : (Option Addr) × Nat × Nat) => [Res.row (Ty.int .u8) 5 ch.1 ch.2.1 ch.2.2 r]) w0)
def smithyref07_Number.j1 (t2 : (List Int)) (y1 : Int) : Option ((List Int)) := if (0 : Int) ≤ y1 ∧ (y1 : Int) ≤ 32 ∧ 32 ≤ ((32 : Nat) : Int) then (if ((([] : List Int)).length + (((t2).drop (Int.toNat y1)).take (Int.toNat 32 - Int.toNat y1)).length) * 1 ≤ 140737488355328 then (some (([] : List Int) ++ (((t2).drop (Int.toNat y1)).take (Int.toNat 32 - Int.toNat y1)))) else none) else none
def smithyref07_Number.j2 (t2 : (List Int)) (y4 : Int) (rec1 : Int → Option ((List Int))) (y5 : Bool) : Option ((List Int)) := if y5 = true then (rec1 (wr .i64 (y4 + 1))) else (smithyref07_Number.j1 t2 y4)
def smithyref07_Number.b1 (t2 : (List Int)) (rec1 : Int → Option ((List Int))) (y4 : Int) : Option ((List Int)) := if (decide (y4 < 32)) = true then (if (0 : Int) ≤ y4 ∧ y4 < 32 then (smithyref07_Number.j2 t2 y4 rec1 ((rd t2 y4) == 0)) else none) else (smithyref07_Number.j2 t2 y4 rec1 false)
def smithyref07_Number.l1 (t2 : (List Int)) : Nat → Int → Option ((List Int))
  | 0, _ => none
  | q + 1, y4 => smithyref07_Number.b1 t2 (smithyref07_Number.l1 t2 q) y4
def smithyref07_Number.f (k : Nat) (x1 : List Int) : Option ((List Int)) := (smithyref01_Of.f k x1).bind fun t1 => ((smithyref01_D_Bytes.f k t1).bind fun t2 => (smithyref07_Number.l1 t2 k 0))
theorem smithyref07_Number.ok (k : Nat) : smithyref07_Number.Ctr (smithyref07_Number.f k) := by
  intro x1 r h0 mi w0 ok hm
  delta smithyref07_Number.f at h0
  refine c_enterX (n := 25) [(.agg [.ints .u64 x1 4])] (l := [(0, (.agg [.ints .u64 x1 4]))]) Tryd.func19 rfl rfl rfl rfl ok hm ?_
  clear ok hm
  intro b0 hb a S
  refine c_region ?_
  refine s_box S rfl rfl rfl ?_; clear S a; intro g1 a w S
  refine s_assign S rfl rfl ?_; clear S a; intro a S
  refine c_end ?_
  refine c_region ?_
  refine s_loada S rfl .here T26 (s' := [.ints .u64 x1 4]) rfl rfl ?_; clear S a; intro a S
  obtain ⟨t1, et1, h1⟩ := bind_of h0; clear h0
  refine s_callP S (fun (ch : Unit) => ((.agg [.ints .i64 t1 32]) : D)) N20 rfl rfl (smithyref01_Of.ok k x1 t1 et1 _ _) ?_; clear S a w; intro ch1 m le1 a w S
  obtain ⟨t2, et2, h2⟩ := bind_of h1; clear h1
  refine s_callP S (fun (ch : Unit) => ((.agg [.ints .u8 t2 32]) : D)) N21 rfl rfl (smithyref01_D_Bytes.ok k t1 t2 et2 _ _) ?_; clear S a w; intro ch2 m le1 a w S
  refine s_alloc S Z36 rfl ⟨rfl, trivial⟩ rfl ?_; clear S a w; intro g2 a w S
  refine s_store S rfl rfl rfl (s' := [.ints .u8 t2 32]) .here T36 rfl rfl ?_; clear S w; intro w S
  refine c_end ?_
  refine c_region ?_
  refine s_assign S rfl rfl ?_; clear S a; intro a S
  refine c_end ?_
  refine wp_seq_k ?_
  intro K1 hK1
  have j1 : ∀ (m : Mem) (y1 : Int) (g8 : Nat) (a : Act) (w : World), St 25 m b0 [(4, (.v (.int .i64 y1))), (3, (.v (.pointer (some ⟨g8, 0, none⟩))))] [Res.cells g8 36 [.ints .u8 t2 32]] a w → smithyref07_Number.j1 t2 y1 = some r → K1 a w := by
    intro m y1 g8 a w S h0
    delta smithyref07_Number.j1 at h0
    refine hK1 a w ?_
    refine c_region ?_
    refine s_bldSl S (ty' := (Ty.int .u8)) (ds := []) (z := 0) (c0 := ()) (ys := ([] : List Int)) (cs := []) rfl Tryd.underlying27 J5 Z5 rfl ⟨rfl, trivial⟩ rfl rfl rfl rfl rfl rfl ?_; clear S a w; intro g9 a w S
    refine s_assign S rfl rfl ?_; clear S a; intro a S
    refine c_end ?_
    refine c_region ?_
    refine s_move S rfl rfl ?_; clear S a; intro a S
    refine s_move S rfl rfl ?_; clear S a; intro a S
    obtain ⟨c1, h1⟩ := chk_of h0; clear h0
    refine s_sliceA S (i := y1) (j := 32) (o' := if 32 = Int.toNat y1 then 0 else 0 + Int.toNat y1 * 1) (len := Int.toNat 32 - Int.toNat y1) (cap := 32 - Int.toNat y1) rfl Tryd.underlying36 T5 (.inr ⟨_, _, rfl, rfl⟩) (.inl ⟨rfl, rfl⟩) c1 rfl rfl rfl rfl ?_; clear S a; intro a S
    replace S := S.freeze (.there .here)
    obtain ⟨m, le1, S⟩ := S
    replace S := (S.slup' (u := 22) (lo := Int.toNat y1) (c := 32) (ys := ((t2).drop (Int.toNat y1)).take (Int.toNat 32 - Int.toNat y1)) rfl (Pull.mem (.there .here)).1 .here (ho_if c1) (hl_if c1) (hcap_if c1 rfl) rfl).2
    obtain ⟨c2, h2⟩ := chk_of h1; clear h1
    refine s_app S (k2 := ((((t2).drop (Int.toNat y1)).take (Int.toNat 32 - Int.toNat y1)).length)) (ys := (((t2).drop (Int.toNat y1)).take (Int.toNat 32 - Int.toNat y1))) rfl (fun _ _ => .here) rfl rfl rfl (RdS.src (S.get 22 (.sl (some ⟨g8, if 32 = Int.toNat y1 then 0 else 0 + Int.toNat y1 * 1, none⟩) (((t2).drop (Int.toNat y1)).take (Int.toNat 32 - Int.toNat y1)).length (32 - Int.toNat y1) (RdS (Ty.int .u8) (some ⟨g8, if 32 = Int.toNat y1 then 0 else 0 + Int.toNat y1 * 1, none⟩) (((t2).drop (Int.toNat y1)).take (Int.toNat 32 - Int.toNat y1)))) rfl).2.2.2.1 (by decide) S.frz) Tryd.underlying27 J5 c2 rfl ?_; clear S a w; intro A1 cp1 a w S
    refine s_assign S rfl rfl ?_; clear S a; intro a S
    refine c_end ?_
    refine c_region ?_
    refine s_move S rfl rfl ?_; clear S a; intro a S
    refine s_assign S rfl rfl ?_; clear S a; intro a S
    refine c_end ?_
    refine wp_ret ?_
    obtain rfl := Option.some.inj h2
    exact b_ret1 (d := (.v (.slice A1 (0 + ((((t2).drop (Int.toNat y1)).take (Int.toNat 32 - Int.toNat y1)).length)) cp1))) S rfl rfl fun ok => S.retX (Hx := []) hb _ _ ((A1, 0 + ((((t2).drop (Int.toNat y1)).take (Int.toNat 32 - Int.toNat y1)).length), cp1) : (Option Addr) × Nat × Nat) (.cons .here .nil) ok
  refine wp_block ?_
  refine c_loop (fun q1 a w => ∃ (m : Mem) (y4 : Int) (g13 : Nat), St 25 m b0 [(4, (.v (.int .i64 y4))), (3, (.v (.pointer (some ⟨g13, 0, none⟩))))] [Res.cells g13 36 [.ints .u8 t2 32]] a w ∧ smithyref07_Number.l1 t2 q1 y4 = some r) ?_ ?_ (k := k) ⟨_, 0, g2, (S.sub ⟨rfl, rfl, trivial⟩ (.cons .here .nil)), h2⟩
  · rintro a w ⟨m, y4, g13, S, h0⟩
    exact (nomatch (show (none : Option ((List Int))) = some r from h0))
  · clear S h2
    rintro q1 a w ⟨m, y4, g13, S, h0⟩
    replace h0 : smithyref07_Number.b1 t2 (smithyref07_Number.l1 t2 q1) y4 = some r := h0
    delta smithyref07_Number.b1 at h0
    refine wp_seq ?_
    refine wp_seq_k ?_
    intro K2 hK2
    have j2 : ∀ (m : Mem) (y5 : Bool) (g14 : Nat) (a : Act) (w : World), St 25 m b0 [(16, (.v (.bool y5))), (4, (.v (.int .i64 y4))), (3, (.v (.pointer (some ⟨g14, 0, none⟩))))] [Res.cells g14 36 [.ints .u8 t2 32]] a w → smithyref07_Number.j2 t2 y4 (smithyref07_Number.l1 t2 q1) y5 = some r → K2 a w := by
      intro m y5 g14 a w S h0
      delta smithyref07_Number.j2 at h0
      refine hK2 a w ?_
      rcases ite_of h0 with ⟨c3, h1⟩ | ⟨c3, h1⟩ <;> clear h0
      · refine c_condT S rfl c3 ?_
        refine wp_skip ?_
        refine x_thenN ?_
        refine wp_block ?_
        refine c_region' ?_
        refine s_move S rfl rfl ?_; clear S a; intro a S
        refine s_bin S rfl rfl rfl rfl ?_; clear S a; intro a S
        refine s_assign S rfl rfl ?_; clear S a; intro a S
        refine c_end' ?_
        refine x_blockN ?_
        refine x_thenN ?_
        exact ⟨_, (wr .i64 (y4 + 1)), g14, (S.sub ⟨rfl, rfl, trivial⟩ (.cons .here .nil)), h1⟩
      · refine c_condF S rfl c3 ?_
        refine wp_exit ?_
        refine x_thenX ?_
        refine x_thenX ?_
        refine x_blockX ?_
        refine x_thenN ?_
        exact j1 _ y4 g14 a w (S.sub ⟨rfl, rfl, trivial⟩ (.cons .here .nil)) h1
    refine c_region' ?_
    refine s_move S rfl rfl ?_; clear S a; intro a S
    refine s_bin S rfl rfl rfl rfl ?_; clear S a; intro a S
    refine s_move S rfl rfl ?_; clear S a; intro a S
    rcases ite_of h0 with ⟨c4, h1⟩ | ⟨c4, h1⟩ <;> clear h0
    · refine s_gT S (b := (decide (y4 < 32))) rfl rfl c4 ?_
      refine s_move S rfl rfl ?_; clear S a; intro a S
      refine s_gT S (b := (decide (y4 < 32))) rfl rfl c4 ?_
      obtain ⟨c5, h2⟩ := chk_of h1; clear h1
      refine s_iaddr S rfl rfl Tryd.underlying36 T5 c5.1 c5.2 (mul1 _ _) rfl ?_; clear S a; intro a S
      refine s_gT S (b := (decide (y4 < 32))) rfl rfl c4 ?_
      refine s_loadi S (i := y4) rfl .here T5 .here rfl c5.1 c5.2 rfl ?_; clear S a; intro a S
      refine s_gT S (b := (decide (y4 < 32))) rfl rfl c4 ?_
      refine s_bin S rfl rfl rfl rfl ?_; clear S a; intro a S
      refine s_pick S (b := true) (hc_of rfl c4) rfl rfl ?_; clear S a; intro a S
      refine c_end' ?_
      refine x_thenN ?_
      exact j2 _ ((rd t2 y4) == 0) g13 a w (S.sub ⟨rfl, rfl, rfl, trivial⟩ (.cons .here .nil)) h2
    · refine s_gF S (b := (decide (y4 < 32))) rfl rfl c4 rfl ?_; clear S a; intro a S
      refine s_gF S (b := (decide (y4 < 32))) rfl rfl c4 rfl ?_; clear S a; intro a S
      refine s_gF S (b := (decide (y4 < 32))) rfl rfl c4 rfl ?_; clear S a; intro a S
      refine s_gF S (b := (decide (y4 < 32))) rfl rfl c4 rfl ?_; clear S a; intro a S
      refine s_pick S (b := false) (hc_of rfl c4) rfl rfl ?_; clear S a; intro a S
      refine c_end' ?_
      refine x_thenN ?_
      exact j2 _ false g13 a w (S.sub ⟨rfl, rfl, rfl, trivial⟩ (.cons .here .nil)) h1
/-! smithy/smithyref07.end -/
abbrev smithyref07_end.Ty : Type := (List (Bool × (List Int) × Int)) → Int → Option Int
def smithyref07_end.Ctr (s : smithyref07_end.Ty) : Prop := ∀ (x1 : List (Bool × (List Int) × Int)) (x2 : Int) (ch_0_0 : Option Addr) (ch_0_1 : Nat) (r : Int) (h0 : s x1 x2 = some r) (mi : Mem) (w0 : World), okL mi [(.sl ch_0_0 (x1).length ch_0_1 (RdS (Ty.prod Ty.bool (Ty.prod (Ty.slice (Ty.int .u8)) (Ty.int .i64))) ch_0_0 x1)), (.v (.int .i64 x2))] → Pre mi [] w0 → Calls Tryd.prog 34 (([(.sl ch_0_0 (x1).length ch_0_1 (RdS (Ty.prod Ty.bool (Ty.prod (Ty.slice (Ty.int .u8)) (Ty.int .i64))) ch_0_0 x1)), (.v (.int .i64 x2))] : List D).map D.val).toArray w0 (RetX mi [] (fun (ch : Unit) => ((.v (.int .i64 r)) : D)) (fun (ch : Unit) => []) w0)
def smithyref07_end.j2 (x1 : List (Bool × (List Int) × Int)) (x2 : Int) (y7 : Int) : Option Int := if (y7 != (wr .i64 ((wr .i64 (x2 + 1)) + ((gt x1 x2).2.2)))) = true then (some (-1)) else (some y7)
def smithyref07_end.j3 (self0 : smithyref07_end.Ty) (x1 : List (Bool × (List Int) × Int)) (x2 : Int) (y11 : Int) (rec1 : Int → Option Int) (y12 : Bool) : Option Int := if y12 = true then ((self0 x1 y11).bind fun t1 => (rec1 t1)) else (smithyref07_end.j2 x1 x2 y11)
def smithyref07_end.b1 (self0 : smithyref07_end.Ty) (x1 : List (Bool × (List Int) × Int)) (x2 : Int) (rec1 : Int → Option Int) (y11 : Int) : Option Int := if (decide (0 ≤ y11)) = true then (smithyref07_end.j3 self0 x1 x2 y11 rec1 (decide (y11 < (wr .i64 ((wr .i64 (x2 + 1)) + ((gt x1 x2).2.2)))))) else (smithyref07_end.j3 self0 x1 x2 y11 rec1 false)
def smithyref07_end.l1 (self0 : smithyref07_end.Ty) (x1 : List (Bool × (List Int) × Int)) (x2 : Int) : Nat → Int → Option Int
  | 0, _ => none
  | q + 1, y11 => smithyref07_end.b1 self0 x1 x2 (smithyref07_end.l1 self0 x1 x2 q) y11
def smithyref07_end.j1 (k : Nat) (self0 : smithyref07_end.Ty) (x1 : List (Bool × (List Int) × Int)) (x2 : Int) (y1 : Bool) : Option Int := if y1 = true then (some (-1)) else (smithyref07_end.l1 self0 x1 x2 k (wr .i64 (x2 + 1)))
def smithyref07_end.body (self0 : smithyref07_end.Ty) (k : Nat) (x1 : List (Bool × (List Int) × Int)) (x2 : Int) : Option Int := if (decide (((x1).length : Int) ≤ x2)) = true then (some (-1)) else (if (0 : Int) ≤ x2 ∧ x2 < ((x1).length : Int) then (if (!((gt x1 x2).1)) = true then (if (((gt x1 x2).2.2) != 0) = true then (some (-1)) else (some (wr .i64 (x2 + 1)))) else (if (decide (0 < (((gt x1 x2).2.1).length : Int))) = true then (smithyref07_end.j1 k self0 x1 x2 true) else (if (decide (((gt x1 x2).2.2) < 0)) = true then (smithyref07_end.j1 k self0 x1 x2 true) else (smithyref07_end.j1 k self0 x1 x2 (decide ((wr .i64 ((wr .i64 (((x1).length : Int) - 1)) - x2)) < ((gt x1 x2).2.2))))))) else none)
theorem smithyref07_end.okb (self0 : smithyref07_end.Ty) (c_0 : smithyref07_end.Ctr self0) (k : Nat) : smithyref07_end.Ctr (smithyref07_end.body self0 k) := by
  intro x1 x2 ch_0_0 ch_0_1 r h0 mi w0 ok hm
  delta smithyref07_end.body at h0
  refine c_enterX (n := 66) [(.sl ch_0_0 (x1).length ch_0_1 (RdS (Ty.prod Ty.bool (Ty.prod (Ty.slice (Ty.int .u8)) (Ty.int .i64))) ch_0_0 x1)), (.v (.int .i64 x2))] (l := [(0, (.sl ch_0_0 (x1).length ch_0_1 (RdS (Ty.prod Ty.bool (Ty.prod (Ty.slice (Ty.int .u8)) (Ty.int .i64))) ch_0_0 x1))), (1, (.v (.int .i64 x2)))]) Tryd.func34 rfl rfl rfl rfl ok hm ?_
  clear ok hm
  intro b0 hb a S
  refine c_region ?_
  refine s_assign S rfl rfl ?_; clear S a; intro a S
  refine c_end ?_
  refine wp_seq ?_
  refine c_region ?_
  refine s_move S rfl rfl ?_; clear S a; intro a S
  refine s_move S rfl rfl ?_; clear S a; intro a S
  refine s_lenS S rfl Tryd.underlying50 rfl ?_; clear S a; intro a S
  refine s_bin S rfl rfl rfl rfl ?_; clear S a; intro a S
  refine c_end ?_
  rcases ite_of h0 with ⟨c1, h1⟩ | ⟨c1, h1⟩ <;> clear h0
  · refine c_condT S rfl c1 ?_
    refine c_region ?_
    refine s_assign S rfl rfl ?_; clear S a; intro a S
    refine c_end ?_
    refine wp_ret ?_
    refine x_thenR ?_
    obtain rfl := Option.some.inj h1
    exact b_ret1 (d := (.v (.int .i64 (-1)))) S rfl rfl fun ok => S.retX (Hx := []) hb _ _ (() : Unit) .nil ok
  · refine c_condF S rfl c1 ?_
    refine wp_skip ?_
    refine x_thenN ?_
    refine c_region ?_
    refine s_move S rfl rfl ?_; clear S a; intro a S
    refine s_move S rfl rfl ?_; clear S a; intro a S
    obtain ⟨c2, h2⟩ := chk_of h1; clear h1
    refine s_iaddrS S rfl rfl rfl Tryd.underlying50 T46 c2.1 c2.2 rfl ?_; clear S a; intro p1 a S
    refine s_ldA S (fun (c : Unit × (Option Addr × Nat) × Unit) => [.one (.bool ((gt x1 x2).1)), .sl c.2.1.1 ((gt x1 x2).2.1).length c.2.1.2 (RdS (Ty.int .u8) c.2.1.1 ((gt x1 x2).2.1)), .one (.int .i64 ((gt x1 x2).2.2))]) rfl T46 (fun _ => rfl) rfl ?_; clear S a; intro ch1 a S
    refine s_alloc S Z46 rfl ⟨rfl, rfl, rfl, trivial⟩ rfl ?_; clear S a; intro g1 a w S
    refine s_store S rfl rfl rfl (s' := [.one (.bool ((gt x1 x2).1)), .sl ch1.2.1.1 ((gt x1 x2).2.1).length ch1.2.1.2 (RdS (Ty.int .u8) ch1.2.1.1 ((gt x1 x2).2.1)), .one (.int .i64 ((gt x1 x2).2.2))]) .here T46 rfl rfl ?_; clear S w; intro w S
    refine c_end ?_
    refine wp_seq ?_
    refine c_region ?_
    refine s_fieldAddr S rfl I46_0 T4 (by decide) rfl rfl ?_; clear S a; intro a S
    refine s_load1 S rfl .here T4 (v := (.bool ((gt x1 x2).1))) rfl rfl ?_; clear S a; intro a S
    refine s_not S rfl rfl ?_; clear S a; intro a S
    refine c_end ?_
    rcases ite_of h2 with ⟨c3, h3⟩ | ⟨c3, h3⟩ <;> clear h2
    · refine c_condT S rfl c3 ?_
      refine wp_seq ?_
      refine c_region ?_
      refine s_fieldAddr S rfl I46_2 T3 (by decide) rfl rfl ?_; clear S a; intro a S
      refine s_load1 S rfl .here T3 (v := (.int .i64 ((gt x1 x2).2.2))) rfl rfl ?_; clear S a; intro a S
      refine s_bin S rfl rfl rfl rfl ?_; clear S a; intro a S
      refine c_end ?_
      rcases ite_of h3 with ⟨c4, h4⟩ | ⟨c4, h4⟩ <;> clear h3
      · refine c_condT S rfl c4 ?_
        refine c_region ?_
        refine s_assign S rfl rfl ?_; clear S a; intro a S
        refine c_end ?_
        refine wp_ret ?_
        refine x_thenR ?_
        refine x_thenR ?_
        obtain rfl := Option.some.inj h4
        exact b_ret1 (d := (.v (.int .i64 (-1)))) S rfl rfl fun ok => S.retX (Hx := []) hb _ _ (() : Unit) .nil ok
      · refine c_condF S rfl c4 ?_
        refine wp_skip ?_
        refine x_thenN ?_
        refine c_region ?_
        refine s_move S rfl rfl ?_; clear S a; intro a S
        refine s_bin S rfl rfl rfl rfl ?_; clear S a; intro a S
        refine s_assign S rfl rfl ?_; clear S a; intro a S
        refine c_end ?_
        refine wp_ret ?_
        refine x_thenR ?_
        obtain rfl := Option.some.inj h4
        exact b_ret1 (d := (.v (.int .i64 (wr .i64 (x2 + 1))))) S rfl rfl fun ok => S.retX (Hx := []) hb _ _ (() : Unit) .nil ok
    · refine c_condF S rfl c3 ?_
      refine wp_skip ?_
      refine x_thenN ?_
      refine wp_seq ?_
      refine wp_seq_k ?_
      intro K1 hK1
      have j1 : ∀ (m : Mem) (y1 : Bool) (g2 : Nat) (A1 : Option Addr) (cp1 : Nat) (a : Act) (w : World), St 66 m b0 [(41, (.v (.bool y1))), (5, (.v (.pointer (some ⟨g2, 0, none⟩)))), (0, (.sl ch_0_0 (x1).length ch_0_1 (RdS (Ty.prod Ty.bool (Ty.prod (Ty.slice (Ty.int .u8)) (Ty.int .i64))) ch_0_0 x1))), (1, (.v (.int .i64 x2)))] [Res.cells g2 46 [.one (.bool ((gt x1 x2).1)), .sl A1 ((gt x1 x2).2.1).length cp1 (RdS (Ty.int .u8) A1 ((gt x1 x2).2.1)), .one (.int .i64 ((gt x1 x2).2.2))]] a w → smithyref07_end.j1 k self0 x1 x2 y1 = some r → K1 a w := by
        intro m y1 g2 A1 cp1 a w S h0
        delta smithyref07_end.j1 at h0
        refine hK1 a w ?_
        rcases ite_of h0 with ⟨c5, h1⟩ | ⟨c5, h1⟩ <;> clear h0
        · refine c_condT S rfl c5 ?_
          refine c_region ?_
          refine s_assign S rfl rfl ?_; clear S a; intro a S
          refine c_end ?_
          refine wp_ret ?_
          refine x_thenR ?_
          obtain rfl := Option.some.inj h1
          exact b_ret1 (d := (.v (.int .i64 (-1)))) S rfl rfl fun ok => S.retX (Hx := []) hb _ _ (() : Unit) .nil ok
        · refine c_condF S rfl c5 ?_
          refine wp_skip ?_
          refine x_thenN ?_
          refine c_region ?_
          refine s_move S rfl rfl ?_; clear S a; intro a S
          refine s_bin S rfl rfl rfl rfl ?_; clear S a; intro a S
          refine s_assign S rfl rfl ?_; clear S a; intro a S
          refine c_end ?_
          refine wp_seq_k ?_
          intro K2 hK2
          have j2 : ∀ (m : Mem) (y7 : Int) (g9 : Nat) (a : Act) (w : World), St 66 m b0 [(6, (.v (.int .i64 y7))), (5, (.v (.pointer (some ⟨g9, 0, none⟩)))), (1, (.v (.int .i64 x2)))] [Res.cells g9 46 [.one (.bool ((gt x1 x2).1)), .sl A1 ((gt x1 x2).2.1).length cp1 (RdS (Ty.int .u8) A1 ((gt x1 x2).2.1)), .one (.int .i64 ((gt x1 x2).2.2))]] a w → smithyref07_end.j2 x1 x2 y7 = some r → K2 a w := by
            intro m y7 g9 a w S h0
            delta smithyref07_end.j2 at h0
            refine hK2 a w ?_
            refine wp_seq ?_
            refine c_region ?_
            refine s_move S rfl rfl ?_; clear S a; intro a S
            refine s_move S rfl rfl ?_; clear S a; intro a S
            refine s_bin S rfl rfl rfl rfl ?_; clear S a; intro a S
            refine s_fieldAddr S rfl I46_2 T3 (by decide) rfl rfl ?_; clear S a; intro a S
            refine s_load1 S rfl .here T3 (v := (.int .i64 ((gt x1 x2).2.2))) rfl rfl ?_; clear S a; intro a S
            refine s_bin S rfl rfl rfl rfl ?_; clear S a; intro a S
            refine s_bin S rfl rfl rfl rfl ?_; clear S a; intro a S
            refine c_end ?_
            rcases ite_of h0 with ⟨c6, h1⟩ | ⟨c6, h1⟩ <;> clear h0
            · refine c_condT S rfl c6 ?_
              refine c_region ?_
              refine s_assign S rfl rfl ?_; clear S a; intro a S
              refine c_end ?_
              refine wp_ret ?_
              refine x_thenR ?_
              obtain rfl := Option.some.inj h1
              exact b_ret1 (d := (.v (.int .i64 (-1)))) S rfl rfl fun ok => S.retX (Hx := []) hb _ _ (() : Unit) .nil ok
            · refine c_condF S rfl c6 ?_
              refine wp_skip ?_
              refine x_thenN ?_
              refine c_region ?_
              refine s_move S rfl rfl ?_; clear S a; intro a S
              refine s_assign S rfl rfl ?_; clear S a; intro a S
              refine c_end ?_
              refine wp_ret ?_
              obtain rfl := Option.some.inj h1
              exact b_ret1 (d := (.v (.int .i64 y7))) S rfl rfl fun ok => S.retX (Hx := []) hb _ _ (() : Unit) .nil ok
          refine wp_block ?_
          refine c_loop (fun q1 a w => ∃ (m : Mem) (y11 : Int) (g14 : Nat), St 66 m b0 [(6, (.v (.int .i64 y11))), (5, (.v (.pointer (some ⟨g14, 0, none⟩)))), (0, (.sl ch_0_0 (x1).length ch_0_1 (RdS (Ty.prod Ty.bool (Ty.prod (Ty.slice (Ty.int .u8)) (Ty.int .i64))) ch_0_0 x1))), (1, (.v (.int .i64 x2)))] [Res.cells g14 46 [.one (.bool ((gt x1 x2).1)), .sl A1 ((gt x1 x2).2.1).length cp1 (RdS (Ty.int .u8) A1 ((gt x1 x2).2.1)), .one (.int .i64 ((gt x1 x2).2.2))]] a w ∧ smithyref07_end.l1 self0 x1 x2 q1 y11 = some r) ?_ ?_ (k := k) ⟨_, (wr .i64 (x2 + 1)), g2, (S.sub ⟨rfl, rfl, rfl, rfl, trivial⟩ (.cons .here .nil)), h1⟩
          · rintro a w ⟨m, y11, g14, S, h0⟩
            exact (nomatch (show (none : Option Int) = some r from h0))
          · clear S h1
            rintro q1 a w ⟨m, y11, g14, S, h0⟩
            replace h0 : smithyref07_end.b1 self0 x1 x2 (smithyref07_end.l1 self0 x1 x2 q1) y11 = some r := h0
            delta smithyref07_end.b1 at h0
            refine wp_seq ?_
            refine wp_seq_k ?_
            intro K3 hK3
            have j3 : ∀ (m : Mem) (y12 : Bool) (g15 : Nat) (a : Act) (w : World), St 66 m b0 [(54, (.v (.bool y12))), (6, (.v (.int .i64 y11))), (5, (.v (.pointer (some ⟨g15, 0, none⟩)))), (0, (.sl ch_0_0 (x1).length ch_0_1 (RdS (Ty.prod Ty.bool (Ty.prod (Ty.slice (Ty.int .u8)) (Ty.int .i64))) ch_0_0 x1))), (1, (.v (.int .i64 x2)))] [Res.cells g15 46 [.one (.bool ((gt x1 x2).1)), .sl A1 ((gt x1 x2).2.1).length cp1 (RdS (Ty.int .u8) A1 ((gt x1 x2).2.1)), .one (.int .i64 ((gt x1 x2).2.2))]] a w → smithyref07_end.j3 self0 x1 x2 y11 (smithyref07_end.l1 self0 x1 x2 q1) y12 = some r → K3 a w := by
              intro m y12 g15 a w S h0
              delta smithyref07_end.j3 at h0
              refine hK3 a w ?_
              rcases ite_of h0 with ⟨c7, h1⟩ | ⟨c7, h1⟩ <;> clear h0
              · refine c_condT S rfl c7 ?_
                refine wp_skip ?_
                refine x_thenN ?_
                refine wp_block ?_
                refine c_region' ?_
                refine s_move S rfl rfl ?_; clear S a; intro a S
                refine s_move S rfl rfl ?_; clear S a; intro a S
                obtain ⟨t1, et1, h2⟩ := bind_of h1; clear h1
                refine s_callP S (fun (ch : Unit) => ((.v (.int .i64 t1)) : D)) N34 rfl rfl (c_0 x1 y11 ch_0_0 ch_0_1 t1 et1 _ _) ?_; clear S a w; intro ch2 m le1 a w S
                refine s_assign S rfl rfl ?_; clear S a; intro a S
                refine c_end' ?_
                refine x_blockN ?_
                refine x_thenN ?_
                exact ⟨_, t1, g15, (S.sub ⟨rfl, rfl, rfl, rfl, trivial⟩ (.cons .here .nil)), h2⟩
              · refine c_condF S rfl c7 ?_
                refine wp_exit ?_
                refine x_thenX ?_
                refine x_thenX ?_
                refine x_blockX ?_
                refine x_thenN ?_
                exact j2 _ y11 g15 a w (S.sub ⟨rfl, rfl, rfl, trivial⟩ (.cons .here .nil)) h1
            refine c_region' ?_
            refine s_move S rfl rfl ?_; clear S a; intro a S
            refine s_bin S rfl rfl rfl rfl ?_; clear S a; intro a S
            refine s_move S rfl rfl ?_; clear S a; intro a S
            rcases ite_of h0 with ⟨c8, h1⟩ | ⟨c8, h1⟩ <;> clear h0
            · refine s_gT S (b := (decide (0 ≤ y11))) rfl rfl c8 ?_
              refine s_move S rfl rfl ?_; clear S a; intro a S
              refine s_gT S (b := (decide (0 ≤ y11))) rfl rfl c8 ?_
              refine s_move S rfl rfl ?_; clear S a; intro a S
              refine s_gT S (b := (decide (0 ≤ y11))) rfl rfl c8 ?_
              refine s_bin S rfl rfl rfl rfl ?_; clear S a; intro a S
              refine s_gT S (b := (decide (0 ≤ y11))) rfl rfl c8 ?_
              refine s_fieldAddr S rfl I46_2 T3 (by decide) rfl rfl ?_; clear S a; intro a S
              refine s_gT S (b := (decide (0 ≤ y11))) rfl rfl c8 ?_
              refine s_load1 S rfl .here T3 (v := (.int .i64 ((gt x1 x2).2.2))) rfl rfl ?_; clear S a; intro a S
              refine s_gT S (b := (decide (0 ≤ y11))) rfl rfl c8 ?_
              refine s_bin S rfl rfl rfl rfl ?_; clear S a; intro a S
              refine s_gT S (b := (decide (0 ≤ y11))) rfl rfl c8 ?_
              refine s_bin S rfl rfl rfl rfl ?_; clear S a; intro a S
              refine s_pick S (b := true) (hc_of rfl c8) rfl rfl ?_; clear S a; intro a S
              refine c_end' ?_
              refine x_thenN ?_
              exact j3 _ (decide (y11 < (wr .i64 ((wr .i64 (x2 + 1)) + ((gt x1 x2).2.2))))) g14 a w (S.sub ⟨rfl, rfl, rfl, rfl, rfl, trivial⟩ (.cons .here .nil)) h1
            · refine s_gF S (b := (decide (0 ≤ y11))) rfl rfl c8 rfl ?_; clear S a; intro a S
              refine s_gF S (b := (decide (0 ≤ y11))) rfl rfl c8 rfl ?_; clear S a; intro a S
              refine s_gF S (b := (decide (0 ≤ y11))) rfl rfl c8 rfl ?_; clear S a; intro a S
              refine s_gF S (b := (decide (0 ≤ y11))) rfl rfl c8 rfl ?_; clear S a; intro a S
              refine s_gF S (b := (decide (0 ≤ y11))) rfl rfl c8 rfl ?_; clear S a; intro a S
              refine s_gF S (b := (decide (0 ≤ y11))) rfl rfl c8 rfl ?_; clear S a; intro a S
              refine s_gF S (b := (decide (0 ≤ y11))) rfl rfl c8 rfl ?_; clear S a; intro a S
              refine s_pick S (b := false) (hc_of rfl c8) rfl rfl ?_; clear S a; intro a S
              refine c_end' ?_
              refine x_thenN ?_
              exact j3 _ false g14 a w (S.sub ⟨rfl, rfl, rfl, rfl, rfl, trivial⟩ (.cons .here .nil)) h1
      refine c_region' ?_
      refine s_fieldAddr S rfl I46_1 T27 (by decide) rfl rfl ?_; clear S a; intro a S
      refine s_loadSl S rfl .here T27 (A := ch1.2.1.1) (len := ((gt x1 x2).2.1).length) (cap := ch1.2.1.2) rfl rfl ?_; clear S a; intro a S
      refine s_lenS S rfl Tryd.underlying27 rfl ?_; clear S a; intro a S
      refine s_bin S rfl rfl rfl rfl ?_; clear S a; intro a S
      refine s_move S rfl rfl ?_; clear S a; intro a S
      rcases ite_of h3 with ⟨c9, h4⟩ | ⟨c9, h4⟩ <;> clear h3
      · refine s_gF S (b := (decide (0 < (((gt x1 x2).2.1).length : Int)))) rfl rfl c9 rfl ?_; clear S a; intro a S
        refine s_gF S (b := (decide (0 < (((gt x1 x2).2.1).length : Int)))) rfl rfl c9 rfl ?_; clear S a; intro a S
        refine s_gF S (b := (decide (0 < (((gt x1 x2).2.1).length : Int)))) rfl rfl c9 rfl ?_; clear S a; intro a S
        refine s_pick S (b := true) (hc_of rfl c9) rfl rfl ?_; clear S a; intro a S
        refine s_move S rfl rfl ?_; clear S a; intro a S
        refine s_gF S (b := true) rfl rfl rfl rfl ?_; clear S a; intro a S
        refine s_gF S (b := true) rfl rfl rfl rfl ?_; clear S a; intro a S
        refine s_gF S (b := true) rfl rfl rfl rfl ?_; clear S a; intro a S
        refine s_gF S (b := true) rfl rfl rfl rfl ?_; clear S a; intro a S
        refine s_gF S (b := true) rfl rfl rfl rfl ?_; clear S a; intro a S
        refine s_gF S (b := true) rfl rfl rfl rfl ?_; clear S a; intro a S
        refine s_gF S (b := true) rfl rfl rfl rfl ?_; clear S a; intro a S
        refine s_gF S (b := true) rfl rfl rfl rfl ?_; clear S a; intro a S
        refine s_pick S (b := true) (hc_of rfl rfl) rfl rfl ?_; clear S a; intro a S
        refine c_end' ?_
        refine x_thenN ?_
        exact j1 _ true g1 ch1.2.1.1 ch1.2.1.2 a w (S.sub ⟨rfl, rfl, rfl, rfl, trivial⟩ (.cons .here .nil)) h4
      · refine s_gT S (b := (decide (0 < (((gt x1 x2).2.1).length : Int)))) rfl rfl c9 ?_
        refine s_fieldAddr S rfl I46_2 T3 (by decide) rfl rfl ?_; clear S a; intro a S
        refine s_gT S (b := (decide (0 < (((gt x1 x2).2.1).length : Int)))) rfl rfl c9 ?_
        refine s_load1 S rfl .here T3 (v := (.int .i64 ((gt x1 x2).2.2))) rfl rfl ?_; clear S a; intro a S
        refine s_gT S (b := (decide (0 < (((gt x1 x2).2.1).length : Int)))) rfl rfl c9 ?_
        refine s_bin S rfl rfl rfl rfl ?_; clear S a; intro a S
        refine s_pick S (b := false) (hc_of rfl c9) rfl rfl ?_; clear S a; intro a S
        refine s_move S rfl rfl ?_; clear S a; intro a S
        rcases ite_of h4 with ⟨c10, h5⟩ | ⟨c10, h5⟩ <;> clear h4
        · refine s_gF S (b := (decide (((gt x1 x2).2.2) < 0))) rfl rfl c10 rfl ?_; clear S a; intro a S
          refine s_gF S (b := (decide (((gt x1 x2).2.2) < 0))) rfl rfl c10 rfl ?_; clear S a; intro a S
          refine s_gF S (b := (decide (((gt x1 x2).2.2) < 0))) rfl rfl c10 rfl ?_; clear S a; intro a S
          refine s_gF S (b := (decide (((gt x1 x2).2.2) < 0))) rfl rfl c10 rfl ?_; clear S a; intro a S
          refine s_gF S (b := (decide (((gt x1 x2).2.2) < 0))) rfl rfl c10 rfl ?_; clear S a; intro a S
          refine s_gF S (b := (decide (((gt x1 x2).2.2) < 0))) rfl rfl c10 rfl ?_; clear S a; intro a S
          refine s_gF S (b := (decide (((gt x1 x2).2.2) < 0))) rfl rfl c10 rfl ?_; clear S a; intro a S
          refine s_gF S (b := (decide (((gt x1 x2).2.2) < 0))) rfl rfl c10 rfl ?_; clear S a; intro a S
          refine s_pick S (b := true) (hc_of rfl c10) rfl rfl ?_; clear S a; intro a S
          refine c_end' ?_
          refine x_thenN ?_
          exact j1 _ true g1 ch1.2.1.1 ch1.2.1.2 a w (S.sub ⟨rfl, rfl, rfl, rfl, trivial⟩ (.cons .here .nil)) h5
        · refine s_gT S (b := (decide (((gt x1 x2).2.2) < 0))) rfl rfl c10 ?_
          refine s_fieldAddr S rfl I46_2 T3 (by decide) rfl rfl ?_; clear S a; intro a S
          refine s_gT S (b := (decide (((gt x1 x2).2.2) < 0))) rfl rfl c10 ?_
          refine s_load1 S rfl .here T3 (v := (.int .i64 ((gt x1 x2).2.2))) rfl rfl ?_; clear S a; intro a S
          refine s_gT S (b := (decide (((gt x1 x2).2.2) < 0))) rfl rfl c10 ?_
          refine s_move S rfl rfl ?_; clear S a; intro a S
          refine s_gT S (b := (decide (((gt x1 x2).2.2) < 0))) rfl rfl c10 ?_
          refine s_lenS S rfl Tryd.underlying50 rfl ?_; clear S a; intro a S
          refine s_gT S (b := (decide (((gt x1 x2).2.2) < 0))) rfl rfl c10 ?_
          refine s_bin S rfl rfl rfl rfl ?_; clear S a; intro a S
          refine s_gT S (b := (decide (((gt x1 x2).2.2) < 0))) rfl rfl c10 ?_
          refine s_move S rfl rfl ?_; clear S a; intro a S
          refine s_gT S (b := (decide (((gt x1 x2).2.2) < 0))) rfl rfl c10 ?_
          refine s_bin S rfl rfl rfl rfl ?_; clear S a; intro a S
          refine s_gT S (b := (decide (((gt x1 x2).2.2) < 0))) rfl rfl c10 ?_
          refine s_bin S rfl rfl rfl rfl ?_; clear S a; intro a S
          refine s_pick S (b := false) (hc_of rfl c10) rfl rfl ?_; clear S a; intro a S
          refine c_end' ?_
          refine x_thenN ?_
          exact j1 _ (decide ((wr .i64 ((wr .i64 (((x1).length : Int) - 1)) - x2)) < ((gt x1 x2).2.2))) g1 ch1.2.1.1 ch1.2.1.2 a w (S.sub ⟨rfl, rfl, rfl, rfl, trivial⟩ (.cons .here .nil)) h5
def smithyref07_end.f : Nat → smithyref07_end.Ty
  | 0 => fun _ _ => none
  | k + 1 => smithyref07_end.body (smithyref07_end.f k) k
theorem smithyref07_end.f_succ (k : Nat) : smithyref07_end.f (k + 1) = smithyref07_end.body (smithyref07_end.f k) k := rfl
theorem smithyref07_end.oks : ∀ k : Nat, smithyref07_end.Ctr (smithyref07_end.f k)
  | 0 => fun _ _ _ _ r h0 => (nomatch (show (none : Option Int) = some r from h0))
  | k + 1 => by
    have ih := smithyref07_end.oks k
    exact smithyref07_end.okb (smithyref07_end.f k) ih k
theorem smithyref07_end.ok (k : Nat) : smithyref07_end.Ctr (smithyref07_end.f k) := (smithyref07_end.oks k)
/-! smithy/smithyref07.deep -/
abbrev smithyref07_deep.Ty : Type := (List (Bool × (List Int) × Int)) → Option Int
def smithyref07_deep.Ctr (s : smithyref07_deep.Ty) : Prop := ∀ (x1 : List (Bool × (List Int) × Int)) (ch_0_0 : Option Addr) (ch_0_1 : Nat) (r : Int) (h0 : s x1 = some r) (mi : Mem) (w0 : World), okL mi [(.sl ch_0_0 (x1).length ch_0_1 (RdS (Ty.prod Ty.bool (Ty.prod (Ty.slice (Ty.int .u8)) (Ty.int .i64))) ch_0_0 x1))] → Pre mi [] w0 → Calls Tryd.prog 35 (([(.sl ch_0_0 (x1).length ch_0_1 (RdS (Ty.prod Ty.bool (Ty.prod (Ty.slice (Ty.int .u8)) (Ty.int .i64))) ch_0_0 x1))] : List D).map D.val).toArray w0 (RetX mi [] (fun (ch : Unit) => ((.v (.int .i64 r)) : D)) (fun (ch : Unit) => []) w0)
def smithyref07_deep.j1 (y1 : Int) : Option Int := some y1
def smithyref07_deep.j2 (y24 : Int) (rec1 : Int → Int → Option Int) (y35 : Int) : Option Int := rec1 (wr .i64 (y24 + 1)) y35
def smithyref07_deep.j3 (y24 : Int) (y25 : Int) (rec1 : Int → Int → Option Int) (y44 : Int) : Option Int := smithyref07_deep.j2 y24 rec1 (imax y25 y44)
def smithyref07_deep.j4 (y51 : Int) (rec2 : Int → Int → Option Int) (y54 : Int) : Option Int := rec2 (wr .i64 (y51 + 1)) y54
def smithyref07_deep.j5 (y51 : Int) (y52 : Int) (rec2 : Int → Int → Option Int) (y55 : Bool) : Option Int := if y55 = true then (smithyref07_deep.j4 y51 rec2 (wr .i64 (y52 + 1))) else (smithyref07_deep.j4 y51 rec2 y52)
def smithyref07_deep.b2 (x1 : List (Bool × (List Int) × Int)) (y24 : Int) (y25 : Int) (rec1 : Int → Int → Option Int) (rec2 : Int → Int → Option Int) (y51 : Int) (y52 : Int) : Option Int := if (decide (y51 ≤ y24)) = true then (if (0 : Int) ≤ y51 ∧ y51 < ((x1).length : Int) then (if ((gt x1 y51).1) = true then (smithyref07_deep.j5 y51 y52 rec2 (decide (y24 ≤ (wr .i64 (y51 + ((gt x1 y51).2.2)))))) else (smithyref07_deep.j5 y51 y52 rec2 false)) else none) else (smithyref07_deep.j3 y24 y25 rec1 y52)
def smithyref07_deep.l2 (x1 : List (Bool × (List Int) × Int)) (y24 : Int) (y25 : Int) (rec1 : Int → Int → Option Int) : Nat → Int → Int → Option Int
  | 0, _, _ => none
  | q + 1, y51, y52 => smithyref07_deep.b2 x1 y24 y25 rec1 (smithyref07_deep.l2 x1 y24 y25 rec1 q) y51 y52
def smithyref07_deep.b1 (k : Nat) (x1 : List (Bool × (List Int) × Int)) (rec1 : Int → Int → Option Int) (y24 : Int) (y25 : Int) : Option Int := if (decide (y24 < ((x1).length : Int))) = true then (smithyref07_deep.l2 x1 y24 y25 rec1 k 0 0) else (smithyref07_deep.j1 y25)
def smithyref07_deep.l1 (k : Nat) (x1 : List (Bool × (List Int) × Int)) : Nat → Int → Int → Option Int
  | 0, _, _ => none
  | q + 1, y24, y25 => smithyref07_deep.b1 k x1 (smithyref07_deep.l1 k x1 q) y24 y25
def smithyref07_deep.f (k : Nat) (x1 : List (Bool × (List Int) × Int)) : Option Int := smithyref07_deep.l1 k x1 k 0 0
theorem smithyref07_deep.ok (k : Nat) : smithyref07_deep.Ctr (smithyref07_deep.f k) := by
  intro x1 ch_0_0 ch_0_1 r h0 mi w0 ok hm
  delta smithyref07_deep.f at h0
  refine c_enterX (n := 40) [(.sl ch_0_0 (x1).length ch_0_1 (RdS (Ty.prod Ty.bool (Ty.prod (Ty.slice (Ty.int .u8)) (Ty.int .i64))) ch_0_0 x1))] (l := [(0, (.sl ch_0_0 (x1).length ch_0_1 (RdS (Ty.prod Ty.bool (Ty.prod (Ty.slice (Ty.int .u8)) (Ty.int .i64))) ch_0_0 x1)))]) Tryd.func35 rfl rfl rfl rfl ok hm ?_
  clear ok hm
  intro b0 hb a S
  refine c_region ?_
  refine s_assign S rfl rfl ?_; clear S a; intro a S
  refine c_end ?_
  refine c_region ?_
  refine s_assign S rfl rfl ?_; clear S a; intro a S
  refine c_end ?_
  refine wp_seq_k ?_
  intro K1 hK1
  have j1 : ∀ (m : Mem) (y1 : Int) (a : Act) (w : World), St 40 m b0 [(3, (.v (.int .i64 y1)))] [] a w → smithyref07_deep.j1 y1 = some r → K1 a w := by
    intro m y1 a w S h0
    delta smithyref07_deep.j1 at h0
    refine hK1 a w ?_
    refine c_region ?_
    refine s_move S rfl rfl ?_; clear S a; intro a S
    refine s_assign S rfl rfl ?_; clear S a; intro a S
    refine c_end ?_
    refine wp_ret ?_
    obtain rfl := Option.some.inj h0
    exact b_ret1 (d := (.v (.int .i64 y1))) S rfl rfl fun ok => S.retX (Hx := []) hb _ _ (() : Unit) .nil ok
  refine c_region ?_
  refine s_move S rfl rfl ?_; clear S a; intro a S
  refine s_lenS S rfl Tryd.underlying50 rfl ?_; clear S a; intro a S
  refine s_move S rfl rfl ?_; clear S a; intro a S
  refine c_end ?_
  refine wp_block ?_
  refine c_loop (fun q1 a w => ∃ (m : Mem) (y24 : Int) (y25 : Int), St 40 m b0 [(9, (.v (.int .i64 y24))), (8, (.v (.int .i64 ((x1).length : Int)))), (3, (.v (.int .i64 y25))), (0, (.sl ch_0_0 (x1).length ch_0_1 (RdS (Ty.prod Ty.bool (Ty.prod (Ty.slice (Ty.int .u8)) (Ty.int .i64))) ch_0_0 x1)))] [] a w ∧ smithyref07_deep.l1 k x1 q1 y24 y25 = some r) ?_ ?_ (k := k) ⟨_, 0, 0, (S.sub ⟨rfl, rfl, rfl, rfl, trivial⟩ .nil), h0⟩
  · rintro a w ⟨m, y24, y25, S, h0⟩
    exact (nomatch (show (none : Option Int) = some r from h0))
  · clear S h0
    rintro q1 a w ⟨m, y24, y25, S, h0⟩
    replace h0 : smithyref07_deep.b1 k x1 (smithyref07_deep.l1 k x1 q1) y24 y25 = some r := h0
    delta smithyref07_deep.b1 at h0
    refine c_region ?_
    refine s_bin S rfl rfl rfl rfl ?_; clear S a; intro a S
    refine c_end ?_
    refine wp_seq ?_
    rcases ite_of h0 with ⟨c1, h1⟩ | ⟨c1, h1⟩ <;> clear h0
    · refine c_condT S rfl c1 ?_
      refine wp_skip ?_
      refine x_thenN ?_
      refine wp_seq_k ?_
      intro K2 hK2
      have j2 : ∀ (m : Mem) (y35 : Int) (a : Act) (w : World), St 40 m b0 [(3, (.v (.int .i64 y35))), (9, (.v (.int .i64 y24))), (8, (.v (.int .i64 ((x1).length : Int)))), (0, (.sl ch_0_0 (x1).length ch_0_1 (RdS (Ty.prod Ty.bool (Ty.prod (Ty.slice (Ty.int .u8)) (Ty.int .i64))) ch_0_0 x1)))] [] a w → smithyref07_deep.j2 y24 (smithyref07_deep.l1 k x1 q1) y35 = some r → K2 a w := by
        intro m y35 a w S h0
        delta smithyref07_deep.j2 at h0
        refine hK2 a w ?_
        refine c_region' ?_
        refine s_bin S rfl rfl rfl rfl ?_; clear S a; intro a S
        refine s_move S rfl rfl ?_; clear S a; intro a S
        refine c_end' ?_
        refine x_thenN ?_
        exact ⟨_, (wr .i64 (y24 + 1)), y35, (S.sub ⟨rfl, rfl, rfl, rfl, trivial⟩ .nil), h0⟩
      refine wp_block ?_
      refine c_region ?_
      refine s_move S rfl rfl ?_; clear S a; intro a S
      refine s_assign S rfl rfl ?_; clear S a; intro a S
      refine c_end ?_
      refine c_region ?_
      refine s_assign S rfl rfl ?_; clear S a; intro a S
      refine c_end ?_
      refine wp_seq_k ?_
      intro K3 hK3
      have j3 : ∀ (m : Mem) (y44 : Int) (a : Act) (w : World), St 40 m b0 [(5, (.v (.int .i64 y44))), (9, (.v (.int .i64 y24))), (8, (.v (.int .i64 ((x1).length : Int)))), (3, (.v (.int .i64 y25))), (0, (.sl ch_0_0 (x1).length ch_0_1 (RdS (Ty.prod Ty.bool (Ty.prod (Ty.slice (Ty.int .u8)) (Ty.int .i64))) ch_0_0 x1)))] [] a w → smithyref07_deep.j3 y24 y25 (smithyref07_deep.l1 k x1 q1) y44 = some r → K3 a w := by
        intro m y44 a w S h0
        delta smithyref07_deep.j3 at h0
        refine hK3 a w ?_
        refine c_region' ?_
        refine s_move S rfl rfl ?_; clear S a; intro a S
        refine s_move S rfl rfl ?_; clear S a; intro a S
        refine s_max2 S rfl rfl rfl ?_; clear S a; intro a S
        refine s_assign S rfl rfl ?_; clear S a; intro a S
        refine c_end' ?_
        refine x_blockN ?_
        refine x_thenN ?_
        exact j2 _ (imax y25 y44) a w (S.sub ⟨rfl, rfl, rfl, rfl, trivial⟩ .nil) h0
      refine c_region ?_
      refine s_assign S rfl rfl ?_; clear S a; intro a S
      refine c_end ?_
      refine wp_block ?_
      refine c_loop (fun q2 a w => ∃ (m : Mem) (y51 : Int) (y52 : Int), St 40 m b0 [(6, (.v (.int .i64 y51))), (5, (.v (.int .i64 y52))), (4, (.v (.int .i64 y24))), (9, (.v (.int .i64 y24))), (8, (.v (.int .i64 ((x1).length : Int)))), (3, (.v (.int .i64 y25))), (0, (.sl ch_0_0 (x1).length ch_0_1 (RdS (Ty.prod Ty.bool (Ty.prod (Ty.slice (Ty.int .u8)) (Ty.int .i64))) ch_0_0 x1)))] [] a w ∧ smithyref07_deep.l2 x1 y24 y25 (smithyref07_deep.l1 k x1 q1) q2 y51 y52 = some r) ?_ ?_ (k := k) ⟨_, 0, 0, (S.sub ⟨rfl, rfl, rfl, rfl, rfl, rfl, rfl, trivial⟩ .nil), h1⟩
      · rintro a w ⟨m, y51, y52, S, h0⟩
        exact (nomatch (show (none : Option Int) = some r from h0))
      · clear S h1
        rintro q2 a w ⟨m, y51, y52, S, h0⟩
        replace h0 : smithyref07_deep.b2 x1 y24 y25 (smithyref07_deep.l1 k x1 q1) (smithyref07_deep.l2 x1 y24 y25 (smithyref07_deep.l1 k x1 q1) q2) y51 y52 = some r := h0
        delta smithyref07_deep.b2 at h0
        refine wp_seq ?_
        refine c_region ?_
        refine s_move S rfl rfl ?_; clear S a; intro a S
        refine s_move S rfl rfl ?_; clear S a; intro a S
        refine s_bin S rfl rfl rfl rfl ?_; clear S a; intro a S
        refine c_end ?_
        rcases ite_of h0 with ⟨c2, h1⟩ | ⟨c2, h1⟩ <;> clear h0
        · refine c_condT S rfl c2 ?_
          refine wp_skip ?_
          refine x_thenN ?_
          refine wp_seq_k ?_
          intro K4 hK4
          have j4 : ∀ (m : Mem) (y54 : Int) (a : Act) (w : World), St 40 m b0 [(5, (.v (.int .i64 y54))), (6, (.v (.int .i64 y51))), (4, (.v (.int .i64 y24))), (9, (.v (.int .i64 y24))), (8, (.v (.int .i64 ((x1).length : Int)))), (3, (.v (.int .i64 y25))), (0, (.sl ch_0_0 (x1).length ch_0_1 (RdS (Ty.prod Ty.bool (Ty.prod (Ty.slice (Ty.int .u8)) (Ty.int .i64))) ch_0_0 x1)))] [] a w → smithyref07_deep.j4 y51 (smithyref07_deep.l2 x1 y24 y25 (smithyref07_deep.l1 k x1 q1) q2) y54 = some r → K4 a w := by
            intro m y54 a w S h0
            delta smithyref07_deep.j4 at h0
            refine hK4 a w ?_
            refine c_region' ?_
            refine s_move S rfl rfl ?_; clear S a; intro a S
            refine s_bin S rfl rfl rfl rfl ?_; clear S a; intro a S
            refine s_assign S rfl rfl ?_; clear S a; intro a S
            refine c_end' ?_
            refine x_thenN ?_
            exact ⟨_, (wr .i64 (y51 + 1)), y54, (S.sub ⟨rfl, rfl, rfl, rfl, rfl, rfl, rfl, trivial⟩ .nil), h0⟩
          refine wp_block ?_
          refine wp_seq_k ?_
          intro K5 hK5
          have j5 : ∀ (m : Mem) (y55 : Bool) (a : Act) (w : World), St 40 m b0 [(32, (.v (.bool y55))), (6, (.v (.int .i64 y51))), (5, (.v (.int .i64 y52))), (4, (.v (.int .i64 y24))), (9, (.v (.int .i64 y24))), (8, (.v (.int .i64 ((x1).length : Int)))), (3, (.v (.int .i64 y25))), (0, (.sl ch_0_0 (x1).length ch_0_1 (RdS (Ty.prod Ty.bool (Ty.prod (Ty.slice (Ty.int .u8)) (Ty.int .i64))) ch_0_0 x1)))] [] a w → smithyref07_deep.j5 y51 y52 (smithyref07_deep.l2 x1 y24 y25 (smithyref07_deep.l1 k x1 q1) q2) y55 = some r → K5 a w := by
            intro m y55 a w S h0
            delta smithyref07_deep.j5 at h0
            refine hK5 a w ?_
            rcases ite_of h0 with ⟨c3, h1⟩ | ⟨c3, h1⟩ <;> clear h0
            · refine c_condT S rfl c3 ?_
              refine c_region' ?_
              refine s_move S rfl rfl ?_; clear S a; intro a S
              refine s_bin S rfl rfl rfl rfl ?_; clear S a; intro a S
              refine s_assign S rfl rfl ?_; clear S a; intro a S
              refine c_end' ?_
              refine x_blockN ?_
              refine x_thenN ?_
              exact j4 _ (wr .i64 (y52 + 1)) a w (S.sub ⟨rfl, rfl, rfl, rfl, rfl, rfl, rfl, trivial⟩ .nil) h1
            · refine c_condF S rfl c3 ?_
              refine wp_skip ?_
              refine x_blockN ?_
              refine x_thenN ?_
              exact j4 _ y52 a w (S.sub ⟨rfl, rfl, rfl, rfl, rfl, rfl, rfl, trivial⟩ .nil) h1
          refine c_region' ?_
          refine s_move S rfl rfl ?_; clear S a; intro a S
          refine s_move S rfl rfl ?_; clear S a; intro a S
          obtain ⟨c4, h2⟩ := chk_of h1; clear h1
          refine s_iaddrS S rfl rfl rfl Tryd.underlying50 T46 c4.1 c4.2 rfl ?_; clear S a; intro p1 a S
          refine s_faddrP S (tF := Ty.bool) (y := (gt x1 y51).1) rfl I46_0 T4 (by decide) (fun m h => (at_fst (at_0 h))) rfl ?_; clear S a; intro a S
          refine s_ld1 S (v := (.bool ((gt x1 y51).1))) rfl T4 (fun _ => rfl) rfl ?_; clear S a; intro a S
          refine s_move S rfl rfl ?_; clear S a; intro a S
          rcases ite_of h2 with ⟨c5, h3⟩ | ⟨c5, h3⟩ <;> clear h2
          · refine s_gT S (b := ((gt x1 y51).1)) rfl rfl c5 ?_
            refine s_move S rfl rfl ?_; clear S a; intro a S
            refine s_gT S (b := ((gt x1 y51).1)) rfl rfl c5 ?_
            refine s_move S rfl rfl ?_; clear S a; intro a S
            refine s_gT S (b := ((gt x1 y51).1)) rfl rfl c5 ?_
            refine s_move S rfl rfl ?_; clear S a; intro a S
            refine s_gT S (b := ((gt x1 y51).1)) rfl rfl c5 ?_
            refine s_move S rfl rfl ?_; clear S a; intro a S
            refine s_gT S (b := ((gt x1 y51).1)) rfl rfl c5 ?_
            refine s_iaddrS S rfl rfl rfl Tryd.underlying50 T46 c4.1 c4.2 rfl ?_; clear S a; intro p2 a S
            refine s_gT S (b := ((gt x1 y51).1)) rfl rfl c5 ?_
            refine s_faddrP S (tF := (Ty.int .i64)) (y := (gt x1 y51).2.2) rfl I46_2 T3 (by decide) (fun m h => (at_snd (at_snd (at_0 h)))) rfl ?_; clear S a; intro a S
            refine s_gT S (b := ((gt x1 y51).1)) rfl rfl c5 ?_
            refine s_ld1 S (v := (.int .i64 ((gt x1 y51).2.2))) rfl T3 (fun _ => rfl) rfl ?_; clear S a; intro a S
            refine s_gT S (b := ((gt x1 y51).1)) rfl rfl c5 ?_
            refine s_bin S rfl rfl rfl rfl ?_; clear S a; intro a S
            refine s_gT S (b := ((gt x1 y51).1)) rfl rfl c5 ?_
            refine s_bin S rfl rfl rfl rfl ?_; clear S a; intro a S
            refine s_pick S (b := true) (hc_of rfl c5) rfl rfl ?_; clear S a; intro a S
            refine c_end' ?_
            refine x_thenN ?_
            exact j5 _ (decide (y24 ≤ (wr .i64 (y51 + ((gt x1 y51).2.2))))) a w (S.sub ⟨rfl, rfl, rfl, rfl, rfl, rfl, rfl, rfl, trivial⟩ .nil) h3
          · refine s_gF S (b := ((gt x1 y51).1)) rfl rfl c5 rfl ?_; clear S a; intro a S
            refine s_gF S (b := ((gt x1 y51).1)) rfl rfl c5 rfl ?_; clear S a; intro a S
            refine s_gF S (b := ((gt x1 y51).1)) rfl rfl c5 rfl ?_; clear S a; intro a S
            refine s_gF S (b := ((gt x1 y51).1)) rfl rfl c5 rfl ?_; clear S a; intro a S
            refine s_gF S (b := ((gt x1 y51).1)) rfl rfl c5 rfl ?_; clear S a; intro a S
            refine s_gF S (b := ((gt x1 y51).1)) rfl rfl c5 rfl ?_; clear S a; intro a S
            refine s_gF S (b := ((gt x1 y51).1)) rfl rfl c5 rfl ?_; clear S a; intro a S
            refine s_gF S (b := ((gt x1 y51).1)) rfl rfl c5 rfl ?_; clear S a; intro a S
            refine s_gF S (b := ((gt x1 y51).1)) rfl rfl c5 rfl ?_; clear S a; intro a S
            refine s_pick S (b := false) (hc_of rfl c5) rfl rfl ?_; clear S a; intro a S
            refine c_end' ?_
            refine x_thenN ?_
            exact j5 _ false a w (S.sub ⟨rfl, rfl, rfl, rfl, rfl, rfl, rfl, rfl, trivial⟩ .nil) h3
        · refine c_condF S rfl c2 ?_
          refine wp_exit ?_
          refine x_thenX ?_
          refine x_thenX ?_
          refine x_blockX ?_
          refine x_thenN ?_
          exact j3 _ y52 a w (S.sub ⟨rfl, rfl, rfl, rfl, rfl, trivial⟩ .nil) h1
    · refine c_condF S rfl c1 ?_
      refine wp_exit ?_
      refine x_thenX ?_
      refine x_thenX ?_
      refine x_blockX ?_
      refine x_thenN ?_
      exact j1 _ y25 a w (S.sub ⟨rfl, trivial⟩ .nil) h1
/-! smithy/smithyref07.Head -/
abbrev smithyref07_Head.Ty : Type := Int → Int → Option ((List Int))
def smithyref07_Head.Ctr (s : smithyref07_Head.Ty) : Prop := ∀ (x1 : Int) (x2 : Int) (r : (List Int)) (h0 : s x1 x2 = some r) (mi : Mem) (w0 : World), okL mi [(.v (.int .i64 x1)), (.v (.int .i64 x2))] → Pre mi [] w0 → Calls Tryd.prog 46 (([(.v (.int .i64 x1)), (.v (.int .i64 x2))] : List D).map D.val).toArray w0 (RetX mi [] (fun (ch : (Option Addr) × Nat × Nat) => ((.v (.slice ch.1 ch.2.1 ch.2.2)) : D)) (fun (ch : (Option Addr) × Nat × Nat) => [Res.row (Ty.int .u8) 5 ch.1 ch.2.1 ch.2.2 r]) w0)
def smithyref07_Head.f (k : Nat) (x1 : Int) (x2 : Int) : Option ((List Int)) := if (decide (x1 ≤ 55)) = true then (some [wr .u8 (wr .i64 ((wr .i64 (128 + x2)) + x1))]) else ((smithyref07_Number.f k [wr .u64 x1, 0, 0, 0]).bind fun t1 => (if (([wr .u8 (wr .i64 ((wr .i64 (183 + x2)) + ((t1).length : Int)))]).length + (t1).length) * 1 ≤ 140737488355328 then (some ([wr .u8 (wr .i64 ((wr .i64 (183 + x2)) + ((t1).length : Int)))] ++ t1)) else none))
theorem smithyref07_Head.ok (k : Nat) : smithyref07_Head.Ctr (smithyref07_Head.f k) := by
  intro x1 x2 r h0 mi w0 ok hm
  delta smithyref07_Head.f at h0
  refine c_enterX (n := 30) [(.v (.int .i64 x1)), (.v (.int .i64 x2))] (l := [(0, (.v (.int .i64 x1))), (1, (.v (.int .i64 x2)))]) Tryd.func46 rfl rfl rfl rfl ok hm ?_
  clear ok hm
  intro b0 hb a S
  refine c_region ?_
  refine s_assign S rfl rfl ?_; clear S a; intro a S
  refine c_end ?_
  refine wp_seq ?_
  refine c_region ?_
  refine s_move S rfl rfl ?_; clear S a; intro a S
  refine s_bin S rfl rfl rfl rfl ?_; clear S a; intro a S
  refine c_end ?_
  rcases ite_of h0 with ⟨c1, h1⟩ | ⟨c1, h1⟩ <;> clear h0
  · refine c_condT S rfl c1 ?_
    refine c_region ?_
    refine s_move S rfl rfl ?_; clear S a; intro a S
    refine s_bin S rfl rfl rfl rfl ?_; clear S a; intro a S
    refine s_move S rfl rfl ?_; clear S a; intro a S
    refine s_bin S rfl rfl rfl rfl ?_; clear S a; intro a S
    refine s_conv S rfl rfl Tryd.underlying5 rfl ?_; clear S a; intro a S
    refine s_bldSl S (ty' := (Ty.int .u8)) (ds := [(0, (.v (.int .u8 (wr .u8 (wr .i64 ((wr .i64 (128 + x2)) + x1))))))]) (z := 0) (c0 := ()) (ys := [wr .u8 (wr .i64 ((wr .i64 (128 + x2)) + x1))]) (cs := [()]) rfl Tryd.underlying27 J5 Z5 rfl ⟨rfl, trivial⟩ rfl rfl rfl rfl rfl rfl ?_; clear S a; intro g1 a w S
    refine s_assign S rfl rfl ?_; clear S a; intro a S
    refine c_end ?_
    refine wp_ret ?_
    refine x_thenR ?_
    obtain rfl := Option.some.inj h1
    exact b_ret1 (d := (.v (.slice (some ⟨g1, 0, none⟩) 1 1))) S rfl rfl fun ok => S.retX (Hx := []) hb _ _ (((some ⟨g1, 0, none⟩), 1, 1) : (Option Addr) × Nat × Nat) (.cons .here .nil) ok
  · refine c_condF S rfl c1 ?_
    refine wp_skip ?_
    refine x_thenN ?_
    refine c_region ?_
    refine s_move S rfl rfl ?_; clear S a; intro a S
    refine s_conv S rfl rfl Tryd.underlying24 rfl ?_; clear S a; intro a S
    refine s_build S (ds := [(0, (.v (.int .u64 (wr .u64 x1))))]) (dv := (.agg [.ints .u64 [wr .u64 x1, 0, 0, 0] 4])) rfl (fun _ => by kernel_rfl) ⟨rfl, trivial⟩ rfl ?_; clear S a; intro a S
    obtain ⟨t1, et1, h2⟩ := bind_of h1; clear h1
    refine s_callR S (fun (ch : (Option Addr) × Nat × Nat) => ((.v (.slice ch.1 ch.2.1 ch.2.2)) : D)) (fun (ch : (Option Addr) × Nat × Nat) => Res.row (Ty.int .u8) 5 ch.1 ch.2.1 ch.2.2 t1) N19 rfl rfl (smithyref07_Number.ok k [wr .u64 x1, 0, 0, 0] t1 et1 _ _) ?_; clear S a; intro ch1 m le1 a w S
    refine s_assign S rfl rfl ?_; clear S a; intro a S
    refine c_end ?_
    refine c_region ?_
    refine s_move S rfl rfl ?_; clear S a; intro a S
    refine s_bin S rfl rfl rfl rfl ?_; clear S a; intro a S
    refine s_move S rfl rfl ?_; clear S a; intro a S
    refine s_lenO S rfl .here Tryd.underlying27 rfl ?_; clear S a; intro a S
    refine s_bin S rfl rfl rfl rfl ?_; clear S a; intro a S
    refine s_conv S rfl rfl Tryd.underlying5 rfl ?_; clear S a; intro a S
    refine s_bldSl S (ty' := (Ty.int .u8)) (ds := [(0, (.v (.int .u8 (wr .u8 (wr .i64 ((wr .i64 (183 + x2)) + ((t1).length : Int)))))))]) (z := 0) (c0 := ()) (ys := [wr .u8 (wr .i64 ((wr .i64 (183 + x2)) + ((t1).length : Int)))]) (cs := [()]) rfl Tryd.underlying27 J5 Z5 rfl ⟨rfl, trivial⟩ rfl rfl rfl rfl rfl rfl ?_; clear S a w; intro g2 a w S
    refine s_assign S rfl rfl ?_; clear S a; intro a S
    refine c_end ?_
    refine c_region ?_
    refine s_move S rfl rfl ?_; clear S a; intro a S
    refine s_move S rfl rfl ?_; clear S a; intro a S
    obtain ⟨c2, h3⟩ := chk_of h2; clear h2
    refine s_app S (k2 := ch1.2.1) (ys := t1) rfl (fun _ _ => .here) rfl rfl (S.holds _ (Pull.mem (.there .here)).1).1 (Res.row.src (S.holds _ (Pull.mem (.there .here)).1)) Tryd.underlying27 J5 c2 rfl ?_; clear S a w; intro A1 cp1 a w S
    refine s_assign S rfl rfl ?_; clear S a; intro a S
    refine c_end ?_
    refine c_region ?_
    refine s_move S rfl rfl ?_; clear S a; intro a S
    refine s_assign S rfl rfl ?_; clear S a; intro a S
    refine c_end ?_
    refine wp_ret ?_
    obtain rfl := Option.some.inj h3
    exact b_ret1 (d := (.v (.slice A1 (1 + ch1.2.1) cp1))) S rfl rfl fun ok => S.retX (Hx := []) hb _ _ ((A1, 1 + ch1.2.1, cp1) : (Option Addr) × Nat × Nat) (.cons .here .nil) ok
end GW
