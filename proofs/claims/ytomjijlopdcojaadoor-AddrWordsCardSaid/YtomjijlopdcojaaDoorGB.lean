/-
  Printed by a program of these sessions (wip/gw/gw.py): for each Go function a Lean function with the same answers, and the walk that shows it.
-/
import Derived.Test.YtomjijlopdcojaaDoorProg
import Derived.Test.YtomjijlopdcojaaDoorGA
set_option linter.unusedVariables false
set_option maxRecDepth 10000
namespace GW
open Go Go.RowKit Go.Proofs
/-! smithy/smithyref05.Round -/
def smithyref05_Round.j4 (x2 : Int) (y4 : List Int) : Option (List Int) := some (y4.set (Int.toNat 0) (bits .xor .u64 (rd y4 0) x2))
def smithyref05_Round.j5 (y9 : Int) (rec1 : Int → (List Int) → Option (List Int)) (y11 : List Int) : Option (List Int) := rec1 (wr .i64 (y9 + 1)) y11
def smithyref05_Round.b2 (y3 : List Int) (y9 : Int) (rec1 : Int → (List Int) → Option (List Int)) (rec2 : Int → (List Int) → Option (List Int)) (y14 : Int) (y15 : List Int) : Option (List Int) := if (decide (y14 < 5)) = true then (if 0 ≤ (wr .i64 (y9 + (wr .i64 (5 * y14)))) ∧ (wr .i64 (y9 + (wr .i64 (5 * y14)))) < 25 then (if 0 ≤ (wr .i64 ((Int.tmod (wr .i64 (y9 + 1)) 5) + (wr .i64 (5 * y14)))) ∧ (wr .i64 ((Int.tmod (wr .i64 (y9 + 1)) 5) + (wr .i64 (5 * y14)))) < 25 then (if 0 ≤ (wr .i64 ((Int.tmod (wr .i64 (y9 + 2)) 5) + (wr .i64 (5 * y14)))) ∧ (wr .i64 ((Int.tmod (wr .i64 (y9 + 2)) 5) + (wr .i64 (5 * y14)))) < 25 then (rec2 (wr .i64 (y14 + 1)) (y15.set (Int.toNat (wr .i64 (y9 + (wr .i64 (5 * y14))))) (bits .xor .u64 (rd y3 (wr .i64 (y9 + (wr .i64 (5 * y14))))) (bits .and .u64 (wr .u64 (18446744073709551615 - (rd y3 (wr .i64 ((Int.tmod (wr .i64 (y9 + 1)) 5) + (wr .i64 (5 * y14))))))) (rd y3 (wr .i64 ((Int.tmod (wr .i64 (y9 + 2)) 5) + (wr .i64 (5 * y14))))))))) else none) else none) else none) else (smithyref05_Round.j5 y9 rec1 y15)
def smithyref05_Round.l2 (y3 : List Int) (y9 : Int) (rec1 : Int → (List Int) → Option (List Int)) : Nat → Int → (List Int) → Option (List Int)
  | 0, _, _ => none
  | q + 1, y14, y15 => smithyref05_Round.b2 y3 y9 rec1 (smithyref05_Round.l2 y3 y9 rec1 q) y14 y15
def smithyref05_Round.b1 (k : Nat) (x2 : Int) (y3 : List Int) (rec1 : Int → (List Int) → Option (List Int)) (y9 : Int) (y10 : List Int) : Option (List Int) := if (decide (y9 < 5)) = true then (smithyref05_Round.l2 y3 y9 rec1 k 0 y10) else (smithyref05_Round.j4 x2 y10)
def smithyref05_Round.l1 (k : Nat) (x2 : Int) (y3 : List Int) : Nat → Int → (List Int) → Option (List Int)
  | 0, _, _ => none
  | q + 1, y9, y10 => smithyref05_Round.b1 k x2 y3 (smithyref05_Round.l1 k x2 y3 q) y9 y10
def smithyref05_Round.j3 (k : Nat) (x2 : Int) (y3 : List Int) : Option (List Int) := smithyref05_Round.l1 k x2 y3 k 0 [0, 0, 0, 0, 0, 0, 0, 0, 0, 0, 0, 0, 0, 0, 0, 0, 0, 0, 0, 0, 0, 0, 0, 0, 0]
def smithyref05_Round.b3 (k : Nat) (x2 : Int) (y2 : List Int) (rec3 : Int → Int → Int → (List Int) → Option (List Int)) (y20 : Int) (y21 : Int) (y22 : Int) (y23 : List Int) : Option (List Int) := if (decide (y20 < 24)) = true then (if 0 ≤ (wr .i64 (y22 + (wr .i64 (5 * y21)))) ∧ (wr .i64 (y22 + (wr .i64 (5 * y21)))) < 25 then ((smithyref05_up.f (rd y2 (wr .i64 (y22 + (wr .i64 (5 * y21))))) (wr .i64 (Int.tdiv (wr .i64 ((wr .i64 (y20 + 1)) * (wr .i64 (y20 + 2)))) 2))).bind fun t1 => (if 0 ≤ (wr .i64 (y21 + (wr .i64 (5 * (Int.tmod (wr .i64 ((wr .i64 (2 * y22)) + (wr .i64 (3 * y21)))) 5))))) ∧ (wr .i64 (y21 + (wr .i64 (5 * (Int.tmod (wr .i64 ((wr .i64 (2 * y22)) + (wr .i64 (3 * y21)))) 5))))) < 25 then (rec3 (wr .i64 (y20 + 1)) (Int.tmod (wr .i64 ((wr .i64 (2 * y22)) + (wr .i64 (3 * y21)))) 5) y21 (y23.set (Int.toNat (wr .i64 (y21 + (wr .i64 (5 * (Int.tmod (wr .i64 ((wr .i64 (2 * y22)) + (wr .i64 (3 * y21)))) 5)))))) t1)) else none)) else none) else (smithyref05_Round.j3 k x2 y23)
def smithyref05_Round.l3 (k : Nat) (x2 : Int) (y2 : List Int) : Nat → Int → Int → Int → (List Int) → Option (List Int)
  | 0, _, _, _, _ => none
  | q + 1, y20, y21, y22, y23 => smithyref05_Round.b3 k x2 y2 (smithyref05_Round.l3 k x2 y2 q) y20 y21 y22 y23
def smithyref05_Round.j2 (k : Nat) (x2 : Int) (y2 : List Int) : Option (List Int) := smithyref05_Round.l3 k x2 y2 k 0 0 1 ([0, 0, 0, 0, 0, 0, 0, 0, 0, 0, 0, 0, 0, 0, 0, 0, 0, 0, 0, 0, 0, 0, 0, 0, 0].set (Int.toNat 0) (rd y2 0))
def smithyref05_Round.j6 (y28 : Int) (rec4 : Int → (List Int) → Option (List Int)) (y30 : List Int) : Option (List Int) := rec4 (wr .i64 (y28 + 1)) y30
def smithyref05_Round.b5 (x1 : List Int) (y1 : List Int) (y28 : Int) (rec4 : Int → (List Int) → Option (List Int)) (rec5 : Int → (List Int) → Option (List Int)) (y33 : Int) (y34 : List Int) : Option (List Int) := if (decide (y33 < 5)) = true then (if 0 ≤ (wr .i64 (y28 + (wr .i64 (5 * y33)))) ∧ (wr .i64 (y28 + (wr .i64 (5 * y33)))) < 25 then (if 0 ≤ (Int.tmod (wr .i64 (y28 + 4)) 5) ∧ (Int.tmod (wr .i64 (y28 + 4)) 5) < 5 then (if 0 ≤ (Int.tmod (wr .i64 (y28 + 1)) 5) ∧ (Int.tmod (wr .i64 (y28 + 1)) 5) < 5 then ((smithyref05_up.f (rd y1 (Int.tmod (wr .i64 (y28 + 1)) 5)) 1).bind fun t4 => (rec5 (wr .i64 (y33 + 1)) (y34.set (Int.toNat (wr .i64 (y28 + (wr .i64 (5 * y33))))) (bits .xor .u64 (bits .xor .u64 (rd x1 (wr .i64 (y28 + (wr .i64 (5 * y33))))) (rd y1 (Int.tmod (wr .i64 (y28 + 4)) 5))) t4)))) else none) else none) else none) else (smithyref05_Round.j6 y28 rec4 y34)
def smithyref05_Round.l5 (x1 : List Int) (y1 : List Int) (y28 : Int) (rec4 : Int → (List Int) → Option (List Int)) : Nat → Int → (List Int) → Option (List Int)
  | 0, _, _ => none
  | q + 1, y33, y34 => smithyref05_Round.b5 x1 y1 y28 rec4 (smithyref05_Round.l5 x1 y1 y28 rec4 q) y33 y34
def smithyref05_Round.b4 (k : Nat) (x1 : List Int) (x2 : Int) (y1 : List Int) (rec4 : Int → (List Int) → Option (List Int)) (y28 : Int) (y29 : List Int) : Option (List Int) := if (decide (y28 < 5)) = true then (smithyref05_Round.l5 x1 y1 y28 rec4 k 0 y29) else (smithyref05_Round.j2 k x2 y29)
def smithyref05_Round.l4 (k : Nat) (x1 : List Int) (x2 : Int) (y1 : List Int) : Nat → Int → (List Int) → Option (List Int)
  | 0, _, _ => none
  | q + 1, y28, y29 => smithyref05_Round.b4 k x1 x2 y1 (smithyref05_Round.l4 k x1 x2 y1 q) y28 y29
def smithyref05_Round.j1 (k : Nat) (x1 : List Int) (x2 : Int) (y1 : List Int) : Option (List Int) := smithyref05_Round.l4 k x1 x2 y1 k 0 [0, 0, 0, 0, 0, 0, 0, 0, 0, 0, 0, 0, 0, 0, 0, 0, 0, 0, 0, 0, 0, 0, 0, 0, 0]
def smithyref05_Round.j7 (y39 : Int) (rec6 : Int → (List Int) → Option (List Int)) (y41 : List Int) : Option (List Int) := rec6 (wr .i64 (y39 + 1)) y41
def smithyref05_Round.b7 (x1 : List Int) (y39 : Int) (rec6 : Int → (List Int) → Option (List Int)) (rec7 : Int → (List Int) → Option (List Int)) (y44 : Int) (y45 : List Int) : Option (List Int) := if (decide (y44 < 5)) = true then (if 0 ≤ y39 ∧ y39 < 5 then (if 0 ≤ (wr .i64 (y39 + (wr .i64 (5 * y44)))) ∧ (wr .i64 (y39 + (wr .i64 (5 * y44)))) < 25 then (rec7 (wr .i64 (y44 + 1)) (y45.set (Int.toNat y39) (bits .xor .u64 (rd y45 y39) (rd x1 (wr .i64 (y39 + (wr .i64 (5 * y44)))))))) else none) else none) else (smithyref05_Round.j7 y39 rec6 y45)
def smithyref05_Round.l7 (x1 : List Int) (y39 : Int) (rec6 : Int → (List Int) → Option (List Int)) : Nat → Int → (List Int) → Option (List Int)
  | 0, _, _ => none
  | q + 1, y44, y45 => smithyref05_Round.b7 x1 y39 rec6 (smithyref05_Round.l7 x1 y39 rec6 q) y44 y45
def smithyref05_Round.b6 (k : Nat) (x1 : List Int) (x2 : Int) (rec6 : Int → (List Int) → Option (List Int)) (y39 : Int) (y40 : List Int) : Option (List Int) := if (decide (y39 < 5)) = true then (smithyref05_Round.l7 x1 y39 rec6 k 0 y40) else (smithyref05_Round.j1 k x1 x2 y40)
def smithyref05_Round.l6 (k : Nat) (x1 : List Int) (x2 : Int) : Nat → Int → (List Int) → Option (List Int)
  | 0, _, _ => none
  | q + 1, y39, y40 => smithyref05_Round.b6 k x1 x2 (smithyref05_Round.l6 k x1 x2 q) y39 y40
def smithyref05_Round.f (k : Nat) (x1 : List Int) (x2 : Int) : Option (List Int) := smithyref05_Round.l6 k x1 x2 k 0 [0, 0, 0, 0, 0]
theorem smithyref05_Round.ok (k : Nat) (x1 : List Int) (x2 : Int) (r : List Int) (h0 : smithyref05_Round.f k x1 x2 = some r) (mi : Mem) (w0 : World) : okL mi [(.agg [.ints .u64 x1 25]), (.v (.int .u64 x2))] → Frz mi w0 → Calls Tryd.prog 44 (([(.agg [.ints .u64 x1 25]), (.v (.int .u64 x2))] : List D).map D.val).toArray w0 (Ret mi (.agg [.ints .u64 r 25]) w0) := by
  intro ok hm
  delta smithyref05_Round.f at h0
  refine c_enter (n := 157) [(.agg [.ints .u64 x1 25]), (.v (.int .u64 x2))] (l := [(0, (.agg [.ints .u64 x1 25])), (1, (.v (.int .u64 x2)))]) Tryd.func44 rfl rfl rfl rfl ok hm ?_
  clear ok hm
  intro a S
  refine c_region ?_
  refine s_box S rfl rfl rfl ?_; clear S a; intro g1 a w S
  refine s_alloc S Z62 rfl ⟨rfl, trivial⟩ rfl ?_; clear S a w; intro g2 a w S
  refine c_end ?_
  refine c_region ?_
  refine s_build S (ds := []) (dv := (.agg [.ints .u64 [0, 0, 0, 0, 0] 5])) rfl (fun _ => by kernel_rfl) ⟨rfl, trivial⟩ rfl ?_; clear S a; intro a S
  refine s_alloc S Z79 rfl ⟨rfl, trivial⟩ rfl ?_; clear S a w; intro g3 a w S
  refine s_store S rfl rfl rfl (s' := [.ints .u64 [0, 0, 0, 0, 0] 5]) .here T79 rfl rfl ?_; clear S w; intro w S
  refine c_end ?_
  refine wp_seq_k ?_
  intro K1 hK1
  have j1 : ∀ (m : Mem) (g4 : Nat) (g5 : Nat) (g6 : Nat) (y1 : List Int) (a : Act) (w : World), St 157 m (B0 mi w0) [(5, (.v (.pointer (some ⟨g4, 0, none⟩)))), (4, (.v (.pointer (some ⟨g5, 0, none⟩)))), (2, (.v (.pointer (some ⟨g6, 0, none⟩)))), (1, (.v (.int .u64 x2)))] [Res.cells g4 79 [.ints .u64 y1 5], Res.cells g5 62 [.ints .u64 [0, 0, 0, 0, 0, 0, 0, 0, 0, 0, 0, 0, 0, 0, 0, 0, 0, 0, 0, 0, 0, 0, 0, 0, 0] 25], Res.cells g6 62 [.ints .u64 x1 25]] a w → smithyref05_Round.j1 k x1 x2 y1 = some r → K1 a w := by
    intro m g4 g5 g6 y1 a w S h0
    delta smithyref05_Round.j1 at h0
    refine hK1 a w ?_
    refine c_region ?_
    refine s_build S (ds := []) (dv := (.agg [.ints .u64 [0, 0, 0, 0, 0, 0, 0, 0, 0, 0, 0, 0, 0, 0, 0, 0, 0, 0, 0, 0, 0, 0, 0, 0, 0] 25])) rfl (fun _ => by kernel_rfl) ⟨rfl, trivial⟩ rfl ?_; clear S a; intro a S
    refine s_alloc S Z62 rfl ⟨rfl, trivial⟩ rfl ?_; clear S a w; intro g7 a w S
    refine s_store S rfl rfl rfl (s' := [.ints .u64 [0, 0, 0, 0, 0, 0, 0, 0, 0, 0, 0, 0, 0, 0, 0, 0, 0, 0, 0, 0, 0, 0, 0, 0, 0] 25]) .here T62 rfl rfl ?_; clear S w; intro w S
    refine c_end ?_
    refine wp_seq_k ?_
    intro K2 hK2
    have j2 : ∀ (m : Mem) (g8 : Nat) (g9 : Nat) (y2 : List Int) (a : Act) (w : World), St 157 m (B0 mi w0) [(8, (.v (.pointer (some ⟨g8, 0, none⟩)))), (4, (.v (.pointer (some ⟨g9, 0, none⟩)))), (1, (.v (.int .u64 x2)))] [Res.cells g8 62 [.ints .u64 y2 25], Res.cells g9 62 [.ints .u64 [0, 0, 0, 0, 0, 0, 0, 0, 0, 0, 0, 0, 0, 0, 0, 0, 0, 0, 0, 0, 0, 0, 0, 0, 0] 25]] a w → smithyref05_Round.j2 k x2 y2 = some r → K2 a w := by
      intro m g8 g9 y2 a w S h0
      delta smithyref05_Round.j2 at h0
      refine hK2 a w ?_
      refine c_region ?_
      refine s_build S (ds := []) (dv := (.agg [.ints .u64 [0, 0, 0, 0, 0, 0, 0, 0, 0, 0, 0, 0, 0, 0, 0, 0, 0, 0, 0, 0, 0, 0, 0, 0, 0] 25])) rfl (fun _ => by kernel_rfl) ⟨rfl, trivial⟩ rfl ?_; clear S a; intro a S
      refine s_alloc S Z62 rfl ⟨rfl, trivial⟩ rfl ?_; clear S a w; intro g10 a w S
      refine s_store S rfl rfl rfl (s' := [.ints .u64 [0, 0, 0, 0, 0, 0, 0, 0, 0, 0, 0, 0, 0, 0, 0, 0, 0, 0, 0, 0, 0, 0, 0, 0, 0] 25]) .here T62 rfl rfl ?_; clear S w; intro w S
      refine c_end ?_
      refine c_region ?_
      refine s_iaddr S (o' := 0) rfl rfl Tryd.underlying62 T24 (by decide) (by decide) rfl rfl ?_; clear S a; intro a S
      refine s_loadi S (i := 0) rfl (.there .here) T24 .here rfl (by decide) (by decide) rfl ?_; clear S a; intro a S
      refine s_iaddr S (o' := 0) rfl rfl Tryd.underlying62 T24 (by decide) (by decide) rfl rfl ?_; clear S a; intro a S
      refine s_storei S (i := 0) rfl rfl .here T24 .here rfl (by decide) (by decide) ?_; clear S w; intro w S
      refine c_end ?_
      refine c_region ?_
      refine s_assign S rfl rfl ?_; clear S a; intro a S
      refine c_end ?_
      refine c_region ?_
      refine s_assign S rfl rfl ?_; clear S a; intro a S
      refine c_end ?_
      refine wp_seq_k ?_
      intro K3 hK3
      have j3 : ∀ (m : Mem) (g11 : Nat) (g12 : Nat) (y3 : List Int) (a : Act) (w : World), St 157 m (B0 mi w0) [(11, (.v (.pointer (some ⟨g11, 0, none⟩)))), (4, (.v (.pointer (some ⟨g12, 0, none⟩)))), (1, (.v (.int .u64 x2)))] [Res.cells g11 62 [.ints .u64 y3 25], Res.cells g12 62 [.ints .u64 [0, 0, 0, 0, 0, 0, 0, 0, 0, 0, 0, 0, 0, 0, 0, 0, 0, 0, 0, 0, 0, 0, 0, 0, 0] 25]] a w → smithyref05_Round.j3 k x2 y3 = some r → K3 a w := by
        intro m g11 g12 y3 a w S h0
        delta smithyref05_Round.j3 at h0
        refine hK3 a w ?_
        refine c_region ?_
        refine s_build S (ds := []) (dv := (.agg [.ints .u64 [0, 0, 0, 0, 0, 0, 0, 0, 0, 0, 0, 0, 0, 0, 0, 0, 0, 0, 0, 0, 0, 0, 0, 0, 0] 25])) rfl (fun _ => by kernel_rfl) ⟨rfl, trivial⟩ rfl ?_; clear S a; intro a S
        refine s_alloc S Z62 rfl ⟨rfl, trivial⟩ rfl ?_; clear S a w; intro g13 a w S
        refine s_store S rfl rfl rfl (s' := [.ints .u64 [0, 0, 0, 0, 0, 0, 0, 0, 0, 0, 0, 0, 0, 0, 0, 0, 0, 0, 0, 0, 0, 0, 0, 0, 0] 25]) .here T62 rfl rfl ?_; clear S w; intro w S
        refine c_end ?_
        refine wp_seq_k ?_
        intro K4 hK4
        have j4 : ∀ (m : Mem) (g14 : Nat) (g15 : Nat) (y4 : List Int) (a : Act) (w : World), St 157 m (B0 mi w0) [(16, (.v (.pointer (some ⟨g14, 0, none⟩)))), (4, (.v (.pointer (some ⟨g15, 0, none⟩)))), (1, (.v (.int .u64 x2)))] [Res.cells g14 62 [.ints .u64 y4 25], Res.cells g15 62 [.ints .u64 [0, 0, 0, 0, 0, 0, 0, 0, 0, 0, 0, 0, 0, 0, 0, 0, 0, 0, 0, 0, 0, 0, 0, 0, 0] 25]] a w → smithyref05_Round.j4 x2 y4 = some r → K4 a w := by
          intro m g14 g15 y4 a w S h0
          delta smithyref05_Round.j4 at h0
          refine hK4 a w ?_
          refine c_region ?_
          refine s_iaddr S (o' := 0) rfl rfl Tryd.underlying62 T24 (by decide) (by decide) rfl rfl ?_; clear S a; intro a S
          refine s_loadi S (i := 0) rfl .here T24 .here rfl (by decide) (by decide) rfl ?_; clear S a; intro a S
          refine s_move S rfl rfl ?_; clear S a; intro a S
          refine s_bin S rfl rfl rfl rfl ?_; clear S a; intro a S
          refine s_iaddr S (o' := 0) rfl rfl Tryd.underlying62 T24 (by decide) (by decide) rfl rfl ?_; clear S a; intro a S
          refine s_storei S (i := 0) rfl rfl .here T24 .here rfl (by decide) (by decide) ?_; clear S w; intro w S
          refine c_end ?_
          refine c_region ?_
          refine s_loada S rfl .here T62 (s' := [.ints .u64 (y4.set (Int.toNat 0) (bits .xor .u64 (rd y4 0) x2)) 25]) rfl rfl ?_; clear S a; intro a S
          refine s_store S rfl rfl rfl (s' := [.ints .u64 (y4.set (Int.toNat 0) (bits .xor .u64 (rd y4 0) x2)) 25]) (.there .here) T62 rfl rfl ?_; clear S w; intro w S
          refine c_end ?_
          refine wp_ret ?_
          obtain rfl := Option.some.inj h0
          exact b_ret1 (d := (.agg [.ints .u64 (y4.set (Int.toNat 0) (bits .xor .u64 (rd y4 0) x2)) 25])) S rfl (resD_cell rfl (.there .here) T62 rfl rfl) fun ok => ⟨rfl, ok, S.below0⟩
        refine c_region ?_
        refine s_assign S rfl rfl ?_; clear S a; intro a S
        refine c_end ?_
        refine wp_block ?_
        refine c_loop (fun q1 a w => ∃ (m : Mem) (y9 : Int) (g28 : Nat) (g29 : Nat) (g30 : Nat) (y10 : List Int), St 157 m (B0 mi w0) [(17, (.v (.int .i64 y9))), (16, (.v (.pointer (some ⟨g28, 0, none⟩)))), (11, (.v (.pointer (some ⟨g29, 0, none⟩)))), (4, (.v (.pointer (some ⟨g30, 0, none⟩)))), (1, (.v (.int .u64 x2)))] [Res.cells g28 62 [.ints .u64 y10 25], Res.cells g29 62 [.ints .u64 y3 25], Res.cells g30 62 [.ints .u64 [0, 0, 0, 0, 0, 0, 0, 0, 0, 0, 0, 0, 0, 0, 0, 0, 0, 0, 0, 0, 0, 0, 0, 0, 0] 25]] a w ∧ smithyref05_Round.l1 k x2 y3 q1 y9 y10 = some r) ?_ ?_ (k := k) ⟨_, 0, g13, g11, g12, [0, 0, 0, 0, 0, 0, 0, 0, 0, 0, 0, 0, 0, 0, 0, 0, 0, 0, 0, 0, 0, 0, 0, 0, 0], (S.sub ⟨rfl, rfl, rfl, rfl, rfl, trivial⟩ (.cons .here (.cons .here (.cons .here .nil)))), h0⟩
        · rintro a w ⟨m, y9, g28, g29, g30, y10, S, h0⟩
          exact (nomatch (show (none : Option (List Int)) = some r from h0))
        · clear S h0
          rintro q1 a w ⟨m, y9, g28, g29, g30, y10, S, h0⟩
          replace h0 : smithyref05_Round.b1 k x2 y3 (smithyref05_Round.l1 k x2 y3 q1) y9 y10 = some r := h0
          delta smithyref05_Round.b1 at h0
          refine wp_seq ?_
          refine c_region ?_
          refine s_move S rfl rfl ?_; clear S a; intro a S
          refine s_bin S rfl rfl rfl rfl ?_; clear S a; intro a S
          refine c_end ?_
          rcases ite_of h0 with ⟨c1, h1⟩ | ⟨c1, h1⟩ <;> clear h0
          · refine c_condT S rfl c1 ?_
            refine wp_skip ?_
            refine x_thenN ?_
            refine wp_seq_k ?_
            intro K5 hK5
            have j5 : ∀ (m : Mem) (g31 : Nat) (g32 : Nat) (g33 : Nat) (y11 : List Int) (a : Act) (w : World), St 157 m (B0 mi w0) [(17, (.v (.int .i64 y9))), (16, (.v (.pointer (some ⟨g31, 0, none⟩)))), (11, (.v (.pointer (some ⟨g32, 0, none⟩)))), (4, (.v (.pointer (some ⟨g33, 0, none⟩)))), (1, (.v (.int .u64 x2)))] [Res.cells g31 62 [.ints .u64 y11 25], Res.cells g32 62 [.ints .u64 y3 25], Res.cells g33 62 [.ints .u64 [0, 0, 0, 0, 0, 0, 0, 0, 0, 0, 0, 0, 0, 0, 0, 0, 0, 0, 0, 0, 0, 0, 0, 0, 0] 25]] a w → smithyref05_Round.j5 y9 (smithyref05_Round.l1 k x2 y3 q1) y11 = some r → K5 a w := by
              intro m g31 g32 g33 y11 a w S h0
              delta smithyref05_Round.j5 at h0
              refine hK5 a w ?_
              refine c_region' ?_
              refine s_move S rfl rfl ?_; clear S a; intro a S
              refine s_bin S rfl rfl rfl rfl ?_; clear S a; intro a S
              refine s_assign S rfl rfl ?_; clear S a; intro a S
              refine c_end' ?_
              refine x_thenN ?_
              exact ⟨_, (wr .i64 (y9 + 1)), g31, g32, g33, y11, (S.sub ⟨rfl, rfl, rfl, rfl, rfl, trivial⟩ (.cons .here (.cons .here (.cons .here .nil)))), h0⟩
            refine wp_block ?_
            refine c_region ?_
            refine s_assign S rfl rfl ?_; clear S a; intro a S
            refine c_end ?_
            refine wp_block ?_
            refine c_loop (fun q2 a w => ∃ (m : Mem) (y14 : Int) (g40 : Nat) (g41 : Nat) (g42 : Nat) (y15 : List Int), St 157 m (B0 mi w0) [(18, (.v (.int .i64 y14))), (17, (.v (.int .i64 y9))), (16, (.v (.pointer (some ⟨g40, 0, none⟩)))), (11, (.v (.pointer (some ⟨g41, 0, none⟩)))), (4, (.v (.pointer (some ⟨g42, 0, none⟩)))), (1, (.v (.int .u64 x2)))] [Res.cells g40 62 [.ints .u64 y15 25], Res.cells g41 62 [.ints .u64 y3 25], Res.cells g42 62 [.ints .u64 [0, 0, 0, 0, 0, 0, 0, 0, 0, 0, 0, 0, 0, 0, 0, 0, 0, 0, 0, 0, 0, 0, 0, 0, 0] 25]] a w ∧ smithyref05_Round.l2 y3 y9 (smithyref05_Round.l1 k x2 y3 q1) q2 y14 y15 = some r) ?_ ?_ (k := k) ⟨_, 0, g28, g29, g30, y10, (S.sub ⟨rfl, rfl, rfl, rfl, rfl, rfl, trivial⟩ (.cons .here (.cons .here (.cons .here .nil)))), h1⟩
            · rintro a w ⟨m, y14, g40, g41, g42, y15, S, h0⟩
              exact (nomatch (show (none : Option (List Int)) = some r from h0))
            · clear S h1
              rintro q2 a w ⟨m, y14, g40, g41, g42, y15, S, h0⟩
              replace h0 : smithyref05_Round.b2 y3 y9 (smithyref05_Round.l1 k x2 y3 q1) (smithyref05_Round.l2 y3 y9 (smithyref05_Round.l1 k x2 y3 q1) q2) y14 y15 = some r := h0
              delta smithyref05_Round.b2 at h0
              refine wp_seq ?_
              refine c_region ?_
              refine s_move S rfl rfl ?_; clear S a; intro a S
              refine s_bin S rfl rfl rfl rfl ?_; clear S a; intro a S
              refine c_end ?_
              rcases ite_of h0 with ⟨c2, h1⟩ | ⟨c2, h1⟩ <;> clear h0
              · refine c_condT S rfl c2 ?_
                refine wp_skip ?_
                refine x_thenN ?_
                refine wp_seq ?_
                refine wp_block ?_
                refine c_heldS S (.take 0 (.take 1 (.take 2 (.take 3 (.take 4 (.take 5 (.take 6 (.take 7 (.take 8 (.take 9 (.take 10 (.take 11 (.take 12 (.take 13 (.take 14 (.take 15 (.take 16 (.take 17 (.take 18 (.take 19 (.take 20 (.take 21 (.take 22 (.take 23 (.take 24 (.take 25 (.take 26 (.take 27 (.take 28 (.take 29 (.alts (.run 30 false .done .nil)))))))))))))))))))))))))))))))) 30 [Res.cells g40 62 [.ints .u64 y15 25], Res.cells g41 62 [.ints .u64 y3 25], Res.cells g42 62 [.ints .u64 [0, 0, 0, 0, 0, 0, 0, 0, 0, 0, 0, 0, 0, 0, 0, 0, 0, 0, 0, 0, 0, 0, 0, 0, 0] 25]] (.cons .here (.cons .here (.cons .here .nil))) ⟨Res.stay_cells, Res.stay_cells, Res.stay_cells, trivial⟩ [(18, (.v (.int .i64 y14))), (17, (.v (.int .i64 y9))), (16, (.v (.pointer (some ⟨g40, 0, none⟩)))), (11, (.v (.pointer (some ⟨g41, 0, none⟩))))] ⟨rfl, rfl, rfl, rfl, trivial⟩ (by kernel_rfl) (by kernel_rfl) ?_; clear S; intro w S CL hw le
                refine h_move S CL hw le ⟨rfl, rfl, rfl, rfl, trivial⟩ rfl rfl rfl trivial ?_; clear S CL a; intro a S CL
                refine h_move S CL hw le ⟨rfl, rfl, rfl, rfl, rfl, trivial⟩ rfl rfl rfl trivial ?_; clear S CL a; intro a S CL
                refine h_bin S CL hw le ⟨rfl, rfl, rfl, rfl, rfl, rfl, trivial⟩ rfl rfl rfl rfl rfl trivial ?_; clear S CL a; intro a S CL
                refine h_bin S CL hw le ⟨rfl, rfl, rfl, rfl, rfl, rfl, rfl, trivial⟩ rfl rfl rfl rfl rfl trivial ?_; clear S CL a; intro a S CL
                refine h_move S CL hw le ⟨rfl, rfl, rfl, rfl, rfl, rfl, rfl, rfl, trivial⟩ rfl rfl rfl trivial ?_; clear S CL a; intro a S CL
                refine h_move S CL hw le ⟨rfl, rfl, rfl, rfl, rfl, rfl, rfl, rfl, rfl, trivial⟩ rfl rfl rfl trivial ?_; clear S CL a; intro a S CL
                refine h_bin S CL hw le ⟨rfl, rfl, rfl, rfl, rfl, rfl, rfl, rfl, rfl, rfl, trivial⟩ rfl rfl rfl rfl rfl trivial ?_; clear S CL a; intro a S CL
                refine h_bin S CL hw le ⟨rfl, rfl, rfl, rfl, rfl, rfl, rfl, rfl, rfl, rfl, rfl, trivial⟩ rfl rfl rfl rfl rfl trivial ?_; clear S CL a; intro a S CL
                obtain ⟨c3, h2⟩ := chk_of h1; clear h1
                refine h_iaddr S CL hw le ⟨rfl, rfl, rfl, rfl, rfl, rfl, rfl, rfl, rfl, rfl, rfl, rfl, trivial⟩ rfl rfl Tryd.underlying62 T24 c3.1 c3.2 (mul1 _ _) rfl rfl trivial ?_; clear S CL a; intro a S CL
                refine h_loadi S CL hw le ⟨rfl, rfl, rfl, rfl, rfl, rfl, rfl, rfl, rfl, rfl, rfl, rfl, rfl, trivial⟩ (i := (wr .i64 (y9 + (wr .i64 (5 * y14))))) rfl (.there .here) T24 .here rfl c3.1 c3.2 rfl rfl trivial ?_; clear S CL a; intro a S CL
                refine h_move S CL hw le ⟨rfl, rfl, rfl, rfl, rfl, rfl, rfl, rfl, rfl, rfl, rfl, rfl, rfl, rfl, trivial⟩ rfl rfl rfl trivial ?_; clear S CL a; intro a S CL
                refine h_bin S CL hw le ⟨rfl, rfl, rfl, rfl, rfl, rfl, rfl, rfl, rfl, rfl, rfl, rfl, rfl, rfl, rfl, trivial⟩ rfl rfl rfl rfl rfl trivial ?_; clear S CL a; intro a S CL
                refine h_rem S CL hw le ⟨rfl, rfl, rfl, rfl, rfl, rfl, rfl, rfl, rfl, rfl, rfl, rfl, rfl, rfl, rfl, rfl, trivial⟩ rfl rfl (by decide) rfl rfl trivial ?_; clear S CL a; intro a S CL
                refine h_move S CL hw le ⟨rfl, rfl, rfl, rfl, rfl, rfl, rfl, rfl, rfl, rfl, rfl, rfl, rfl, rfl, rfl, rfl, rfl, trivial⟩ rfl rfl rfl trivial ?_; clear S CL a; intro a S CL
                refine h_bin S CL hw le ⟨rfl, rfl, rfl, rfl, rfl, rfl, rfl, rfl, rfl, rfl, rfl, rfl, rfl, rfl, rfl, rfl, rfl, rfl, trivial⟩ rfl rfl rfl rfl rfl trivial ?_; clear S CL a; intro a S CL
                refine h_bin S CL hw le ⟨rfl, rfl, rfl, rfl, rfl, rfl, rfl, rfl, rfl, rfl, rfl, rfl, rfl, rfl, rfl, rfl, rfl, rfl, rfl, trivial⟩ rfl rfl rfl rfl rfl trivial ?_; clear S CL a; intro a S CL
                obtain ⟨c4, h3⟩ := chk_of h2; clear h2
                refine h_iaddr S CL hw le ⟨rfl, rfl, rfl, rfl, rfl, rfl, rfl, rfl, rfl, rfl, rfl, rfl, rfl, rfl, rfl, rfl, rfl, rfl, rfl, rfl, trivial⟩ rfl rfl Tryd.underlying62 T24 c4.1 c4.2 (mul1 _ _) rfl rfl trivial ?_; clear S CL a; intro a S CL
                refine h_loadi S CL hw le ⟨rfl, rfl, rfl, rfl, rfl, rfl, rfl, rfl, rfl, rfl, rfl, rfl, rfl, rfl, rfl, rfl, rfl, rfl, rfl, rfl, rfl, trivial⟩ (i := (wr .i64 ((Int.tmod (wr .i64 (y9 + 1)) 5) + (wr .i64 (5 * y14))))) rfl (.there .here) T24 .here rfl c4.1 c4.2 rfl rfl trivial ?_; clear S CL a; intro a S CL
                refine h_bin S CL hw le ⟨rfl, rfl, rfl, rfl, rfl, rfl, rfl, rfl, rfl, rfl, rfl, rfl, rfl, rfl, rfl, rfl, rfl, rfl, rfl, rfl, rfl, rfl, trivial⟩ rfl rfl rfl rfl rfl trivial ?_; clear S CL a; intro a S CL
                refine h_move S CL hw le ⟨rfl, rfl, rfl, rfl, rfl, rfl, rfl, rfl, rfl, rfl, rfl, rfl, rfl, rfl, rfl, rfl, rfl, rfl, rfl, rfl, rfl, rfl, rfl, trivial⟩ rfl rfl rfl trivial ?_; clear S CL a; intro a S CL
                refine h_bin S CL hw le ⟨rfl, rfl, rfl, rfl, rfl, rfl, rfl, rfl, rfl, rfl, rfl, rfl, rfl, rfl, rfl, rfl, rfl, rfl, rfl, rfl, rfl, rfl, rfl, rfl, trivial⟩ rfl rfl rfl rfl rfl trivial ?_; clear S CL a; intro a S CL
                refine h_rem S CL hw le ⟨rfl, rfl, rfl, rfl, rfl, rfl, rfl, rfl, rfl, rfl, rfl, rfl, rfl, rfl, rfl, rfl, rfl, rfl, rfl, rfl, rfl, rfl, rfl, rfl, rfl, trivial⟩ rfl rfl (by decide) rfl rfl trivial ?_; clear S CL a; intro a S CL
                refine h_move S CL hw le ⟨rfl, rfl, rfl, rfl, rfl, rfl, rfl, rfl, rfl, rfl, rfl, rfl, rfl, rfl, rfl, rfl, rfl, rfl, rfl, rfl, rfl, rfl, rfl, rfl, rfl, rfl, trivial⟩ rfl rfl rfl trivial ?_; clear S CL a; intro a S CL
                refine h_bin S CL hw le ⟨rfl, rfl, rfl, rfl, rfl, rfl, rfl, rfl, rfl, rfl, rfl, rfl, rfl, rfl, rfl, rfl, rfl, rfl, rfl, rfl, rfl, rfl, rfl, rfl, rfl, rfl, rfl, trivial⟩ rfl rfl rfl rfl rfl trivial ?_; clear S CL a; intro a S CL
                refine h_bin S CL hw le ⟨rfl, rfl, rfl, rfl, rfl, rfl, rfl, rfl, rfl, rfl, rfl, rfl, rfl, rfl, rfl, rfl, rfl, rfl, rfl, rfl, rfl, rfl, rfl, rfl, rfl, rfl, rfl, rfl, trivial⟩ rfl rfl rfl rfl rfl trivial ?_; clear S CL a; intro a S CL
                obtain ⟨c5, h4⟩ := chk_of h3; clear h3
                refine h_iaddr S CL hw le ⟨rfl, rfl, rfl, rfl, rfl, rfl, rfl, rfl, rfl, rfl, rfl, rfl, rfl, rfl, rfl, rfl, rfl, rfl, rfl, rfl, rfl, rfl, rfl, rfl, rfl, rfl, rfl, rfl, rfl, trivial⟩ rfl rfl Tryd.underlying62 T24 c5.1 c5.2 (mul1 _ _) rfl rfl trivial ?_; clear S CL a; intro a S CL
                refine h_loadi S CL hw le ⟨rfl, rfl, rfl, rfl, rfl, rfl, rfl, rfl, rfl, rfl, rfl, rfl, rfl, rfl, rfl, rfl, rfl, rfl, rfl, rfl, rfl, rfl, rfl, rfl, rfl, rfl, rfl, rfl, rfl, rfl, trivial⟩ (i := (wr .i64 ((Int.tmod (wr .i64 (y9 + 2)) 5) + (wr .i64 (5 * y14))))) rfl (.there .here) T24 .here rfl c5.1 c5.2 rfl rfl trivial ?_; clear S CL a; intro a S CL
                refine h_bin S CL hw le ⟨rfl, rfl, rfl, rfl, rfl, rfl, rfl, rfl, rfl, rfl, rfl, rfl, rfl, rfl, rfl, rfl, rfl, rfl, rfl, rfl, rfl, rfl, rfl, rfl, rfl, rfl, rfl, rfl, rfl, rfl, rfl, trivial⟩ rfl rfl rfl rfl rfl trivial ?_; clear S CL a; intro a S CL
                refine h_bin S CL hw le ⟨rfl, rfl, rfl, rfl, rfl, rfl, rfl, rfl, rfl, rfl, rfl, rfl, rfl, rfl, rfl, rfl, rfl, rfl, rfl, rfl, rfl, rfl, rfl, rfl, rfl, rfl, rfl, rfl, rfl, rfl, rfl, rfl, trivial⟩ rfl rfl rfl rfl rfl trivial ?_; clear S CL a; intro a S CL
                refine h_iaddr S CL hw le ⟨rfl, rfl, rfl, rfl, rfl, rfl, rfl, rfl, rfl, rfl, rfl, rfl, rfl, rfl, rfl, rfl, rfl, rfl, rfl, rfl, rfl, rfl, rfl, rfl, rfl, rfl, rfl, rfl, rfl, rfl, rfl, rfl, rfl, trivial⟩ rfl rfl Tryd.underlying62 T24 c3.1 c3.2 (mul1 _ _) rfl rfl trivial ?_; clear S CL a; intro a S CL
                refine h_run' S rfl trivial ?_
                refine s_storei S (i := (wr .i64 (y9 + (wr .i64 (5 * y14))))) rfl rfl .here T24 .here rfl c3.1 c3.2 ?_; clear S; intro w S
                refine h_back ⟨fun h => (nomatch h), ?_⟩
                refine h_done ?_; clear CL hw le
                refine x_blockN ?_
                refine x_thenN ?_
                refine c_region' ?_
                refine s_move S rfl rfl ?_; clear S a; intro a S
                refine s_bin S rfl rfl rfl rfl ?_; clear S a; intro a S
                refine s_assign S rfl rfl ?_; clear S a; intro a S
                refine c_end' ?_
                refine x_thenN ?_
                exact ⟨_, (wr .i64 (y14 + 1)), g40, g41, g42, (y15.set (Int.toNat (wr .i64 (y9 + (wr .i64 (5 * y14))))) (bits .xor .u64 (rd y3 (wr .i64 (y9 + (wr .i64 (5 * y14))))) (bits .and .u64 (wr .u64 (18446744073709551615 - (rd y3 (wr .i64 ((Int.tmod (wr .i64 (y9 + 1)) 5) + (wr .i64 (5 * y14))))))) (rd y3 (wr .i64 ((Int.tmod (wr .i64 (y9 + 2)) 5) + (wr .i64 (5 * y14)))))))), (S.sub ⟨rfl, rfl, rfl, rfl, rfl, rfl, trivial⟩ (.cons .here (.cons .here (.cons .here .nil)))), h4⟩
              · refine c_condF S rfl c2 ?_
                refine wp_exit ?_
                refine x_thenX ?_
                refine x_thenX ?_
                refine x_blockX ?_
                refine x_blockN ?_
                refine x_thenN ?_
                exact j5 _ g40 g41 g42 y15 a w (S.sub ⟨rfl, rfl, rfl, rfl, rfl, trivial⟩ (.cons .here (.cons .here (.cons .here .nil)))) h1
          · refine c_condF S rfl c1 ?_
            refine wp_exit ?_
            refine x_thenX ?_
            refine x_thenX ?_
            refine x_blockX ?_
            refine x_thenN ?_
            exact j4 _ g28 g30 y10 a w (S.sub ⟨rfl, rfl, rfl, trivial⟩ (.cons .here (.cons (.there .here) .nil))) h1
      refine c_region ?_
      refine s_assign S rfl rfl ?_; clear S a; intro a S
      refine c_end ?_
      refine wp_block ?_
      refine c_loop (fun q3 a w => ∃ (m : Mem) (y20 : Int) (y21 : Int) (y22 : Int) (g49 : Nat) (g50 : Nat) (g51 : Nat) (y23 : List Int), St 157 m (B0 mi w0) [(14, (.v (.int .i64 y20))), (13, (.v (.int .i64 y21))), (12, (.v (.int .i64 y22))), (11, (.v (.pointer (some ⟨g49, 0, none⟩)))), (8, (.v (.pointer (some ⟨g50, 0, none⟩)))), (4, (.v (.pointer (some ⟨g51, 0, none⟩)))), (1, (.v (.int .u64 x2)))] [Res.cells g49 62 [.ints .u64 y23 25], Res.cells g50 62 [.ints .u64 y2 25], Res.cells g51 62 [.ints .u64 [0, 0, 0, 0, 0, 0, 0, 0, 0, 0, 0, 0, 0, 0, 0, 0, 0, 0, 0, 0, 0, 0, 0, 0, 0] 25]] a w ∧ smithyref05_Round.l3 k x2 y2 q3 y20 y21 y22 y23 = some r) ?_ ?_ (k := k) ⟨_, 0, 0, 1, g10, g8, g9, ([0, 0, 0, 0, 0, 0, 0, 0, 0, 0, 0, 0, 0, 0, 0, 0, 0, 0, 0, 0, 0, 0, 0, 0, 0].set (Int.toNat 0) (rd y2 0)), (S.sub ⟨rfl, rfl, rfl, rfl, rfl, rfl, rfl, trivial⟩ (.cons .here (.cons .here (.cons .here .nil)))), h0⟩
      · rintro a w ⟨m, y20, y21, y22, g49, g50, g51, y23, S, h0⟩
        exact (nomatch (show (none : Option (List Int)) = some r from h0))
      · clear S h0
        rintro q3 a w ⟨m, y20, y21, y22, g49, g50, g51, y23, S, h0⟩
        replace h0 : smithyref05_Round.b3 k x2 y2 (smithyref05_Round.l3 k x2 y2 q3) y20 y21 y22 y23 = some r := h0
        delta smithyref05_Round.b3 at h0
        refine wp_seq ?_
        refine c_region ?_
        refine s_move S rfl rfl ?_; clear S a; intro a S
        refine s_bin S rfl rfl rfl rfl ?_; clear S a; intro a S
        refine c_end ?_
        rcases ite_of h0 with ⟨c6, h1⟩ | ⟨c6, h1⟩ <;> clear h0
        · refine c_condT S rfl c6 ?_
          refine wp_skip ?_
          refine x_thenN ?_
          refine wp_seq ?_
          refine wp_block ?_
          refine c_region ?_
          refine s_move S rfl rfl ?_; clear S a; intro a S
          refine s_move S rfl rfl ?_; clear S a; intro a S
          refine s_bin S rfl rfl rfl rfl ?_; clear S a; intro a S
          refine s_move S rfl rfl ?_; clear S a; intro a S
          refine s_bin S rfl rfl rfl rfl ?_; clear S a; intro a S
          refine s_bin S rfl rfl rfl rfl ?_; clear S a; intro a S
          refine s_rem S rfl rfl (by decide) rfl ?_; clear S a; intro a S
          refine s_bin S rfl rfl rfl rfl ?_; clear S a; intro a S
          refine s_bin S rfl rfl rfl rfl ?_; clear S a; intro a S
          refine s_move S rfl rfl ?_; clear S a; intro a S
          refine s_move S rfl rfl ?_; clear S a; intro a S
          refine s_bin S rfl rfl rfl rfl ?_; clear S a; intro a S
          refine s_bin S rfl rfl rfl rfl ?_; clear S a; intro a S
          obtain ⟨c7, h2⟩ := chk_of h1; clear h1
          refine s_iaddr S rfl rfl Tryd.underlying62 T24 c7.1 c7.2 (mul1 _ _) rfl ?_; clear S a; intro a S
          refine s_loadi S (i := (wr .i64 (y22 + (wr .i64 (5 * y21))))) rfl (.there .here) T24 .here rfl c7.1 c7.2 rfl ?_; clear S a; intro a S
          refine s_move S rfl rfl ?_; clear S a; intro a S
          refine s_bin S rfl rfl rfl rfl ?_; clear S a; intro a S
          refine s_move S rfl rfl ?_; clear S a; intro a S
          refine s_bin S rfl rfl rfl rfl ?_; clear S a; intro a S
          refine s_bin S rfl rfl rfl rfl ?_; clear S a; intro a S
          refine s_quo S rfl rfl (by decide) rfl ?_; clear S a; intro a S
          obtain ⟨t1, et1, h3⟩ := bind_of h2; clear h2
          refine s_call S (ds := [(.v (.int .u64 (rd y2 (wr .i64 (y22 + (wr .i64 (5 * y21))))))), (.v (.int .i64 (wr .i64 (Int.tdiv (wr .i64 ((wr .i64 (y20 + 1)) * (wr .i64 (y20 + 2)))) 2))))]) (d := (.v (.int .u64 t1))) N49 rfl rfl (smithyref05_up.ok (rd y2 (wr .i64 (y22 + (wr .i64 (5 * y21))))) (wr .i64 (Int.tdiv (wr .i64 ((wr .i64 (y20 + 1)) * (wr .i64 (y20 + 2)))) 2)) t1 et1 _ _) ?_; clear S a w; intro a w S
          obtain ⟨c8, h4⟩ := chk_of h3; clear h3
          refine s_iaddr S rfl rfl Tryd.underlying62 T24 c8.1 c8.2 (mul1 _ _) rfl ?_; clear S a; intro a S
          refine s_storei S (i := (wr .i64 (y21 + (wr .i64 (5 * (Int.tmod (wr .i64 ((wr .i64 (2 * y22)) + (wr .i64 (3 * y21)))) 5)))))) rfl rfl .here T24 .here rfl c8.1 c8.2 ?_; clear S w; intro w S
          refine c_end ?_
          refine c_region ?_
          refine s_move S rfl rfl ?_; clear S a; intro a S
          refine s_bin S rfl rfl rfl rfl ?_; clear S a; intro a S
          refine s_move S rfl rfl ?_; clear S a; intro a S
          refine s_bin S rfl rfl rfl rfl ?_; clear S a; intro a S
          refine s_bin S rfl rfl rfl rfl ?_; clear S a; intro a S
          refine s_rem S rfl rfl (by decide) rfl ?_; clear S a; intro a S
          refine s_assign S rfl rfl ?_; clear S a; intro a S
          refine c_end ?_
          refine c_region ?_
          refine s_move S rfl rfl ?_; clear S a; intro a S
          refine s_assign S rfl rfl ?_; clear S a; intro a S
          refine c_end ?_
          refine c_region' ?_
          refine s_move S rfl rfl ?_; clear S a; intro a S
          refine s_assign S rfl rfl ?_; clear S a; intro a S
          refine c_end' ?_
          refine x_blockN ?_
          refine x_thenN ?_
          refine c_region' ?_
          refine s_move S rfl rfl ?_; clear S a; intro a S
          refine s_bin S rfl rfl rfl rfl ?_; clear S a; intro a S
          refine s_assign S rfl rfl ?_; clear S a; intro a S
          refine c_end' ?_
          refine x_thenN ?_
          exact ⟨_, (wr .i64 (y20 + 1)), (Int.tmod (wr .i64 ((wr .i64 (2 * y22)) + (wr .i64 (3 * y21)))) 5), y21, g49, g50, g51, (y23.set (Int.toNat (wr .i64 (y21 + (wr .i64 (5 * (Int.tmod (wr .i64 ((wr .i64 (2 * y22)) + (wr .i64 (3 * y21)))) 5)))))) t1), (S.sub ⟨rfl, rfl, rfl, rfl, rfl, rfl, rfl, trivial⟩ (.cons .here (.cons .here (.cons .here .nil)))), h4⟩
        · refine c_condF S rfl c6 ?_
          refine wp_exit ?_
          refine x_thenX ?_
          refine x_thenX ?_
          refine x_blockX ?_
          refine x_thenN ?_
          exact j3 _ g49 g51 y23 a w (S.sub ⟨rfl, rfl, rfl, trivial⟩ (.cons .here (.cons (.there .here) .nil))) h1
    refine c_region ?_
    refine s_assign S rfl rfl ?_; clear S a; intro a S
    refine c_end ?_
    refine wp_block ?_
    refine c_loop (fun q4 a w => ∃ (m : Mem) (y28 : Int) (g68 : Nat) (g69 : Nat) (g70 : Nat) (g71 : Nat) (y29 : List Int), St 157 m (B0 mi w0) [(9, (.v (.int .i64 y28))), (8, (.v (.pointer (some ⟨g68, 0, none⟩)))), (5, (.v (.pointer (some ⟨g69, 0, none⟩)))), (4, (.v (.pointer (some ⟨g70, 0, none⟩)))), (2, (.v (.pointer (some ⟨g71, 0, none⟩)))), (1, (.v (.int .u64 x2)))] [Res.cells g68 62 [.ints .u64 y29 25], Res.cells g69 79 [.ints .u64 y1 5], Res.cells g70 62 [.ints .u64 [0, 0, 0, 0, 0, 0, 0, 0, 0, 0, 0, 0, 0, 0, 0, 0, 0, 0, 0, 0, 0, 0, 0, 0, 0] 25], Res.cells g71 62 [.ints .u64 x1 25]] a w ∧ smithyref05_Round.l4 k x1 x2 y1 q4 y28 y29 = some r) ?_ ?_ (k := k) ⟨_, 0, g7, g4, g5, g6, [0, 0, 0, 0, 0, 0, 0, 0, 0, 0, 0, 0, 0, 0, 0, 0, 0, 0, 0, 0, 0, 0, 0, 0, 0], (S.sub ⟨rfl, rfl, rfl, rfl, rfl, rfl, trivial⟩ (.cons .here (.cons .here (.cons .here (.cons .here .nil))))), h0⟩
    · rintro a w ⟨m, y28, g68, g69, g70, g71, y29, S, h0⟩
      exact (nomatch (show (none : Option (List Int)) = some r from h0))
    · clear S h0
      rintro q4 a w ⟨m, y28, g68, g69, g70, g71, y29, S, h0⟩
      replace h0 : smithyref05_Round.b4 k x1 x2 y1 (smithyref05_Round.l4 k x1 x2 y1 q4) y28 y29 = some r := h0
      delta smithyref05_Round.b4 at h0
      refine wp_seq ?_
      refine c_region ?_
      refine s_move S rfl rfl ?_; clear S a; intro a S
      refine s_bin S rfl rfl rfl rfl ?_; clear S a; intro a S
      refine c_end ?_
      rcases ite_of h0 with ⟨c9, h1⟩ | ⟨c9, h1⟩ <;> clear h0
      · refine c_condT S rfl c9 ?_
        refine wp_skip ?_
        refine x_thenN ?_
        refine wp_seq_k ?_
        intro K6 hK6
        have j6 : ∀ (m : Mem) (g72 : Nat) (g73 : Nat) (g74 : Nat) (g75 : Nat) (y30 : List Int) (a : Act) (w : World), St 157 m (B0 mi w0) [(9, (.v (.int .i64 y28))), (8, (.v (.pointer (some ⟨g72, 0, none⟩)))), (5, (.v (.pointer (some ⟨g73, 0, none⟩)))), (4, (.v (.pointer (some ⟨g74, 0, none⟩)))), (2, (.v (.pointer (some ⟨g75, 0, none⟩)))), (1, (.v (.int .u64 x2)))] [Res.cells g72 62 [.ints .u64 y30 25], Res.cells g73 79 [.ints .u64 y1 5], Res.cells g74 62 [.ints .u64 [0, 0, 0, 0, 0, 0, 0, 0, 0, 0, 0, 0, 0, 0, 0, 0, 0, 0, 0, 0, 0, 0, 0, 0, 0] 25], Res.cells g75 62 [.ints .u64 x1 25]] a w → smithyref05_Round.j6 y28 (smithyref05_Round.l4 k x1 x2 y1 q4) y30 = some r → K6 a w := by
          intro m g72 g73 g74 g75 y30 a w S h0
          delta smithyref05_Round.j6 at h0
          refine hK6 a w ?_
          refine c_region' ?_
          refine s_move S rfl rfl ?_; clear S a; intro a S
          refine s_bin S rfl rfl rfl rfl ?_; clear S a; intro a S
          refine s_assign S rfl rfl ?_; clear S a; intro a S
          refine c_end' ?_
          refine x_thenN ?_
          exact ⟨_, (wr .i64 (y28 + 1)), g72, g73, g74, g75, y30, (S.sub ⟨rfl, rfl, rfl, rfl, rfl, rfl, trivial⟩ (.cons .here (.cons .here (.cons .here (.cons .here .nil))))), h0⟩
        refine wp_block ?_
        refine c_region ?_
        refine s_assign S rfl rfl ?_; clear S a; intro a S
        refine c_end ?_
        refine wp_block ?_
        refine c_loop (fun q5 a w => ∃ (m : Mem) (y33 : Int) (g84 : Nat) (g85 : Nat) (g86 : Nat) (g87 : Nat) (y34 : List Int), St 157 m (B0 mi w0) [(10, (.v (.int .i64 y33))), (9, (.v (.int .i64 y28))), (8, (.v (.pointer (some ⟨g84, 0, none⟩)))), (5, (.v (.pointer (some ⟨g85, 0, none⟩)))), (4, (.v (.pointer (some ⟨g86, 0, none⟩)))), (2, (.v (.pointer (some ⟨g87, 0, none⟩)))), (1, (.v (.int .u64 x2)))] [Res.cells g84 62 [.ints .u64 y34 25], Res.cells g85 79 [.ints .u64 y1 5], Res.cells g86 62 [.ints .u64 [0, 0, 0, 0, 0, 0, 0, 0, 0, 0, 0, 0, 0, 0, 0, 0, 0, 0, 0, 0, 0, 0, 0, 0, 0] 25], Res.cells g87 62 [.ints .u64 x1 25]] a w ∧ smithyref05_Round.l5 x1 y1 y28 (smithyref05_Round.l4 k x1 x2 y1 q4) q5 y33 y34 = some r) ?_ ?_ (k := k) ⟨_, 0, g68, g69, g70, g71, y29, (S.sub ⟨rfl, rfl, rfl, rfl, rfl, rfl, rfl, trivial⟩ (.cons .here (.cons .here (.cons .here (.cons .here .nil))))), h1⟩
        · rintro a w ⟨m, y33, g84, g85, g86, g87, y34, S, h0⟩
          exact (nomatch (show (none : Option (List Int)) = some r from h0))
        · clear S h1
          rintro q5 a w ⟨m, y33, g84, g85, g86, g87, y34, S, h0⟩
          replace h0 : smithyref05_Round.b5 x1 y1 y28 (smithyref05_Round.l4 k x1 x2 y1 q4) (smithyref05_Round.l5 x1 y1 y28 (smithyref05_Round.l4 k x1 x2 y1 q4) q5) y33 y34 = some r := h0
          delta smithyref05_Round.b5 at h0
          refine wp_seq ?_
          refine c_region ?_
          refine s_move S rfl rfl ?_; clear S a; intro a S
          refine s_bin S rfl rfl rfl rfl ?_; clear S a; intro a S
          refine c_end ?_
          rcases ite_of h0 with ⟨c10, h1⟩ | ⟨c10, h1⟩ <;> clear h0
          · refine c_condT S rfl c10 ?_
            refine wp_skip ?_
            refine x_thenN ?_
            refine wp_seq ?_
            refine wp_block ?_
            refine c_heldS S (.take 0 (.take 1 (.take 2 (.take 3 (.take 4 (.take 5 (.take 6 (.take 7 (.take 8 (.take 9 (.take 10 (.take 11 (.take 12 (.take 13 (.take 14 (.take 15 (.take 16 (.take 17 (.take 18 (.take 19 (.take 20 (.alts (.run 21 true (.take 22 (.take 23 (.alts (.run 24 false .done .nil)))) .nil))))))))))))))))))))))) 24 [Res.cells g84 62 [.ints .u64 y34 25], Res.cells g85 79 [.ints .u64 y1 5], Res.cells g86 62 [.ints .u64 [0, 0, 0, 0, 0, 0, 0, 0, 0, 0, 0, 0, 0, 0, 0, 0, 0, 0, 0, 0, 0, 0, 0, 0, 0] 25], Res.cells g87 62 [.ints .u64 x1 25]] (.cons .here (.cons .here (.cons .here (.cons .here .nil)))) ⟨Res.stay_cells, Res.stay_cells, Res.stay_cells, Res.stay_cells, trivial⟩ [(10, (.v (.int .i64 y33))), (9, (.v (.int .i64 y28))), (8, (.v (.pointer (some ⟨g84, 0, none⟩)))), (5, (.v (.pointer (some ⟨g85, 0, none⟩)))), (2, (.v (.pointer (some ⟨g87, 0, none⟩))))] ⟨rfl, rfl, rfl, rfl, rfl, trivial⟩ (by kernel_rfl) (by kernel_rfl) ?_; clear S; intro w S CL hw le
            refine h_move S CL hw le ⟨rfl, rfl, rfl, rfl, rfl, trivial⟩ rfl rfl rfl trivial ?_; clear S CL a; intro a S CL
            refine h_move S CL hw le ⟨rfl, rfl, rfl, rfl, rfl, rfl, trivial⟩ rfl rfl rfl trivial ?_; clear S CL a; intro a S CL
            refine h_bin S CL hw le ⟨rfl, rfl, rfl, rfl, rfl, rfl, rfl, trivial⟩ rfl rfl rfl rfl rfl trivial ?_; clear S CL a; intro a S CL
            refine h_bin S CL hw le ⟨rfl, rfl, rfl, rfl, rfl, rfl, rfl, rfl, trivial⟩ rfl rfl rfl rfl rfl trivial ?_; clear S CL a; intro a S CL
            refine h_move S CL hw le ⟨rfl, rfl, rfl, rfl, rfl, rfl, rfl, rfl, rfl, trivial⟩ rfl rfl rfl trivial ?_; clear S CL a; intro a S CL
            refine h_move S CL hw le ⟨rfl, rfl, rfl, rfl, rfl, rfl, rfl, rfl, rfl, rfl, trivial⟩ rfl rfl rfl trivial ?_; clear S CL a; intro a S CL
            refine h_bin S CL hw le ⟨rfl, rfl, rfl, rfl, rfl, rfl, rfl, rfl, rfl, rfl, rfl, trivial⟩ rfl rfl rfl rfl rfl trivial ?_; clear S CL a; intro a S CL
            refine h_bin S CL hw le ⟨rfl, rfl, rfl, rfl, rfl, rfl, rfl, rfl, rfl, rfl, rfl, rfl, trivial⟩ rfl rfl rfl rfl rfl trivial ?_; clear S CL a; intro a S CL
            obtain ⟨c11, h2⟩ := chk_of h1; clear h1
            refine h_iaddr S CL hw le ⟨rfl, rfl, rfl, rfl, rfl, rfl, rfl, rfl, rfl, rfl, rfl, rfl, rfl, trivial⟩ rfl rfl Tryd.underlying62 T24 c11.1 c11.2 (mul1 _ _) rfl rfl trivial ?_; clear S CL a; intro a S CL
            refine h_loadi S CL hw le ⟨rfl, rfl, rfl, rfl, rfl, rfl, rfl, rfl, rfl, rfl, rfl, rfl, rfl, rfl, trivial⟩ (i := (wr .i64 (y28 + (wr .i64 (5 * y33))))) rfl (.there (.there (.there .here))) T24 .here rfl c11.1 c11.2 rfl rfl trivial ?_; clear S CL a; intro a S CL
            refine h_move S CL hw le ⟨rfl, rfl, rfl, rfl, rfl, rfl, rfl, rfl, rfl, rfl, rfl, rfl, rfl, rfl, rfl, trivial⟩ rfl rfl rfl trivial ?_; clear S CL a; intro a S CL
            refine h_bin S CL hw le ⟨rfl, rfl, rfl, rfl, rfl, rfl, rfl, rfl, rfl, rfl, rfl, rfl, rfl, rfl, rfl, rfl, trivial⟩ rfl rfl rfl rfl rfl trivial ?_; clear S CL a; intro a S CL
            refine h_rem S CL hw le ⟨rfl, rfl, rfl, rfl, rfl, rfl, rfl, rfl, rfl, rfl, rfl, rfl, rfl, rfl, rfl, rfl, rfl, trivial⟩ rfl rfl (by decide) rfl rfl trivial ?_; clear S CL a; intro a S CL
            obtain ⟨c12, h3⟩ := chk_of h2; clear h2
            refine h_iaddr S CL hw le ⟨rfl, rfl, rfl, rfl, rfl, rfl, rfl, rfl, rfl, rfl, rfl, rfl, rfl, rfl, rfl, rfl, rfl, rfl, trivial⟩ rfl rfl Tryd.underlying79 T24 c12.1 c12.2 (mul1 _ _) rfl rfl trivial ?_; clear S CL a; intro a S CL
            refine h_loadi S CL hw le ⟨rfl, rfl, rfl, rfl, rfl, rfl, rfl, rfl, rfl, rfl, rfl, rfl, rfl, rfl, rfl, rfl, rfl, rfl, rfl, trivial⟩ (i := (Int.tmod (wr .i64 (y28 + 4)) 5)) rfl (.there .here) T24 .here rfl c12.1 c12.2 rfl rfl trivial ?_; clear S CL a; intro a S CL
            refine h_bin S CL hw le ⟨rfl, rfl, rfl, rfl, rfl, rfl, rfl, rfl, rfl, rfl, rfl, rfl, rfl, rfl, rfl, rfl, rfl, rfl, rfl, rfl, trivial⟩ rfl rfl rfl rfl rfl trivial ?_; clear S CL a; intro a S CL
            refine h_move S CL hw le ⟨rfl, rfl, rfl, rfl, rfl, rfl, rfl, rfl, rfl, rfl, rfl, rfl, rfl, rfl, rfl, rfl, rfl, rfl, rfl, rfl, rfl, trivial⟩ rfl rfl rfl trivial ?_; clear S CL a; intro a S CL
            refine h_bin S CL hw le ⟨rfl, rfl, rfl, rfl, rfl, rfl, rfl, rfl, rfl, rfl, rfl, rfl, rfl, rfl, rfl, rfl, rfl, rfl, rfl, rfl, rfl, rfl, trivial⟩ rfl rfl rfl rfl rfl trivial ?_; clear S CL a; intro a S CL
            refine h_rem S CL hw le ⟨rfl, rfl, rfl, rfl, rfl, rfl, rfl, rfl, rfl, rfl, rfl, rfl, rfl, rfl, rfl, rfl, rfl, rfl, rfl, rfl, rfl, rfl, rfl, trivial⟩ rfl rfl (by decide) rfl rfl trivial ?_; clear S CL a; intro a S CL
            obtain ⟨c13, h4⟩ := chk_of h3; clear h3
            refine h_iaddr S CL hw le ⟨rfl, rfl, rfl, rfl, rfl, rfl, rfl, rfl, rfl, rfl, rfl, rfl, rfl, rfl, rfl, rfl, rfl, rfl, rfl, rfl, rfl, rfl, rfl, rfl, trivial⟩ rfl rfl Tryd.underlying79 T24 c13.1 c13.2 (mul1 _ _) rfl rfl trivial ?_; clear S CL a; intro a S CL
            refine h_loadi S CL hw le ⟨rfl, rfl, rfl, rfl, rfl, rfl, rfl, rfl, rfl, rfl, rfl, rfl, rfl, rfl, rfl, rfl, rfl, rfl, rfl, rfl, rfl, rfl, rfl, rfl, rfl, trivial⟩ (i := (Int.tmod (wr .i64 (y28 + 1)) 5)) rfl (.there .here) T24 .here rfl c13.1 c13.2 rfl rfl trivial ?_; clear S CL a; intro a S CL
            refine h_run' S rfl trivial ?_
            obtain ⟨t4, et4, h5⟩ := bind_of h4; clear h4
            refine s_call S (ds := [(.v (.int .u64 (rd y1 (Int.tmod (wr .i64 (y28 + 1)) 5)))), (.v (.int .i64 1))]) (d := (.v (.int .u64 t4))) N49 rfl rfl (smithyref05_up.ok (rd y1 (Int.tmod (wr .i64 (y28 + 1)) 5)) 1 t4 et4 _ _) ?_; clear S a; intro a w S
            replace hw := CL.again hw S (.cons .here (.cons .here (.cons .here (.cons .here .nil)))) le
            refine h_back ⟨fun _ => hw, ?_⟩
            replace CL := CL.add (t := 70) (d := (.v (.int .u64 t4))) S rfl rfl
            refine h_bin S CL hw le ⟨rfl, rfl, rfl, rfl, rfl, rfl, rfl, rfl, rfl, rfl, rfl, rfl, rfl, rfl, rfl, rfl, rfl, rfl, rfl, rfl, rfl, rfl, rfl, rfl, rfl, rfl, rfl, trivial⟩ rfl rfl rfl rfl rfl trivial ?_; clear S CL a; intro a S CL
            refine h_iaddr S CL hw le ⟨rfl, rfl, rfl, rfl, rfl, rfl, rfl, rfl, rfl, rfl, rfl, rfl, rfl, rfl, rfl, rfl, rfl, rfl, rfl, rfl, rfl, rfl, rfl, rfl, rfl, rfl, rfl, rfl, trivial⟩ rfl rfl Tryd.underlying62 T24 c11.1 c11.2 (mul1 _ _) rfl rfl trivial ?_; clear S CL a; intro a S CL
            refine h_run' S rfl trivial ?_
            refine s_storei S (i := (wr .i64 (y28 + (wr .i64 (5 * y33))))) rfl rfl .here T24 .here rfl c11.1 c11.2 ?_; clear S; intro w S
            refine h_back ⟨fun h => (nomatch h), ?_⟩
            refine h_done ?_; clear CL hw le
            refine x_blockN ?_
            refine x_thenN ?_
            refine c_region' ?_
            refine s_move S rfl rfl ?_; clear S a; intro a S
            refine s_bin S rfl rfl rfl rfl ?_; clear S a; intro a S
            refine s_assign S rfl rfl ?_; clear S a; intro a S
            refine c_end' ?_
            refine x_thenN ?_
            exact ⟨_, (wr .i64 (y33 + 1)), g84, g85, g86, g87, (y34.set (Int.toNat (wr .i64 (y28 + (wr .i64 (5 * y33))))) (bits .xor .u64 (bits .xor .u64 (rd x1 (wr .i64 (y28 + (wr .i64 (5 * y33))))) (rd y1 (Int.tmod (wr .i64 (y28 + 4)) 5))) t4)), (S.sub ⟨rfl, rfl, rfl, rfl, rfl, rfl, rfl, trivial⟩ (.cons .here (.cons .here (.cons .here (.cons .here .nil))))), h5⟩
          · refine c_condF S rfl c10 ?_
            refine wp_exit ?_
            refine x_thenX ?_
            refine x_thenX ?_
            refine x_blockX ?_
            refine x_blockN ?_
            refine x_thenN ?_
            exact j6 _ g84 g85 g86 g87 y34 a w (S.sub ⟨rfl, rfl, rfl, rfl, rfl, rfl, trivial⟩ (.cons .here (.cons .here (.cons .here (.cons .here .nil))))) h1
      · refine c_condF S rfl c9 ?_
        refine wp_exit ?_
        refine x_thenX ?_
        refine x_thenX ?_
        refine x_blockX ?_
        refine x_thenN ?_
        exact j2 _ g68 g70 y29 a w (S.sub ⟨rfl, rfl, rfl, trivial⟩ (.cons .here (.cons (.there .here) .nil))) h1
  refine c_region ?_
  refine s_assign S rfl rfl ?_; clear S a; intro a S
  refine c_end ?_
  refine wp_block ?_
  refine c_loop (fun q6 a w => ∃ (m : Mem) (y39 : Int) (g100 : Nat) (g101 : Nat) (g102 : Nat) (y40 : List Int), St 157 m (B0 mi w0) [(6, (.v (.int .i64 y39))), (5, (.v (.pointer (some ⟨g100, 0, none⟩)))), (4, (.v (.pointer (some ⟨g101, 0, none⟩)))), (2, (.v (.pointer (some ⟨g102, 0, none⟩)))), (1, (.v (.int .u64 x2)))] [Res.cells g100 79 [.ints .u64 y40 5], Res.cells g101 62 [.ints .u64 [0, 0, 0, 0, 0, 0, 0, 0, 0, 0, 0, 0, 0, 0, 0, 0, 0, 0, 0, 0, 0, 0, 0, 0, 0] 25], Res.cells g102 62 [.ints .u64 x1 25]] a w ∧ smithyref05_Round.l6 k x1 x2 q6 y39 y40 = some r) ?_ ?_ (k := k) ⟨_, 0, g3, g2, g1, [0, 0, 0, 0, 0], (S.sub ⟨rfl, rfl, rfl, rfl, rfl, trivial⟩ (.cons .here (.cons .here (.cons .here .nil)))), h0⟩
  · rintro a w ⟨m, y39, g100, g101, g102, y40, S, h0⟩
    exact (nomatch (show (none : Option (List Int)) = some r from h0))
  · clear S h0
    rintro q6 a w ⟨m, y39, g100, g101, g102, y40, S, h0⟩
    replace h0 : smithyref05_Round.b6 k x1 x2 (smithyref05_Round.l6 k x1 x2 q6) y39 y40 = some r := h0
    delta smithyref05_Round.b6 at h0
    refine wp_seq ?_
    refine c_region ?_
    refine s_move S rfl rfl ?_; clear S a; intro a S
    refine s_bin S rfl rfl rfl rfl ?_; clear S a; intro a S
    refine c_end ?_
    rcases ite_of h0 with ⟨c14, h1⟩ | ⟨c14, h1⟩ <;> clear h0
    · refine c_condT S rfl c14 ?_
      refine wp_skip ?_
      refine x_thenN ?_
      refine wp_seq_k ?_
      intro K7 hK7
      have j7 : ∀ (m : Mem) (g103 : Nat) (g104 : Nat) (g105 : Nat) (y41 : List Int) (a : Act) (w : World), St 157 m (B0 mi w0) [(6, (.v (.int .i64 y39))), (5, (.v (.pointer (some ⟨g103, 0, none⟩)))), (4, (.v (.pointer (some ⟨g104, 0, none⟩)))), (2, (.v (.pointer (some ⟨g105, 0, none⟩)))), (1, (.v (.int .u64 x2)))] [Res.cells g103 79 [.ints .u64 y41 5], Res.cells g104 62 [.ints .u64 [0, 0, 0, 0, 0, 0, 0, 0, 0, 0, 0, 0, 0, 0, 0, 0, 0, 0, 0, 0, 0, 0, 0, 0, 0] 25], Res.cells g105 62 [.ints .u64 x1 25]] a w → smithyref05_Round.j7 y39 (smithyref05_Round.l6 k x1 x2 q6) y41 = some r → K7 a w := by
        intro m g103 g104 g105 y41 a w S h0
        delta smithyref05_Round.j7 at h0
        refine hK7 a w ?_
        refine c_region' ?_
        refine s_move S rfl rfl ?_; clear S a; intro a S
        refine s_bin S rfl rfl rfl rfl ?_; clear S a; intro a S
        refine s_assign S rfl rfl ?_; clear S a; intro a S
        refine c_end' ?_
        refine x_thenN ?_
        exact ⟨_, (wr .i64 (y39 + 1)), g103, g104, g105, y41, (S.sub ⟨rfl, rfl, rfl, rfl, rfl, trivial⟩ (.cons .here (.cons .here (.cons .here .nil)))), h0⟩
      refine wp_block ?_
      refine c_region ?_
      refine s_assign S rfl rfl ?_; clear S a; intro a S
      refine c_end ?_
      refine wp_block ?_
      refine c_loop (fun q7 a w => ∃ (m : Mem) (y44 : Int) (g112 : Nat) (g113 : Nat) (g114 : Nat) (y45 : List Int), St 157 m (B0 mi w0) [(7, (.v (.int .i64 y44))), (6, (.v (.int .i64 y39))), (5, (.v (.pointer (some ⟨g112, 0, none⟩)))), (4, (.v (.pointer (some ⟨g113, 0, none⟩)))), (2, (.v (.pointer (some ⟨g114, 0, none⟩)))), (1, (.v (.int .u64 x2)))] [Res.cells g112 79 [.ints .u64 y45 5], Res.cells g113 62 [.ints .u64 [0, 0, 0, 0, 0, 0, 0, 0, 0, 0, 0, 0, 0, 0, 0, 0, 0, 0, 0, 0, 0, 0, 0, 0, 0] 25], Res.cells g114 62 [.ints .u64 x1 25]] a w ∧ smithyref05_Round.l7 x1 y39 (smithyref05_Round.l6 k x1 x2 q6) q7 y44 y45 = some r) ?_ ?_ (k := k) ⟨_, 0, g100, g101, g102, y40, (S.sub ⟨rfl, rfl, rfl, rfl, rfl, rfl, trivial⟩ (.cons .here (.cons .here (.cons .here .nil)))), h1⟩
      · rintro a w ⟨m, y44, g112, g113, g114, y45, S, h0⟩
        exact (nomatch (show (none : Option (List Int)) = some r from h0))
      · clear S h1
        rintro q7 a w ⟨m, y44, g112, g113, g114, y45, S, h0⟩
        replace h0 : smithyref05_Round.b7 x1 y39 (smithyref05_Round.l6 k x1 x2 q6) (smithyref05_Round.l7 x1 y39 (smithyref05_Round.l6 k x1 x2 q6) q7) y44 y45 = some r := h0
        delta smithyref05_Round.b7 at h0
        refine wp_seq ?_
        refine c_region ?_
        refine s_move S rfl rfl ?_; clear S a; intro a S
        refine s_bin S rfl rfl rfl rfl ?_; clear S a; intro a S
        refine c_end ?_
        rcases ite_of h0 with ⟨c15, h1⟩ | ⟨c15, h1⟩ <;> clear h0
        · refine c_condT S rfl c15 ?_
          refine wp_skip ?_
          refine x_thenN ?_
          refine wp_seq ?_
          refine wp_block ?_
          refine c_heldS S (.take 0 (.take 1 (.take 2 (.take 3 (.take 4 (.take 5 (.take 6 (.take 7 (.take 8 (.take 9 (.take 10 (.take 11 (.alts (.run 12 false .done .nil)))))))))))))) 12 [Res.cells g112 79 [.ints .u64 y45 5], Res.cells g113 62 [.ints .u64 [0, 0, 0, 0, 0, 0, 0, 0, 0, 0, 0, 0, 0, 0, 0, 0, 0, 0, 0, 0, 0, 0, 0, 0, 0] 25], Res.cells g114 62 [.ints .u64 x1 25]] (.cons .here (.cons .here (.cons .here .nil))) ⟨Res.stay_cells, Res.stay_cells, Res.stay_cells, trivial⟩ [(7, (.v (.int .i64 y44))), (6, (.v (.int .i64 y39))), (5, (.v (.pointer (some ⟨g112, 0, none⟩)))), (2, (.v (.pointer (some ⟨g114, 0, none⟩))))] ⟨rfl, rfl, rfl, rfl, trivial⟩ (by kernel_rfl) (by kernel_rfl) ?_; clear S; intro w S CL hw le
          refine h_move S CL hw le ⟨rfl, rfl, rfl, rfl, trivial⟩ rfl rfl rfl trivial ?_; clear S CL a; intro a S CL
          refine h_move S CL hw le ⟨rfl, rfl, rfl, rfl, rfl, trivial⟩ rfl rfl rfl trivial ?_; clear S CL a; intro a S CL
          obtain ⟨c16, h2⟩ := chk_of h1; clear h1
          refine h_iaddr S CL hw le ⟨rfl, rfl, rfl, rfl, rfl, rfl, trivial⟩ rfl rfl Tryd.underlying79 T24 c16.1 c16.2 (mul1 _ _) rfl rfl trivial ?_; clear S CL a; intro a S CL
          refine h_loadi S CL hw le ⟨rfl, rfl, rfl, rfl, rfl, rfl, rfl, trivial⟩ (i := y39) rfl .here T24 .here rfl c16.1 c16.2 rfl rfl trivial ?_; clear S CL a; intro a S CL
          refine h_move S CL hw le ⟨rfl, rfl, rfl, rfl, rfl, rfl, rfl, rfl, trivial⟩ rfl rfl rfl trivial ?_; clear S CL a; intro a S CL
          refine h_move S CL hw le ⟨rfl, rfl, rfl, rfl, rfl, rfl, rfl, rfl, rfl, trivial⟩ rfl rfl rfl trivial ?_; clear S CL a; intro a S CL
          refine h_bin S CL hw le ⟨rfl, rfl, rfl, rfl, rfl, rfl, rfl, rfl, rfl, rfl, trivial⟩ rfl rfl rfl rfl rfl trivial ?_; clear S CL a; intro a S CL
          refine h_bin S CL hw le ⟨rfl, rfl, rfl, rfl, rfl, rfl, rfl, rfl, rfl, rfl, rfl, trivial⟩ rfl rfl rfl rfl rfl trivial ?_; clear S CL a; intro a S CL
          obtain ⟨c17, h3⟩ := chk_of h2; clear h2
          refine h_iaddr S CL hw le ⟨rfl, rfl, rfl, rfl, rfl, rfl, rfl, rfl, rfl, rfl, rfl, rfl, trivial⟩ rfl rfl Tryd.underlying62 T24 c17.1 c17.2 (mul1 _ _) rfl rfl trivial ?_; clear S CL a; intro a S CL
          refine h_loadi S CL hw le ⟨rfl, rfl, rfl, rfl, rfl, rfl, rfl, rfl, rfl, rfl, rfl, rfl, rfl, trivial⟩ (i := (wr .i64 (y39 + (wr .i64 (5 * y44))))) rfl (.there (.there .here)) T24 .here rfl c17.1 c17.2 rfl rfl trivial ?_; clear S CL a; intro a S CL
          refine h_bin S CL hw le ⟨rfl, rfl, rfl, rfl, rfl, rfl, rfl, rfl, rfl, rfl, rfl, rfl, rfl, rfl, trivial⟩ rfl rfl rfl rfl rfl trivial ?_; clear S CL a; intro a S CL
          refine h_iaddr S CL hw le ⟨rfl, rfl, rfl, rfl, rfl, rfl, rfl, rfl, rfl, rfl, rfl, rfl, rfl, rfl, rfl, trivial⟩ rfl rfl Tryd.underlying79 T24 c16.1 c16.2 (mul1 _ _) rfl rfl trivial ?_; clear S CL a; intro a S CL
          refine h_run' S rfl trivial ?_
          refine s_storei S (i := y39) rfl rfl .here T24 .here rfl c16.1 c16.2 ?_; clear S; intro w S
          refine h_back ⟨fun h => (nomatch h), ?_⟩
          refine h_done ?_; clear CL hw le
          refine x_blockN ?_
          refine x_thenN ?_
          refine c_region' ?_
          refine s_move S rfl rfl ?_; clear S a; intro a S
          refine s_bin S rfl rfl rfl rfl ?_; clear S a; intro a S
          refine s_assign S rfl rfl ?_; clear S a; intro a S
          refine c_end' ?_
          refine x_thenN ?_
          exact ⟨_, (wr .i64 (y44 + 1)), g112, g113, g114, (y45.set (Int.toNat y39) (bits .xor .u64 (rd y45 y39) (rd x1 (wr .i64 (y39 + (wr .i64 (5 * y44))))))), (S.sub ⟨rfl, rfl, rfl, rfl, rfl, rfl, trivial⟩ (.cons .here (.cons .here (.cons .here .nil)))), h3⟩
        · refine c_condF S rfl c15 ?_
          refine wp_exit ?_
          refine x_thenX ?_
          refine x_thenX ?_
          refine x_blockX ?_
          refine x_blockN ?_
          refine x_thenN ?_
          exact j7 _ g112 g113 g114 y45 a w (S.sub ⟨rfl, rfl, rfl, rfl, rfl, trivial⟩ (.cons .here (.cons .here (.cons .here .nil)))) h1
    · refine c_condF S rfl c14 ?_
      refine wp_exit ?_
      refine x_thenX ?_
      refine x_thenX ?_
      refine x_blockX ?_
      refine x_thenN ?_
      exact j1 _ g100 g101 g102 y40 a w (S.sub ⟨rfl, rfl, rfl, rfl, trivial⟩ (.cons .here (.cons .here (.cons .here .nil)))) h1
/-! smithy/smithyref05.Turn -/
def smithyref05_Turn.j1 (y1 : List Int) : Option (List Int) := some y1
def smithyref05_Turn.b1 (k : Nat) (t1 : List Int) (rec1 : Int → (List Int) → Option (List Int)) (y4 : Int) (y5 : List Int) : Option (List Int) := if (decide (y4 < 24)) = true then (if 0 ≤ y4 ∧ y4 < 24 then ((smithyref05_Round.f k y5 (rd t1 y4)).bind fun t4 => (rec1 (wr .i64 (y4 + 1)) t4)) else none) else (smithyref05_Turn.j1 y5)
def smithyref05_Turn.l1 (k : Nat) (t1 : List Int) : Nat → Int → (List Int) → Option (List Int)
  | 0, _, _ => none
  | q + 1, y4, y5 => smithyref05_Turn.b1 k t1 (smithyref05_Turn.l1 k t1 q) y4 y5
def smithyref05_Turn.f (k : Nat) (x1 : List Int) : Option (List Int) := (smithyref05_Constants.f k).bind fun t1 => (smithyref05_Turn.l1 k t1 k 0 x1)
theorem smithyref05_Turn.ok (k : Nat) (x1 : List Int) (r : List Int) (h0 : smithyref05_Turn.f k x1 = some r) (mi : Mem) (w0 : World) : okL mi [(.agg [.ints .u64 x1 25])] → Frz mi w0 → Calls Tryd.prog 37 (([(.agg [.ints .u64 x1 25])] : List D).map D.val).toArray w0 (Ret mi (.agg [.ints .u64 r 25]) w0) := by
  intro ok hm
  delta smithyref05_Turn.f at h0
  refine c_enter (n := 16) [(.agg [.ints .u64 x1 25])] (l := [(0, (.agg [.ints .u64 x1 25]))]) Tryd.func37 rfl rfl rfl rfl ok hm ?_
  clear ok hm
  intro a S
  refine c_region ?_
  refine s_box S rfl rfl rfl ?_; clear S a; intro g1 a w S
  refine s_alloc S Z62 rfl ⟨rfl, trivial⟩ rfl ?_; clear S a w; intro g2 a w S
  refine c_end ?_
  refine c_region ?_
  obtain ⟨t1, et1, h1⟩ := bind_of h0; clear h0
  refine s_call S (ds := []) (d := (.agg [.ints .u64 t1 24])) N43 rfl rfl (smithyref05_Constants.ok k t1 et1 _ _) ?_; clear S a w; intro a w S
  refine s_alloc S Z72 rfl ⟨rfl, trivial⟩ rfl ?_; clear S a w; intro g3 a w S
  refine s_store S rfl rfl rfl (s' := [.ints .u64 t1 24]) .here T72 rfl rfl ?_; clear S w; intro w S
  refine c_end ?_
  refine wp_seq_k ?_
  intro K1 hK1
  have j1 : ∀ (m : Mem) (g4 : Nat) (g5 : Nat) (y1 : List Int) (a : Act) (w : World), St 16 m (B0 mi w0) [(2, (.v (.pointer (some ⟨g4, 0, none⟩)))), (1, (.v (.pointer (some ⟨g5, 0, none⟩))))] [Res.cells g4 62 [.ints .u64 [0, 0, 0, 0, 0, 0, 0, 0, 0, 0, 0, 0, 0, 0, 0, 0, 0, 0, 0, 0, 0, 0, 0, 0, 0] 25], Res.cells g5 62 [.ints .u64 y1 25]] a w → smithyref05_Turn.j1 y1 = some r → K1 a w := by
    intro m g4 g5 y1 a w S h0
    delta smithyref05_Turn.j1 at h0
    refine hK1 a w ?_
    refine c_region ?_
    refine s_loada S rfl (.there .here) T62 (s' := [.ints .u64 y1 25]) rfl rfl ?_; clear S a; intro a S
    refine s_store S rfl rfl rfl (s' := [.ints .u64 y1 25]) .here T62 rfl rfl ?_; clear S w; intro w S
    refine c_end ?_
    refine wp_ret ?_
    obtain rfl := Option.some.inj h0
    exact b_ret1 (d := (.agg [.ints .u64 y1 25])) S rfl (resD_cell rfl .here T62 rfl rfl) fun ok => ⟨rfl, ok, S.below0⟩
  refine c_region ?_
  refine s_assign S rfl rfl ?_; clear S a; intro a S
  refine c_end ?_
  refine wp_block ?_
  refine c_loop (fun q1 a w => ∃ (m : Mem) (y4 : Int) (g12 : Nat) (g13 : Nat) (g14 : Nat) (y5 : List Int), St 16 m (B0 mi w0) [(4, (.v (.int .i64 y4))), (3, (.v (.pointer (some ⟨g12, 0, none⟩)))), (2, (.v (.pointer (some ⟨g13, 0, none⟩)))), (1, (.v (.pointer (some ⟨g14, 0, none⟩))))] [Res.cells g12 72 [.ints .u64 t1 24], Res.cells g13 62 [.ints .u64 [0, 0, 0, 0, 0, 0, 0, 0, 0, 0, 0, 0, 0, 0, 0, 0, 0, 0, 0, 0, 0, 0, 0, 0, 0] 25], Res.cells g14 62 [.ints .u64 y5 25]] a w ∧ smithyref05_Turn.l1 k t1 q1 y4 y5 = some r) ?_ ?_ (k := k) ⟨_, 0, g3, g2, g1, x1, (S.sub ⟨rfl, rfl, rfl, rfl, trivial⟩ (.cons .here (.cons .here (.cons .here .nil)))), h1⟩
  · rintro a w ⟨m, y4, g12, g13, g14, y5, S, h0⟩
    exact (nomatch (show (none : Option (List Int)) = some r from h0))
  · clear S h1
    rintro q1 a w ⟨m, y4, g12, g13, g14, y5, S, h0⟩
    replace h0 : smithyref05_Turn.b1 k t1 (smithyref05_Turn.l1 k t1 q1) y4 y5 = some r := h0
    delta smithyref05_Turn.b1 at h0
    refine wp_seq ?_
    refine c_region ?_
    refine s_move S rfl rfl ?_; clear S a; intro a S
    refine s_bin S rfl rfl rfl rfl ?_; clear S a; intro a S
    refine c_end ?_
    rcases ite_of h0 with ⟨c1, h1⟩ | ⟨c1, h1⟩ <;> clear h0
    · refine c_condT S rfl c1 ?_
      refine wp_skip ?_
      refine x_thenN ?_
      refine wp_seq ?_
      refine wp_block ?_
      refine c_heldS S (.take 0 (.take 1 (.take 2 (.take 3 (.alts (.run 4 true (.alts (.run 5 false .done .nil)) .nil)))))) 5 [Res.cells g12 72 [.ints .u64 t1 24], Res.cells g13 62 [.ints .u64 [0, 0, 0, 0, 0, 0, 0, 0, 0, 0, 0, 0, 0, 0, 0, 0, 0, 0, 0, 0, 0, 0, 0, 0, 0] 25], Res.cells g14 62 [.ints .u64 y5 25]] (.cons .here (.cons .here (.cons .here .nil))) ⟨Res.stay_cells, Res.stay_cells, Res.stay_cells, trivial⟩ [(4, (.v (.int .i64 y4))), (3, (.v (.pointer (some ⟨g12, 0, none⟩)))), (1, (.v (.pointer (some ⟨g14, 0, none⟩))))] ⟨rfl, rfl, rfl, trivial⟩ (by kernel_rfl) (by kernel_rfl) ?_; clear S; intro w S CL hw le
      refine h_loada S CL hw le ⟨rfl, rfl, rfl, trivial⟩ rfl (.there (.there .here)) T62 (s' := [.ints .u64 y5 25]) rfl rfl rfl trivial ?_; clear S CL a; intro a S CL
      refine h_move S CL hw le ⟨rfl, rfl, rfl, rfl, trivial⟩ rfl rfl rfl trivial ?_; clear S CL a; intro a S CL
      obtain ⟨c2, h2⟩ := chk_of h1; clear h1
      refine h_iaddr S CL hw le ⟨rfl, rfl, rfl, rfl, rfl, trivial⟩ rfl rfl Tryd.underlying72 T24 c2.1 c2.2 (mul1 _ _) rfl rfl trivial ?_; clear S CL a; intro a S CL
      refine h_loadi S CL hw le ⟨rfl, rfl, rfl, rfl, rfl, rfl, trivial⟩ (i := y4) rfl .here T24 .here rfl c2.1 c2.2 rfl rfl trivial ?_; clear S CL a; intro a S CL
      refine h_run' S rfl trivial ?_
      obtain ⟨t4, et4, h3⟩ := bind_of h2; clear h2
      refine s_call S (ds := [(.agg [.ints .u64 y5 25]), (.v (.int .u64 (rd t1 y4)))]) (d := (.agg [.ints .u64 t4 25])) N44 rfl rfl (smithyref05_Round.ok k y5 (rd t1 y4) t4 et4 _ _) ?_; clear S a; intro a w S
      replace hw := CL.again hw S (.cons .here (.cons .here (.cons .here .nil))) le
      refine h_back ⟨fun _ => hw, ?_⟩
      refine h_run' S rfl trivial ?_
      refine s_store S rfl rfl rfl (s' := [.ints .u64 t4 25]) (.there (.there .here)) T62 rfl rfl ?_; clear S; intro w S
      refine h_back ⟨fun h => (nomatch h), ?_⟩
      refine h_done ?_; clear CL hw le
      refine x_blockN ?_
      refine x_thenN ?_
      refine c_region' ?_
      refine s_move S rfl rfl ?_; clear S a; intro a S
      refine s_bin S rfl rfl rfl rfl ?_; clear S a; intro a S
      refine s_assign S rfl rfl ?_; clear S a; intro a S
      refine c_end' ?_
      refine x_thenN ?_
      exact ⟨_, (wr .i64 (y4 + 1)), g12, g13, g14, t4, (S.sub ⟨rfl, rfl, rfl, rfl, trivial⟩ (.cons .here (.cons .here (.cons .here .nil)))), h3⟩
    · refine c_condF S rfl c1 ?_
      refine wp_exit ?_
      refine x_thenX ?_
      refine x_thenX ?_
      refine x_blockX ?_
      refine x_thenN ?_
      exact j1 _ g13 g14 y5 a w (S.sub ⟨rfl, rfl, trivial⟩ (.cons (.there .here) (.cons (.there .here) .nil))) h1
/-! smithy/smithyref05.Sum -/
def smithyref05_Sum.j3 (y3 : List Int) : Option (List Int) := some y3
def smithyref05_Sum.b1 (y2 : List Int) (rec1 : Int → (List Int) → Option (List Int)) (y6 : Int) (y7 : List Int) : Option (List Int) := if (decide (y6 < 32)) = true then (if 0 ≤ (wr .i64 (Int.tdiv y6 8)) ∧ (wr .i64 (Int.tdiv y6 8)) < 25 then (if 0 ≤ (wr .i64 (8 * (Int.tmod y6 8))) then (if 0 ≤ y6 ∧ y6 < 32 then (rec1 (wr .i64 (y6 + 1)) (y7.set (Int.toNat y6) (wr .u8 (Int.tmod (shr (rd y2 (wr .i64 (Int.tdiv y6 8))) (min (Int.toNat (wr .i64 (8 * (Int.tmod y6 8)))) 64)) 256)))) else none) else none) else none) else (smithyref05_Sum.j3 y7)
def smithyref05_Sum.l1 (y2 : List Int) : Nat → Int → (List Int) → Option (List Int)
  | 0, _, _ => none
  | q + 1, y6, y7 => smithyref05_Sum.b1 y2 (smithyref05_Sum.l1 y2 q) y6 y7
def smithyref05_Sum.j2 (k : Nat) (y2 : List Int) : Option (List Int) := smithyref05_Sum.l1 y2 k 0 [0, 0, 0, 0, 0, 0, 0, 0, 0, 0, 0, 0, 0, 0, 0, 0, 0, 0, 0, 0, 0, 0, 0, 0, 0, 0, 0, 0, 0, 0, 0, 0]
def smithyref05_Sum.j4 (y12 : Int) (rec2 : Int → (List Int) → Option (List Int)) (y14 : List Int) : Option (List Int) := rec2 (wr .i64 (y12 + 1)) y14
def smithyref05_Sum.b2 (k : Nat) (y1 : List Int) (rec2 : Int → (List Int) → Option (List Int)) (y12 : Int) (y13 : List Int) : Option (List Int) := if (decide (y12 < ((y1.set (Int.toNat (wr .i64 (((y1).length : Int) - 1))) (bits .or .u8 (rd y1 (wr .i64 (((y1).length : Int) - 1))) 128)).length : Int))) = true then (if 0 ≤ (wr .i64 (Int.tdiv (Int.tmod y12 136) 8)) ∧ (wr .i64 (Int.tdiv (Int.tmod y12 136) 8)) < 25 then (if 0 ≤ y12 ∧ y12 < ((y1.set (Int.toNat (wr .i64 (((y1).length : Int) - 1))) (bits .or .u8 (rd y1 (wr .i64 (((y1).length : Int) - 1))) 128)).length : Int) then (if 0 ≤ (wr .i64 (8 * (Int.tmod (Int.tmod y12 136) 8))) then (if ((Int.tmod y12 136) == 135) = true then ((smithyref05_Turn.f k (y13.set (Int.toNat (wr .i64 (Int.tdiv (Int.tmod y12 136) 8))) (bits .xor .u64 (rd y13 (wr .i64 (Int.tdiv (Int.tmod y12 136) 8))) (shl .u64 (wr .u64 (rd (y1.set (Int.toNat (wr .i64 (((y1).length : Int) - 1))) (bits .or .u8 (rd y1 (wr .i64 (((y1).length : Int) - 1))) 128)) y12)) (min (Int.toNat (wr .i64 (8 * (Int.tmod (Int.tmod y12 136) 8)))) 64))))).bind fun t1 => (smithyref05_Sum.j4 y12 rec2 t1)) else (smithyref05_Sum.j4 y12 rec2 (y13.set (Int.toNat (wr .i64 (Int.tdiv (Int.tmod y12 136) 8))) (bits .xor .u64 (rd y13 (wr .i64 (Int.tdiv (Int.tmod y12 136) 8))) (shl .u64 (wr .u64 (rd (y1.set (Int.toNat (wr .i64 (((y1).length : Int) - 1))) (bits .or .u8 (rd y1 (wr .i64 (((y1).length : Int) - 1))) 128)) y12)) (min (Int.toNat (wr .i64 (8 * (Int.tmod (Int.tmod y12 136) 8)))) 64)))))) else none) else none) else none) else (smithyref05_Sum.j2 k y13)
def smithyref05_Sum.l2 (k : Nat) (y1 : List Int) : Nat → Int → (List Int) → Option (List Int)
  | 0, _, _ => none
  | q + 1, y12, y13 => smithyref05_Sum.b2 k y1 (smithyref05_Sum.l2 k y1 q) y12 y13
def smithyref05_Sum.j1 (k : Nat) (y1 : List Int) : Option (List Int) := if 0 ≤ (wr .i64 (((y1).length : Int) - 1)) ∧ (wr .i64 (((y1).length : Int) - 1)) < ((y1).length : Int) then (smithyref05_Sum.l2 k y1 k 0 [0, 0, 0, 0, 0, 0, 0, 0, 0, 0, 0, 0, 0, 0, 0, 0, 0, 0, 0, 0, 0, 0, 0, 0, 0]) else none
def smithyref05_Sum.b3 (k : Nat) (rec3 : (List Int) → Option (List Int)) (y16 : List Int) : Option (List Int) := if ((Int.tmod ((y16).length : Int) 136) != 0) = true then (if ((y16).length + ([0]).length) * 1 ≤ 140737488355328 then (rec3 (y16 ++ [0])) else none) else (smithyref05_Sum.j1 k y16)
def smithyref05_Sum.l3 (k : Nat) : Nat → (List Int) → Option (List Int)
  | 0, _ => none
  | q + 1, y16 => smithyref05_Sum.b3 k (smithyref05_Sum.l3 k q) y16
def smithyref05_Sum.f (k : Nat) (x1 : List Int) : Option (List Int) := if ((([] : List Int)).length + (x1).length) * 1 ≤ 140737488355328 then (if ((([] : List Int) ++ x1).length + ([1]).length) * 1 ≤ 140737488355328 then (smithyref05_Sum.l3 k k ((([] : List Int) ++ x1) ++ [1])) else none) else none
theorem smithyref05_Sum.ok (k : Nat) (x1 : List Int) (ch_x1 : Option Addr × Nat) (r : List Int) (h0 : smithyref05_Sum.f k x1 = some r) (mi : Mem) (w0 : World) : okL mi [(.sl ch_x1.1 (x1).length ch_x1.2 (RdS (Ty.int .u8) ch_x1.1 x1))] → Frz mi w0 → Calls Tryd.prog 23 (([(.sl ch_x1.1 (x1).length ch_x1.2 (RdS (Ty.int .u8) ch_x1.1 x1))] : List D).map D.val).toArray w0 (Ret mi (.agg [.ints .u8 r 32]) w0) := by
  intro ok hm
  delta smithyref05_Sum.f at h0
  refine c_enter (n := 83) [(.sl ch_x1.1 (x1).length ch_x1.2 (RdS (Ty.int .u8) ch_x1.1 x1))] (l := [(0, (.sl ch_x1.1 (x1).length ch_x1.2 (RdS (Ty.int .u8) ch_x1.1 x1)))]) Tryd.func23 rfl rfl rfl rfl ok hm ?_
  clear ok hm
  intro a S
  refine c_region ?_
  refine s_alloc S Z40 rfl ⟨rfl, trivial⟩ rfl ?_; clear S a; intro g1 a w S
  refine c_end ?_
  refine c_region ?_
  refine s_bldSl S (ty' := (Ty.int .u8)) (ds := []) (z := 0) (c0 := ()) (ys := ([] : List Int)) (cs := []) rfl Tryd.underlying27 J5 Z5 rfl ⟨rfl, trivial⟩ rfl rfl rfl rfl rfl rfl ?_; clear S a w; intro g2 a w S
  refine s_assign S rfl rfl ?_; clear S a; intro a S
  refine c_end ?_
  refine c_region ?_
  refine s_move S rfl rfl ?_; clear S a; intro a S
  refine s_move S rfl rfl ?_; clear S a; intro a S
  obtain ⟨c1, h1⟩ := chk_of h0; clear h0
  refine s_app S (k2 := ((x1).length)) (ys := x1) rfl (fun _ _ => .here) rfl rfl rfl (RdS.src (S.get 11 (.sl ch_x1.1 (x1).length ch_x1.2 (RdS (Ty.int .u8) ch_x1.1 x1)) rfl).2.2.2.1 (by decide) S.frz) Tryd.underlying27 J5 c1 rfl ?_; clear S a w; intro A1 cp1 a w S
  refine s_assign S rfl rfl ?_; clear S a; intro a S
  refine c_end ?_
  refine c_region ?_
  refine s_move S rfl rfl ?_; clear S a; intro a S
  refine s_bldSl S (ty' := (Ty.int .u8)) (ds := [(0, (.v (.int .u8 1)))]) (z := 0) (c0 := ()) (ys := [1]) (cs := [()]) rfl Tryd.underlying27 J5 Z5 rfl ⟨rfl, trivial⟩ rfl rfl rfl rfl rfl rfl ?_; clear S a w; intro g3 a w S
  obtain ⟨c2, h2⟩ := chk_of h1; clear h1
  refine s_app S (k2 := 1) (ys := [1]) rfl (fun _ _ => (.there .here)) rfl rfl (S.holds _ (Pull.mem .here).1).1 (Res.row.src (S.holds _ (Pull.mem .here).1)) Tryd.underlying27 J5 c2 rfl ?_; clear S a w; intro A2 cp2 a w S
  refine s_assign S rfl rfl ?_; clear S a; intro a S
  refine c_end ?_
  refine wp_seq_k ?_
  intro K1 hK1
  have j1 : ∀ (m : Mem) (A3 : Option Addr) (nn1 : Nat) (cp3 : Nat) (y1 : List Int) (g4 : Nat) (a : Act) (w : World), St 83 m (B0 mi w0) [(3, (.v (.slice A3 nn1 cp3))), (2, (.v (.pointer (some ⟨g4, 0, none⟩))))] [Res.row (Ty.int .u8) 5 A3 nn1 cp3 y1, Res.cells g4 40 [.ints .u8 [0, 0, 0, 0, 0, 0, 0, 0, 0, 0, 0, 0, 0, 0, 0, 0, 0, 0, 0, 0, 0, 0, 0, 0, 0, 0, 0, 0, 0, 0, 0, 0] 32]] a w → smithyref05_Sum.j1 k y1 = some r → K1 a w := by
    intro m A3 nn1 cp3 y1 g4 a w S h0
    delta smithyref05_Sum.j1 at h0
    refine hK1 a w ?_
    refine c_region ?_
    refine s_move S rfl rfl ?_; clear S a; intro a S
    refine s_move S rfl rfl ?_; clear S a; intro a S
    refine s_lenO S rfl .here Tryd.underlying27 rfl ?_; clear S a; intro a S
    refine s_bin S rfl rfl rfl rfl ?_; clear S a; intro a S
    refine s_move S rfl rfl ?_; clear S a; intro a S
    refine s_move S rfl rfl ?_; clear S a; intro a S
    refine s_lenO S rfl .here Tryd.underlying27 rfl ?_; clear S a; intro a S
    refine s_bin S rfl rfl rfl rfl ?_; clear S a; intro a S
    obtain ⟨c3, h1⟩ := chk_of h0; clear h0
    refine s_iaddrO S (ty' := (Ty.int .u8)) rfl .here rfl Tryd.underlying27 T5 c3.1 c3.2 rfl ?_; clear S a; intro g5 a hA1 S
    refine s_ldR1 S (ty' := (Ty.int .u8)) (i := (wr .i64 (((y1).length : Int) - 1))) (off := 0) (v := (.int .u8 (rd y1 (wr .i64 (((y1).length : Int) - 1))))) rfl hA1 .here T5 c3.1 c3.2 rfl (fun _ => rfl) rfl ?_; clear S a; intro a S
    refine s_bin S rfl rfl rfl rfl ?_; clear S a; intro a S
    refine s_iaddrO S (ty' := (Ty.int .u8)) rfl .here rfl Tryd.underlying27 T5 c3.1 c3.2 rfl ?_; clear S a; intro g6 a hA2 S
    refine s_stR S (ty' := (Ty.int .u8)) (i := (wr .i64 (((y1).length : Int) - 1))) (off := 0) (u := bits .or .u8 (rd y1 (wr .i64 (((y1).length : Int) - 1))) 128) (fun c => ()) rfl rfl rfl hA2 .here T5 c3.1 c3.2 rfl (by decide) rfl (fun _ => rfl) ?_; clear S w; intro w S
    refine c_end ?_
    refine c_region ?_
    refine s_build S (ds := []) (dv := (.agg [.ints .u64 [0, 0, 0, 0, 0, 0, 0, 0, 0, 0, 0, 0, 0, 0, 0, 0, 0, 0, 0, 0, 0, 0, 0, 0, 0] 25])) rfl (fun _ => by kernel_rfl) ⟨rfl, trivial⟩ rfl ?_; clear S a; intro a S
    refine s_alloc S Z62 rfl ⟨rfl, trivial⟩ rfl ?_; clear S a w; intro g7 a w S
    refine s_store S rfl rfl rfl (s' := [.ints .u64 [0, 0, 0, 0, 0, 0, 0, 0, 0, 0, 0, 0, 0, 0, 0, 0, 0, 0, 0, 0, 0, 0, 0, 0, 0] 25]) .here T62 rfl rfl ?_; clear S w; intro w S
    refine c_end ?_
    refine wp_seq_k ?_
    intro K2 hK2
    have j2 : ∀ (m : Mem) (g8 : Nat) (g9 : Nat) (y2 : List Int) (a : Act) (w : World), St 83 m (B0 mi w0) [(4, (.v (.pointer (some ⟨g8, 0, none⟩)))), (2, (.v (.pointer (some ⟨g9, 0, none⟩))))] [Res.cells g8 62 [.ints .u64 y2 25], Res.cells g9 40 [.ints .u8 [0, 0, 0, 0, 0, 0, 0, 0, 0, 0, 0, 0, 0, 0, 0, 0, 0, 0, 0, 0, 0, 0, 0, 0, 0, 0, 0, 0, 0, 0, 0, 0] 32]] a w → smithyref05_Sum.j2 k y2 = some r → K2 a w := by
      intro m g8 g9 y2 a w S h0
      delta smithyref05_Sum.j2 at h0
      refine hK2 a w ?_
      refine c_region ?_
      refine s_build S (ds := []) (dv := (.agg [.ints .u8 [0, 0, 0, 0, 0, 0, 0, 0, 0, 0, 0, 0, 0, 0, 0, 0, 0, 0, 0, 0, 0, 0, 0, 0, 0, 0, 0, 0, 0, 0, 0, 0] 32])) rfl (fun _ => by kernel_rfl) ⟨rfl, trivial⟩ rfl ?_; clear S a; intro a S
      refine s_alloc S Z40 rfl ⟨rfl, trivial⟩ rfl ?_; clear S a w; intro g10 a w S
      refine s_store S rfl rfl rfl (s' := [.ints .u8 [0, 0, 0, 0, 0, 0, 0, 0, 0, 0, 0, 0, 0, 0, 0, 0, 0, 0, 0, 0, 0, 0, 0, 0, 0, 0, 0, 0, 0, 0, 0, 0] 32]) .here T40 rfl rfl ?_; clear S w; intro w S
      refine c_end ?_
      refine wp_seq_k ?_
      intro K3 hK3
      have j3 : ∀ (m : Mem) (g11 : Nat) (g12 : Nat) (y3 : List Int) (a : Act) (w : World), St 83 m (B0 mi w0) [(7, (.v (.pointer (some ⟨g11, 0, none⟩)))), (2, (.v (.pointer (some ⟨g12, 0, none⟩))))] [Res.cells g11 40 [.ints .u8 y3 32], Res.cells g12 40 [.ints .u8 [0, 0, 0, 0, 0, 0, 0, 0, 0, 0, 0, 0, 0, 0, 0, 0, 0, 0, 0, 0, 0, 0, 0, 0, 0, 0, 0, 0, 0, 0, 0, 0] 32]] a w → smithyref05_Sum.j3 y3 = some r → K3 a w := by
        intro m g11 g12 y3 a w S h0
        delta smithyref05_Sum.j3 at h0
        refine hK3 a w ?_
        refine c_region ?_
        refine s_loada S rfl .here T40 (s' := [.ints .u8 y3 32]) rfl rfl ?_; clear S a; intro a S
        refine s_store S rfl rfl rfl (s' := [.ints .u8 y3 32]) (.there .here) T40 rfl rfl ?_; clear S w; intro w S
        refine c_end ?_
        refine wp_ret ?_
        obtain rfl := Option.some.inj h0
        exact b_ret1 (d := (.agg [.ints .u8 y3 32])) S rfl (resD_cell rfl (.there .here) T40 rfl rfl) fun ok => ⟨rfl, ok, S.below0⟩
      refine c_region ?_
      refine s_assign S rfl rfl ?_; clear S a; intro a S
      refine c_end ?_
      refine wp_block ?_
      refine c_loop (fun q1 a w => ∃ (m : Mem) (y6 : Int) (g19 : Nat) (g20 : Nat) (g21 : Nat) (y7 : List Int), St 83 m (B0 mi w0) [(8, (.v (.int .i64 y6))), (7, (.v (.pointer (some ⟨g19, 0, none⟩)))), (4, (.v (.pointer (some ⟨g20, 0, none⟩)))), (2, (.v (.pointer (some ⟨g21, 0, none⟩))))] [Res.cells g19 40 [.ints .u8 y7 32], Res.cells g20 62 [.ints .u64 y2 25], Res.cells g21 40 [.ints .u8 [0, 0, 0, 0, 0, 0, 0, 0, 0, 0, 0, 0, 0, 0, 0, 0, 0, 0, 0, 0, 0, 0, 0, 0, 0, 0, 0, 0, 0, 0, 0, 0] 32]] a w ∧ smithyref05_Sum.l1 y2 q1 y6 y7 = some r) ?_ ?_ (k := k) ⟨_, 0, g10, g8, g9, [0, 0, 0, 0, 0, 0, 0, 0, 0, 0, 0, 0, 0, 0, 0, 0, 0, 0, 0, 0, 0, 0, 0, 0, 0, 0, 0, 0, 0, 0, 0, 0], (S.sub ⟨rfl, rfl, rfl, rfl, trivial⟩ (.cons .here (.cons .here (.cons .here .nil)))), h0⟩
      · rintro a w ⟨m, y6, g19, g20, g21, y7, S, h0⟩
        exact (nomatch (show (none : Option (List Int)) = some r from h0))
      · clear S h0
        rintro q1 a w ⟨m, y6, g19, g20, g21, y7, S, h0⟩
        replace h0 : smithyref05_Sum.b1 y2 (smithyref05_Sum.l1 y2 q1) y6 y7 = some r := h0
        delta smithyref05_Sum.b1 at h0
        refine wp_seq ?_
        refine c_region ?_
        refine s_move S rfl rfl ?_; clear S a; intro a S
        refine s_bin S rfl rfl rfl rfl ?_; clear S a; intro a S
        refine c_end ?_
        rcases ite_of h0 with ⟨c4, h1⟩ | ⟨c4, h1⟩ <;> clear h0
        · refine c_condT S rfl c4 ?_
          refine wp_skip ?_
          refine x_thenN ?_
          refine wp_seq ?_
          refine wp_block ?_
          refine c_region' ?_
          refine s_move S rfl rfl ?_; clear S a; intro a S
          refine s_move S rfl rfl ?_; clear S a; intro a S
          refine s_quo S rfl rfl (by decide) rfl ?_; clear S a; intro a S
          obtain ⟨c5, h2⟩ := chk_of h1; clear h1
          refine s_iaddr S rfl rfl Tryd.underlying62 T24 c5.1 c5.2 (mul1 _ _) rfl ?_; clear S a; intro a S
          refine s_loadi S (i := (wr .i64 (Int.tdiv y6 8))) rfl (.there .here) T24 .here rfl c5.1 c5.2 rfl ?_; clear S a; intro a S
          refine s_move S rfl rfl ?_; clear S a; intro a S
          refine s_rem S rfl rfl (by decide) rfl ?_; clear S a; intro a S
          refine s_bin S rfl rfl rfl rfl ?_; clear S a; intro a S
          obtain ⟨c6, h3⟩ := chk_of h2; clear h2
          refine s_shr S (e := (min (Int.toNat (wr .i64 (8 * (Int.tmod y6 8)))) 64)) rfl rfl c6 rfl rfl ?_; clear S a; intro a S
          refine s_rem S rfl rfl (by decide) rfl ?_; clear S a; intro a S
          refine s_conv S rfl rfl Tryd.underlying5 rfl ?_; clear S a; intro a S
          obtain ⟨c7, h4⟩ := chk_of h3; clear h3
          refine s_iaddr S rfl rfl Tryd.underlying40 T5 c7.1 c7.2 (mul1 _ _) rfl ?_; clear S a; intro a S
          refine s_storei S (i := y6) rfl rfl .here T5 .here rfl c7.1 c7.2 ?_; clear S w; intro w S
          refine c_end' ?_
          refine x_blockN ?_
          refine x_thenN ?_
          refine c_region' ?_
          refine s_move S rfl rfl ?_; clear S a; intro a S
          refine s_bin S rfl rfl rfl rfl ?_; clear S a; intro a S
          refine s_assign S rfl rfl ?_; clear S a; intro a S
          refine c_end' ?_
          refine x_thenN ?_
          exact ⟨_, (wr .i64 (y6 + 1)), g19, g20, g21, (y7.set (Int.toNat y6) (wr .u8 (Int.tmod (shr (rd y2 (wr .i64 (Int.tdiv y6 8))) (min (Int.toNat (wr .i64 (8 * (Int.tmod y6 8)))) 64)) 256))), (S.sub ⟨rfl, rfl, rfl, rfl, trivial⟩ (.cons .here (.cons .here (.cons .here .nil)))), h4⟩
        · refine c_condF S rfl c4 ?_
          refine wp_exit ?_
          refine x_thenX ?_
          refine x_thenX ?_
          refine x_blockX ?_
          refine x_thenN ?_
          exact j3 _ g19 g21 y7 a w (S.sub ⟨rfl, rfl, trivial⟩ (.cons .here (.cons (.there .here) .nil))) h1
    refine c_region ?_
    refine s_assign S rfl rfl ?_; clear S a; intro a S
    refine c_end ?_
    refine wp_block ?_
    refine c_loop (fun q2 a w => ∃ (m : Mem) (y12 : Int) (g30 : Nat) (g31 : Nat) (y13 : List Int), St 83 m (B0 mi w0) [(5, (.v (.int .i64 y12))), (4, (.v (.pointer (some ⟨g30, 0, none⟩)))), (3, (.v (.slice A3 nn1 cp3))), (2, (.v (.pointer (some ⟨g31, 0, none⟩))))] [Res.cells g30 62 [.ints .u64 y13 25], Res.row (Ty.int .u8) 5 A3 nn1 cp3 (y1.set (Int.toNat (wr .i64 (((y1).length : Int) - 1))) (bits .or .u8 (rd y1 (wr .i64 (((y1).length : Int) - 1))) 128)), Res.cells g31 40 [.ints .u8 [0, 0, 0, 0, 0, 0, 0, 0, 0, 0, 0, 0, 0, 0, 0, 0, 0, 0, 0, 0, 0, 0, 0, 0, 0, 0, 0, 0, 0, 0, 0, 0] 32]] a w ∧ smithyref05_Sum.l2 k y1 q2 y12 y13 = some r) ?_ ?_ (k := k) ⟨_, 0, g7, g4, [0, 0, 0, 0, 0, 0, 0, 0, 0, 0, 0, 0, 0, 0, 0, 0, 0, 0, 0, 0, 0, 0, 0, 0, 0], (S.sub ⟨rfl, rfl, rfl, rfl, trivial⟩ (.cons .here (.cons .here (.cons .here .nil)))), h1⟩
    · rintro a w ⟨m, y12, g30, g31, y13, S, h0⟩
      exact (nomatch (show (none : Option (List Int)) = some r from h0))
    · clear S h1
      rintro q2 a w ⟨m, y12, g30, g31, y13, S, h0⟩
      replace h0 : smithyref05_Sum.b2 k y1 (smithyref05_Sum.l2 k y1 q2) y12 y13 = some r := h0
      delta smithyref05_Sum.b2 at h0
      refine wp_seq ?_
      refine c_region ?_
      refine s_move S rfl rfl ?_; clear S a; intro a S
      refine s_move S rfl rfl ?_; clear S a; intro a S
      refine s_lenO S rfl (.there .here) Tryd.underlying27 rfl ?_; clear S a; intro a S
      refine s_bin S rfl rfl rfl rfl ?_; clear S a; intro a S
      refine c_end ?_
      rcases ite_of h0 with ⟨c8, h1⟩ | ⟨c8, h1⟩ <;> clear h0
      · refine c_condT S rfl c8 ?_
        refine wp_skip ?_
        refine x_thenN ?_
        refine wp_seq_k ?_
        intro K4 hK4
        have j4 : ∀ (m : Mem) (g32 : Nat) (g33 : Nat) (y14 : List Int) (a : Act) (w : World), St 83 m (B0 mi w0) [(5, (.v (.int .i64 y12))), (4, (.v (.pointer (some ⟨g32, 0, none⟩)))), (3, (.v (.slice A3 nn1 cp3))), (2, (.v (.pointer (some ⟨g33, 0, none⟩))))] [Res.cells g32 62 [.ints .u64 y14 25], Res.row (Ty.int .u8) 5 A3 nn1 cp3 (y1.set (Int.toNat (wr .i64 (((y1).length : Int) - 1))) (bits .or .u8 (rd y1 (wr .i64 (((y1).length : Int) - 1))) 128)), Res.cells g33 40 [.ints .u8 [0, 0, 0, 0, 0, 0, 0, 0, 0, 0, 0, 0, 0, 0, 0, 0, 0, 0, 0, 0, 0, 0, 0, 0, 0, 0, 0, 0, 0, 0, 0, 0] 32]] a w → smithyref05_Sum.j4 y12 (smithyref05_Sum.l2 k y1 q2) y14 = some r → K4 a w := by
          intro m g32 g33 y14 a w S h0
          delta smithyref05_Sum.j4 at h0
          refine hK4 a w ?_
          refine c_region' ?_
          refine s_move S rfl rfl ?_; clear S a; intro a S
          refine s_bin S rfl rfl rfl rfl ?_; clear S a; intro a S
          refine s_assign S rfl rfl ?_; clear S a; intro a S
          refine c_end' ?_
          refine x_thenN ?_
          exact ⟨_, (wr .i64 (y12 + 1)), g32, g33, y14, (S.sub ⟨rfl, rfl, rfl, rfl, trivial⟩ (.cons .here (.cons .here (.cons .here .nil)))), h0⟩
        refine wp_block ?_
        refine c_region ?_
        refine s_move S rfl rfl ?_; clear S a; intro a S
        refine s_rem S rfl rfl (by decide) rfl ?_; clear S a; intro a S
        refine s_assign S rfl rfl ?_; clear S a; intro a S
        refine c_end ?_
        refine wp_seq (c_heldS S (.take 0 (.take 1 (.take 2 (.take 3 (.take 4 (.take 5 (.take 6 (.take 7 (.take 11 (.take 12 (.take 13 (.alts (.run 8 true (.alts (.run 9 true (.take 10 (.take 14 (.take 15 (.take 16 (.alts (.run 17 false .done .nil)))))) .nil)) .nil))))))))))))) 17 [Res.cells g30 62 [.ints .u64 y13 25], Res.cells g31 40 [.ints .u8 [0, 0, 0, 0, 0, 0, 0, 0, 0, 0, 0, 0, 0, 0, 0, 0, 0, 0, 0, 0, 0, 0, 0, 0, 0, 0, 0, 0, 0, 0, 0, 0] 32]] (.cons .here (.cons (.there .here) .nil)) ⟨Res.stay_cells, Res.stay_cells, trivial⟩ [(6, (.v (.int .i64 (Int.tmod y12 136)))), (5, (.v (.int .i64 y12))), (4, (.v (.pointer (some ⟨g30, 0, none⟩)))), (3, (.v (.slice A3 nn1 cp3)))] ⟨rfl, rfl, rfl, rfl, trivial⟩ (by kernel_rfl) (by kernel_rfl) ?_); clear S; intro w S CL hw le
        refine h_move S CL hw le ⟨rfl, rfl, rfl, rfl, trivial⟩ rfl rfl rfl trivial ?_; clear S CL a; intro a S CL
        refine h_quo S CL hw le ⟨rfl, rfl, rfl, rfl, rfl, trivial⟩ rfl rfl (by decide) rfl rfl trivial ?_; clear S CL a; intro a S CL
        refine h_move S CL hw le ⟨rfl, rfl, rfl, rfl, rfl, rfl, trivial⟩ rfl rfl rfl trivial ?_; clear S CL a; intro a S CL
        refine h_quo S CL hw le ⟨rfl, rfl, rfl, rfl, rfl, rfl, rfl, trivial⟩ rfl rfl (by decide) rfl rfl trivial ?_; clear S CL a; intro a S CL
        obtain ⟨c9, h2⟩ := chk_of h1; clear h1
        refine h_iaddr S CL hw le ⟨rfl, rfl, rfl, rfl, rfl, rfl, rfl, rfl, trivial⟩ rfl rfl Tryd.underlying62 T24 c9.1 c9.2 (mul1 _ _) rfl rfl trivial ?_; clear S CL a; intro a S CL
        refine h_loadi S CL hw le ⟨rfl, rfl, rfl, rfl, rfl, rfl, rfl, rfl, rfl, trivial⟩ (i := (wr .i64 (Int.tdiv (Int.tmod y12 136) 8))) rfl .here T24 .here rfl c9.1 c9.2 rfl rfl trivial ?_; clear S CL a; intro a S CL
        refine h_move S CL hw le ⟨rfl, rfl, rfl, rfl, rfl, rfl, rfl, rfl, rfl, rfl, trivial⟩ rfl rfl rfl trivial ?_; clear S CL a; intro a S CL
        refine h_move S CL hw le ⟨rfl, rfl, rfl, rfl, rfl, rfl, rfl, rfl, rfl, rfl, rfl, trivial⟩ rfl rfl rfl trivial ?_; clear S CL a; intro a S CL
        refine h_move S CL hw le ⟨rfl, rfl, rfl, rfl, rfl, rfl, rfl, rfl, rfl, rfl, rfl, rfl, trivial⟩ rfl rfl rfl trivial ?_; clear S CL a; intro a S CL
        refine h_rem S CL hw le ⟨rfl, rfl, rfl, rfl, rfl, rfl, rfl, rfl, rfl, rfl, rfl, rfl, rfl, trivial⟩ rfl rfl (by decide) rfl rfl trivial ?_; clear S CL a; intro a S CL
        refine h_bin S CL hw le ⟨rfl, rfl, rfl, rfl, rfl, rfl, rfl, rfl, rfl, rfl, rfl, rfl, rfl, rfl, trivial⟩ rfl rfl rfl rfl rfl trivial ?_; clear S CL a; intro a S CL
        refine h_run' S rfl trivial ?_
        obtain ⟨c10, h3⟩ := chk_of h2; clear h2
        refine s_iaddrO S (ty' := (Ty.int .u8)) rfl (.there .here) rfl Tryd.underlying27 T5 c10.1 c10.2 rfl ?_; clear S a; intro g34 a hA3 S
        replace hw := CL.again hw S (.cons .here (.cons (.there .here) .nil)) le
        refine h_back ⟨fun _ => hw, ?_⟩
        refine h_run' S rfl trivial ?_
        refine s_ldR1 S (ty' := (Ty.int .u8)) (i := y12) (off := 0) (v := (.int .u8 (rd (y1.set (Int.toNat (wr .i64 (((y1).length : Int) - 1))) (bits .or .u8 (rd y1 (wr .i64 (((y1).length : Int) - 1))) 128)) y12))) rfl hA3 (.there .here) T5 c10.1 c10.2 rfl (fun _ => rfl) rfl ?_; clear S a; intro a S
        replace hw := CL.again hw S (.cons .here (.cons (.there .here) .nil)) le
        refine h_back ⟨fun _ => hw, ?_⟩
        replace CL := CL.add (t := 53) (d := (.v (.int .u8 (rd (y1.set (Int.toNat (wr .i64 (((y1).length : Int) - 1))) (bits .or .u8 (rd y1 (wr .i64 (((y1).length : Int) - 1))) 128)) y12)))) S rfl rfl
        refine h_conv S CL hw le ⟨rfl, rfl, rfl, rfl, rfl, rfl, rfl, rfl, rfl, rfl, rfl, rfl, rfl, rfl, rfl, rfl, trivial⟩ rfl rfl Tryd.underlying24 rfl rfl trivial ?_; clear S CL a; intro a S CL
        obtain ⟨c11, h4⟩ := chk_of h3; clear h3
        refine h_shl S CL hw le ⟨rfl, rfl, rfl, rfl, rfl, rfl, rfl, rfl, rfl, rfl, rfl, rfl, rfl, rfl, rfl, rfl, rfl, trivial⟩ (e := (min (Int.toNat (wr .i64 (8 * (Int.tmod (Int.tmod y12 136) 8)))) 64)) rfl rfl c11 rfl rfl rfl trivial ?_; clear S CL a; intro a S CL
        refine h_bin S CL hw le ⟨rfl, rfl, rfl, rfl, rfl, rfl, rfl, rfl, rfl, rfl, rfl, rfl, rfl, rfl, rfl, rfl, rfl, rfl, trivial⟩ rfl rfl rfl rfl rfl trivial ?_; clear S CL a; intro a S CL
        refine h_iaddr S CL hw le ⟨rfl, rfl, rfl, rfl, rfl, rfl, rfl, rfl, rfl, rfl, rfl, rfl, rfl, rfl, rfl, rfl, rfl, rfl, rfl, trivial⟩ rfl rfl Tryd.underlying62 T24 c9.1 c9.2 (mul1 _ _) rfl rfl trivial ?_; clear S CL a; intro a S CL
        refine h_run' S rfl trivial ?_
        refine s_storei S (i := (wr .i64 (Int.tdiv (Int.tmod y12 136) 8))) rfl rfl .here T24 .here rfl c9.1 c9.2 ?_; clear S; intro w S
        refine h_back ⟨fun h => (nomatch h), ?_⟩
        refine h_done ?_; clear CL hw le
        refine x_thenN ?_
        refine c_region ?_
        refine s_move S rfl rfl ?_; clear S a; intro a S
        refine s_bin S rfl rfl rfl rfl ?_; clear S a; intro a S
        refine c_end ?_
        rcases ite_of h4 with ⟨c12, h5⟩ | ⟨c12, h5⟩ <;> clear h4
        · refine c_condT S rfl c12 ?_
          refine c_region' ?_
          refine s_loada S rfl .here T62 (s' := [.ints .u64 (y13.set (Int.toNat (wr .i64 (Int.tdiv (Int.tmod y12 136) 8))) (bits .xor .u64 (rd y13 (wr .i64 (Int.tdiv (Int.tmod y12 136) 8))) (shl .u64 (wr .u64 (rd (y1.set (Int.toNat (wr .i64 (((y1).length : Int) - 1))) (bits .or .u8 (rd y1 (wr .i64 (((y1).length : Int) - 1))) 128)) y12)) (min (Int.toNat (wr .i64 (8 * (Int.tmod (Int.tmod y12 136) 8)))) 64)))) 25]) rfl rfl ?_; clear S a; intro a S
          obtain ⟨t1, et1, h6⟩ := bind_of h5; clear h5
          refine s_call S (ds := [(.agg [.ints .u64 (y13.set (Int.toNat (wr .i64 (Int.tdiv (Int.tmod y12 136) 8))) (bits .xor .u64 (rd y13 (wr .i64 (Int.tdiv (Int.tmod y12 136) 8))) (shl .u64 (wr .u64 (rd (y1.set (Int.toNat (wr .i64 (((y1).length : Int) - 1))) (bits .or .u8 (rd y1 (wr .i64 (((y1).length : Int) - 1))) 128)) y12)) (min (Int.toNat (wr .i64 (8 * (Int.tmod (Int.tmod y12 136) 8)))) 64)))) 25])]) (d := (.agg [.ints .u64 t1 25])) N37 rfl rfl (smithyref05_Turn.ok k (y13.set (Int.toNat (wr .i64 (Int.tdiv (Int.tmod y12 136) 8))) (bits .xor .u64 (rd y13 (wr .i64 (Int.tdiv (Int.tmod y12 136) 8))) (shl .u64 (wr .u64 (rd (y1.set (Int.toNat (wr .i64 (((y1).length : Int) - 1))) (bits .or .u8 (rd y1 (wr .i64 (((y1).length : Int) - 1))) 128)) y12)) (min (Int.toNat (wr .i64 (8 * (Int.tmod (Int.tmod y12 136) 8)))) 64)))) t1 et1 _ _) ?_; clear S a w; intro a w S
          refine s_store S rfl rfl rfl (s' := [.ints .u64 t1 25]) .here T62 rfl rfl ?_; clear S w; intro w S
          refine c_end' ?_
          refine x_blockN ?_
          refine x_thenN ?_
          exact j4 _ g30 g31 t1 a w (S.sub ⟨rfl, rfl, rfl, rfl, trivial⟩ (.cons .here (.cons .here (.cons .here .nil)))) h6
        · refine c_condF S rfl c12 ?_
          refine wp_skip ?_
          refine x_blockN ?_
          refine x_thenN ?_
          exact j4 _ g30 g31 (y13.set (Int.toNat (wr .i64 (Int.tdiv (Int.tmod y12 136) 8))) (bits .xor .u64 (rd y13 (wr .i64 (Int.tdiv (Int.tmod y12 136) 8))) (shl .u64 (wr .u64 (rd (y1.set (Int.toNat (wr .i64 (((y1).length : Int) - 1))) (bits .or .u8 (rd y1 (wr .i64 (((y1).length : Int) - 1))) 128)) y12)) (min (Int.toNat (wr .i64 (8 * (Int.tmod (Int.tmod y12 136) 8)))) 64)))) a w (S.sub ⟨rfl, rfl, rfl, rfl, trivial⟩ (.cons .here (.cons .here (.cons .here .nil)))) h5
      · refine c_condF S rfl c8 ?_
        refine wp_exit ?_
        refine x_thenX ?_
        refine x_thenX ?_
        refine x_blockX ?_
        refine x_thenN ?_
        exact j2 _ g30 g31 y13 a w (S.sub ⟨rfl, rfl, trivial⟩ (.cons .here (.cons (.there .here) .nil))) h1
  refine wp_block ?_
  refine c_loop (fun q3 a w => ∃ (m : Mem) (A4 : Option Addr) (nn3 : Nat) (cp8 : Nat) (y16 : List Int) (g39 : Nat), St 83 m (B0 mi w0) [(3, (.v (.slice A4 nn3 cp8))), (2, (.v (.pointer (some ⟨g39, 0, none⟩))))] [Res.row (Ty.int .u8) 5 A4 nn3 cp8 y16, Res.cells g39 40 [.ints .u8 [0, 0, 0, 0, 0, 0, 0, 0, 0, 0, 0, 0, 0, 0, 0, 0, 0, 0, 0, 0, 0, 0, 0, 0, 0, 0, 0, 0, 0, 0, 0, 0] 32]] a w ∧ smithyref05_Sum.l3 k q3 y16 = some r) ?_ ?_ (k := k) ⟨_, A2, ((0 + ((x1).length)) + 1), cp2, ((([] : List Int) ++ x1) ++ [1]), g1, (S.sub ⟨rfl, rfl, trivial⟩ (.cons (.there .here) (.cons (.there .here) .nil))), h2⟩
  · rintro a w ⟨m, A4, nn3, cp8, y16, g39, S, h0⟩
    exact (nomatch (show (none : Option (List Int)) = some r from h0))
  · clear S h2
    rintro q3 a w ⟨m, A4, nn3, cp8, y16, g39, S, h0⟩
    replace h0 : smithyref05_Sum.b3 k (smithyref05_Sum.l3 k q3) y16 = some r := h0
    delta smithyref05_Sum.b3 at h0
    refine wp_seq ?_
    refine c_region ?_
    refine s_move S rfl rfl ?_; clear S a; intro a S
    refine s_lenO S rfl .here Tryd.underlying27 rfl ?_; clear S a; intro a S
    refine s_rem S rfl rfl (by decide) rfl ?_; clear S a; intro a S
    refine s_bin S rfl rfl rfl rfl ?_; clear S a; intro a S
    refine c_end ?_
    rcases ite_of h0 with ⟨c13, h1⟩ | ⟨c13, h1⟩ <;> clear h0
    · refine c_condT S rfl c13 ?_
      refine wp_skip ?_
      refine x_thenN ?_
      refine wp_block ?_
      refine c_region' ?_
      refine s_move S rfl rfl ?_; clear S a; intro a S
      refine s_bldSl S (ty' := (Ty.int .u8)) (ds := [(0, (.v (.int .u8 0)))]) (z := 0) (c0 := ()) (ys := [0]) (cs := [()]) rfl Tryd.underlying27 J5 Z5 rfl ⟨rfl, trivial⟩ rfl rfl rfl rfl rfl rfl ?_; clear S a w; intro g40 a w S
      obtain ⟨c14, h2⟩ := chk_of h1; clear h1
      refine s_app S (k2 := 1) (ys := [0]) rfl (fun _ _ => (.there .here)) rfl rfl (S.holds _ (Pull.mem .here).1).1 (Res.row.src (S.holds _ (Pull.mem .here).1)) Tryd.underlying27 J5 c14 rfl ?_; clear S a w; intro A5 cp9 a w S
      refine s_assign S rfl rfl ?_; clear S a; intro a S
      refine c_end' ?_
      refine x_blockN ?_
      refine x_thenN ?_
      exact ⟨_, A5, (nn3 + 1), cp9, (y16 ++ [0]), g39, (S.sub ⟨rfl, rfl, trivial⟩ (.cons (.there .here) (.cons (.there .here) .nil))), h2⟩
    · refine c_condF S rfl c13 ?_
      refine wp_exit ?_
      refine x_thenX ?_
      refine x_thenX ?_
      refine x_blockX ?_
      refine x_thenN ?_
      exact j1 _ A4 nn3 cp8 y16 g39 a w (S.sub ⟨rfl, rfl, trivial⟩ (.cons .here (.cons .here .nil))) h1
/-! smithy/smithyref01.Of -/
def smithyref01_Of.j1 (y1 : List Int) : Option (List Int) := some y1
def smithyref01_Of.b1 (x1 : List Int) (rec1 : Int → (List Int) → Option (List Int)) (y4 : Int) (y5 : List Int) : Option (List Int) := if (decide (y4 < 32)) = true then (if 0 ≤ (wr .i64 (Int.tdiv y4 8)) ∧ (wr .i64 (Int.tdiv y4 8)) < 4 then (if 0 ≤ (wr .i64 (8 * (Int.tmod y4 8))) then (if 0 ≤ y4 ∧ y4 < 32 then (rec1 (wr .i64 (y4 + 1)) (y5.set (Int.toNat y4) (wr .i64 (Int.tmod (shr (rd x1 (wr .i64 (Int.tdiv y4 8))) (min (Int.toNat (wr .i64 (8 * (Int.tmod y4 8)))) 64)) 256)))) else none) else none) else none) else (smithyref01_Of.j1 y5)
def smithyref01_Of.l1 (x1 : List Int) : Nat → Int → (List Int) → Option (List Int)
  | 0, _, _ => none
  | q + 1, y4, y5 => smithyref01_Of.b1 x1 (smithyref01_Of.l1 x1 q) y4 y5
def smithyref01_Of.f (k : Nat) (x1 : List Int) : Option (List Int) := smithyref01_Of.l1 x1 k 0 [0, 0, 0, 0, 0, 0, 0, 0, 0, 0, 0, 0, 0, 0, 0, 0, 0, 0, 0, 0, 0, 0, 0, 0, 0, 0, 0, 0, 0, 0, 0, 0]
theorem smithyref01_Of.ok (k : Nat) (x1 : List Int) (r : List Int) (h0 : smithyref01_Of.f k x1 = some r) (mi : Mem) (w0 : World) : okL mi [(.agg [.ints .u64 x1 4])] → Frz mi w0 → Calls Tryd.prog 24 (([(.agg [.ints .u64 x1 4])] : List D).map D.val).toArray w0 (Ret mi (.agg [.ints .i64 r 32]) w0) := by
  intro ok hm
  delta smithyref01_Of.f at h0
  refine c_enter (n := 23) [(.agg [.ints .u64 x1 4])] (l := [(0, (.agg [.ints .u64 x1 4]))]) Tryd.func24 rfl rfl rfl rfl ok hm ?_
  clear ok hm
  intro a S
  refine c_region ?_
  refine s_box S rfl rfl rfl ?_; clear S a; intro g1 a w S
  refine s_alloc S Z45 rfl ⟨rfl, trivial⟩ rfl ?_; clear S a w; intro g2 a w S
  refine c_end ?_
  refine c_region ?_
  refine s_build S (ds := []) (dv := (.agg [.ints .i64 [0, 0, 0, 0, 0, 0, 0, 0, 0, 0, 0, 0, 0, 0, 0, 0, 0, 0, 0, 0, 0, 0, 0, 0, 0, 0, 0, 0, 0, 0, 0, 0] 32])) rfl (fun _ => by kernel_rfl) ⟨rfl, trivial⟩ rfl ?_; clear S a; intro a S
  refine s_alloc S Z45 rfl ⟨rfl, trivial⟩ rfl ?_; clear S a w; intro g3 a w S
  refine s_store S rfl rfl rfl (s' := [.ints .i64 [0, 0, 0, 0, 0, 0, 0, 0, 0, 0, 0, 0, 0, 0, 0, 0, 0, 0, 0, 0, 0, 0, 0, 0, 0, 0, 0, 0, 0, 0, 0, 0] 32]) .here T45 rfl rfl ?_; clear S w; intro w S
  refine c_end ?_
  refine wp_seq_k ?_
  intro K1 hK1
  have j1 : ∀ (m : Mem) (g4 : Nat) (g5 : Nat) (y1 : List Int) (a : Act) (w : World), St 23 m (B0 mi w0) [(3, (.v (.pointer (some ⟨g4, 0, none⟩)))), (2, (.v (.pointer (some ⟨g5, 0, none⟩))))] [Res.cells g4 45 [.ints .i64 y1 32], Res.cells g5 45 [.ints .i64 [0, 0, 0, 0, 0, 0, 0, 0, 0, 0, 0, 0, 0, 0, 0, 0, 0, 0, 0, 0, 0, 0, 0, 0, 0, 0, 0, 0, 0, 0, 0, 0] 32]] a w → smithyref01_Of.j1 y1 = some r → K1 a w := by
    intro m g4 g5 y1 a w S h0
    delta smithyref01_Of.j1 at h0
    refine hK1 a w ?_
    refine c_region ?_
    refine s_loada S rfl .here T45 (s' := [.ints .i64 y1 32]) rfl rfl ?_; clear S a; intro a S
    refine s_store S rfl rfl rfl (s' := [.ints .i64 y1 32]) (.there .here) T45 rfl rfl ?_; clear S w; intro w S
    refine c_end ?_
    refine wp_ret ?_
    obtain rfl := Option.some.inj h0
    exact b_ret1 (d := (.agg [.ints .i64 y1 32])) S rfl (resD_cell rfl (.there .here) T45 rfl rfl) fun ok => ⟨rfl, ok, S.below0⟩
  refine c_region ?_
  refine s_assign S rfl rfl ?_; clear S a; intro a S
  refine c_end ?_
  refine wp_block ?_
  refine c_loop (fun q1 a w => ∃ (m : Mem) (y4 : Int) (g12 : Nat) (g13 : Nat) (g14 : Nat) (y5 : List Int), St 23 m (B0 mi w0) [(4, (.v (.int .i64 y4))), (3, (.v (.pointer (some ⟨g12, 0, none⟩)))), (2, (.v (.pointer (some ⟨g13, 0, none⟩)))), (1, (.v (.pointer (some ⟨g14, 0, none⟩))))] [Res.cells g12 45 [.ints .i64 y5 32], Res.cells g13 45 [.ints .i64 [0, 0, 0, 0, 0, 0, 0, 0, 0, 0, 0, 0, 0, 0, 0, 0, 0, 0, 0, 0, 0, 0, 0, 0, 0, 0, 0, 0, 0, 0, 0, 0] 32], Res.cells g14 26 [.ints .u64 x1 4]] a w ∧ smithyref01_Of.l1 x1 q1 y4 y5 = some r) ?_ ?_ (k := k) ⟨_, 0, g3, g2, g1, [0, 0, 0, 0, 0, 0, 0, 0, 0, 0, 0, 0, 0, 0, 0, 0, 0, 0, 0, 0, 0, 0, 0, 0, 0, 0, 0, 0, 0, 0, 0, 0], (S.sub ⟨rfl, rfl, rfl, rfl, trivial⟩ (.cons .here (.cons .here (.cons .here .nil)))), h0⟩
  · rintro a w ⟨m, y4, g12, g13, g14, y5, S, h0⟩
    exact (nomatch (show (none : Option (List Int)) = some r from h0))
  · clear S h0
    rintro q1 a w ⟨m, y4, g12, g13, g14, y5, S, h0⟩
    replace h0 : smithyref01_Of.b1 x1 (smithyref01_Of.l1 x1 q1) y4 y5 = some r := h0
    delta smithyref01_Of.b1 at h0
    refine wp_seq ?_
    refine c_region ?_
    refine s_move S rfl rfl ?_; clear S a; intro a S
    refine s_bin S rfl rfl rfl rfl ?_; clear S a; intro a S
    refine c_end ?_
    rcases ite_of h0 with ⟨c1, h1⟩ | ⟨c1, h1⟩ <;> clear h0
    · refine c_condT S rfl c1 ?_
      refine wp_skip ?_
      refine x_thenN ?_
      refine wp_seq ?_
      refine wp_block ?_
      refine c_region' ?_
      refine s_move S rfl rfl ?_; clear S a; intro a S
      refine s_move S rfl rfl ?_; clear S a; intro a S
      refine s_quo S rfl rfl (by decide) rfl ?_; clear S a; intro a S
      obtain ⟨c2, h2⟩ := chk_of h1; clear h1
      refine s_iaddr S rfl rfl Tryd.underlying26 T24 c2.1 c2.2 (mul1 _ _) rfl ?_; clear S a; intro a S
      refine s_loadi S (i := (wr .i64 (Int.tdiv y4 8))) rfl (.there (.there .here)) T24 .here rfl c2.1 c2.2 rfl ?_; clear S a; intro a S
      refine s_move S rfl rfl ?_; clear S a; intro a S
      refine s_rem S rfl rfl (by decide) rfl ?_; clear S a; intro a S
      refine s_bin S rfl rfl rfl rfl ?_; clear S a; intro a S
      obtain ⟨c3, h3⟩ := chk_of h2; clear h2
      refine s_shr S (e := (min (Int.toNat (wr .i64 (8 * (Int.tmod y4 8)))) 64)) rfl rfl c3 rfl rfl ?_; clear S a; intro a S
      refine s_rem S rfl rfl (by decide) rfl ?_; clear S a; intro a S
      refine s_conv S rfl rfl Tryd.underlying3 rfl ?_; clear S a; intro a S
      obtain ⟨c4, h4⟩ := chk_of h3; clear h3
      refine s_iaddr S rfl rfl Tryd.underlying45 T3 c4.1 c4.2 (mul1 _ _) rfl ?_; clear S a; intro a S
      refine s_storei S (i := y4) rfl rfl .here T3 .here rfl c4.1 c4.2 ?_; clear S w; intro w S
      refine c_end' ?_
      refine x_blockN ?_
      refine x_thenN ?_
      refine c_region' ?_
      refine s_move S rfl rfl ?_; clear S a; intro a S
      refine s_bin S rfl rfl rfl rfl ?_; clear S a; intro a S
      refine s_assign S rfl rfl ?_; clear S a; intro a S
      refine c_end' ?_
      refine x_thenN ?_
      exact ⟨_, (wr .i64 (y4 + 1)), g12, g13, g14, (y5.set (Int.toNat y4) (wr .i64 (Int.tmod (shr (rd x1 (wr .i64 (Int.tdiv y4 8))) (min (Int.toNat (wr .i64 (8 * (Int.tmod y4 8)))) 64)) 256))), (S.sub ⟨rfl, rfl, rfl, rfl, trivial⟩ (.cons .here (.cons .here (.cons .here .nil)))), h4⟩
    · refine c_condF S rfl c1 ?_
      refine wp_exit ?_
      refine x_thenX ?_
      refine x_thenX ?_
      refine x_blockX ?_
      refine x_thenN ?_
      exact j1 _ g12 g13 y5 a w (S.sub ⟨rfl, rfl, trivial⟩ (.cons .here (.cons .here .nil))) h1
/-! (smithy/smithyref01.D).Bytes -/
def smithyref01_D_Bytes.j1 (y1 : List Int) : Option (List Int) := some y1
def smithyref01_D_Bytes.b1 (x1 : List Int) (rec1 : Int → (List Int) → Option (List Int)) (y4 : Int) (y5 : List Int) : Option (List Int) := if (decide (y4 < 32)) = true then (if 0 ≤ y4 ∧ y4 < 32 then (if 0 ≤ (wr .i64 (31 - y4)) ∧ (wr .i64 (31 - y4)) < 32 then (rec1 (wr .i64 (y4 + 1)) (y5.set (Int.toNat (wr .i64 (31 - y4))) (wr .u8 (rd x1 y4)))) else none) else none) else (smithyref01_D_Bytes.j1 y5)
def smithyref01_D_Bytes.l1 (x1 : List Int) : Nat → Int → (List Int) → Option (List Int)
  | 0, _, _ => none
  | q + 1, y4, y5 => smithyref01_D_Bytes.b1 x1 (smithyref01_D_Bytes.l1 x1 q) y4 y5
def smithyref01_D_Bytes.f (k : Nat) (x1 : List Int) : Option (List Int) := smithyref01_D_Bytes.l1 x1 k 0 [0, 0, 0, 0, 0, 0, 0, 0, 0, 0, 0, 0, 0, 0, 0, 0, 0, 0, 0, 0, 0, 0, 0, 0, 0, 0, 0, 0, 0, 0, 0, 0]
theorem smithyref01_D_Bytes.ok (k : Nat) (x1 : List Int) (r : List Int) (h0 : smithyref01_D_Bytes.f k x1 = some r) (mi : Mem) (w0 : World) : okL mi [(.agg [.ints .i64 x1 32])] → Frz mi w0 → Calls Tryd.prog 25 (([(.agg [.ints .i64 x1 32])] : List D).map D.val).toArray w0 (Ret mi (.agg [.ints .u8 r 32]) w0) := by
  intro ok hm
  delta smithyref01_D_Bytes.f at h0
  refine c_enter (n := 18) [(.agg [.ints .i64 x1 32])] (l := [(0, (.agg [.ints .i64 x1 32]))]) Tryd.func25 rfl rfl rfl rfl ok hm ?_
  clear ok hm
  intro a S
  refine c_region ?_
  refine s_box S rfl rfl rfl ?_; clear S a; intro g1 a w S
  refine s_alloc S Z39 rfl ⟨rfl, trivial⟩ rfl ?_; clear S a w; intro g2 a w S
  refine c_end ?_
  refine c_region ?_
  refine s_build S (ds := []) (dv := (.agg [.ints .u8 [0, 0, 0, 0, 0, 0, 0, 0, 0, 0, 0, 0, 0, 0, 0, 0, 0, 0, 0, 0, 0, 0, 0, 0, 0, 0, 0, 0, 0, 0, 0, 0] 32])) rfl (fun _ => by kernel_rfl) ⟨rfl, trivial⟩ rfl ?_; clear S a; intro a S
  refine s_alloc S Z39 rfl ⟨rfl, trivial⟩ rfl ?_; clear S a w; intro g3 a w S
  refine s_store S rfl rfl rfl (s' := [.ints .u8 [0, 0, 0, 0, 0, 0, 0, 0, 0, 0, 0, 0, 0, 0, 0, 0, 0, 0, 0, 0, 0, 0, 0, 0, 0, 0, 0, 0, 0, 0, 0, 0] 32]) .here T39 rfl rfl ?_; clear S w; intro w S
  refine c_end ?_
  refine wp_seq_k ?_
  intro K1 hK1
  have j1 : ∀ (m : Mem) (g4 : Nat) (g5 : Nat) (y1 : List Int) (a : Act) (w : World), St 18 m (B0 mi w0) [(3, (.v (.pointer (some ⟨g4, 0, none⟩)))), (2, (.v (.pointer (some ⟨g5, 0, none⟩))))] [Res.cells g4 39 [.ints .u8 y1 32], Res.cells g5 39 [.ints .u8 [0, 0, 0, 0, 0, 0, 0, 0, 0, 0, 0, 0, 0, 0, 0, 0, 0, 0, 0, 0, 0, 0, 0, 0, 0, 0, 0, 0, 0, 0, 0, 0] 32]] a w → smithyref01_D_Bytes.j1 y1 = some r → K1 a w := by
    intro m g4 g5 y1 a w S h0
    delta smithyref01_D_Bytes.j1 at h0
    refine hK1 a w ?_
    refine c_region ?_
    refine s_loada S rfl .here T39 (s' := [.ints .u8 y1 32]) rfl rfl ?_; clear S a; intro a S
    refine s_store S rfl rfl rfl (s' := [.ints .u8 y1 32]) (.there .here) T39 rfl rfl ?_; clear S w; intro w S
    refine c_end ?_
    refine wp_ret ?_
    obtain rfl := Option.some.inj h0
    exact b_ret1 (d := (.agg [.ints .u8 y1 32])) S rfl (resD_cell rfl (.there .here) T39 rfl rfl) fun ok => ⟨rfl, ok, S.below0⟩
  refine c_region ?_
  refine s_assign S rfl rfl ?_; clear S a; intro a S
  refine c_end ?_
  refine wp_block ?_
  refine c_loop (fun q1 a w => ∃ (m : Mem) (y4 : Int) (g12 : Nat) (g13 : Nat) (g14 : Nat) (y5 : List Int), St 18 m (B0 mi w0) [(4, (.v (.int .i64 y4))), (3, (.v (.pointer (some ⟨g12, 0, none⟩)))), (2, (.v (.pointer (some ⟨g13, 0, none⟩)))), (1, (.v (.pointer (some ⟨g14, 0, none⟩))))] [Res.cells g12 39 [.ints .u8 y5 32], Res.cells g13 39 [.ints .u8 [0, 0, 0, 0, 0, 0, 0, 0, 0, 0, 0, 0, 0, 0, 0, 0, 0, 0, 0, 0, 0, 0, 0, 0, 0, 0, 0, 0, 0, 0, 0, 0] 32], Res.cells g14 45 [.ints .i64 x1 32]] a w ∧ smithyref01_D_Bytes.l1 x1 q1 y4 y5 = some r) ?_ ?_ (k := k) ⟨_, 0, g3, g2, g1, [0, 0, 0, 0, 0, 0, 0, 0, 0, 0, 0, 0, 0, 0, 0, 0, 0, 0, 0, 0, 0, 0, 0, 0, 0, 0, 0, 0, 0, 0, 0, 0], (S.sub ⟨rfl, rfl, rfl, rfl, trivial⟩ (.cons .here (.cons .here (.cons .here .nil)))), h0⟩
  · rintro a w ⟨m, y4, g12, g13, g14, y5, S, h0⟩
    exact (nomatch (show (none : Option (List Int)) = some r from h0))
  · clear S h0
    rintro q1 a w ⟨m, y4, g12, g13, g14, y5, S, h0⟩
    replace h0 : smithyref01_D_Bytes.b1 x1 (smithyref01_D_Bytes.l1 x1 q1) y4 y5 = some r := h0
    delta smithyref01_D_Bytes.b1 at h0
    refine wp_seq ?_
    refine c_region ?_
    refine s_move S rfl rfl ?_; clear S a; intro a S
    refine s_bin S rfl rfl rfl rfl ?_; clear S a; intro a S
    refine c_end ?_
    rcases ite_of h0 with ⟨c1, h1⟩ | ⟨c1, h1⟩ <;> clear h0
    · refine c_condT S rfl c1 ?_
      refine wp_skip ?_
      refine x_thenN ?_
      refine wp_seq ?_
      refine wp_block ?_
      refine c_region' ?_
      refine s_move S rfl rfl ?_; clear S a; intro a S
      refine s_bin S rfl rfl rfl rfl ?_; clear S a; intro a S
      refine s_move S rfl rfl ?_; clear S a; intro a S
      obtain ⟨c2, h2⟩ := chk_of h1; clear h1
      refine s_iaddr S rfl rfl Tryd.underlying45 T3 c2.1 c2.2 (mul1 _ _) rfl ?_; clear S a; intro a S
      refine s_loadi S (i := y4) rfl (.there (.there .here)) T3 .here rfl c2.1 c2.2 rfl ?_; clear S a; intro a S
      refine s_conv S rfl rfl Tryd.underlying5 rfl ?_; clear S a; intro a S
      obtain ⟨c3, h3⟩ := chk_of h2; clear h2
      refine s_iaddr S rfl rfl Tryd.underlying39 T5 c3.1 c3.2 (mul1 _ _) rfl ?_; clear S a; intro a S
      refine s_storei S (i := (wr .i64 (31 - y4))) rfl rfl .here T5 .here rfl c3.1 c3.2 ?_; clear S w; intro w S
      refine c_end' ?_
      refine x_blockN ?_
      refine x_thenN ?_
      refine c_region' ?_
      refine s_move S rfl rfl ?_; clear S a; intro a S
      refine s_bin S rfl rfl rfl rfl ?_; clear S a; intro a S
      refine s_assign S rfl rfl ?_; clear S a; intro a S
      refine c_end' ?_
      refine x_thenN ?_
      exact ⟨_, (wr .i64 (y4 + 1)), g12, g13, g14, (y5.set (Int.toNat (wr .i64 (31 - y4))) (wr .u8 (rd x1 y4))), (S.sub ⟨rfl, rfl, rfl, rfl, trivial⟩ (.cons .here (.cons .here (.cons .here .nil)))), h3⟩
    · refine c_condF S rfl c1 ?_
      refine wp_exit ?_
      refine x_thenX ?_
      refine x_thenX ?_
      refine x_blockX ?_
      refine x_thenN ?_
      exact j1 _ g12 g13 y5 a w (S.sub ⟨rfl, rfl, trivial⟩ (.cons .here (.cons .here .nil))) h1
/-! smithy/smithyref08.last -/
def smithyref08_last.j1 (y1 : List Int) : Option (List Int) := some y1
def smithyref08_last.b1 (x1 : List Int) (rec1 : Int → (List Int) → Option (List Int)) (y4 : Int) (y5 : List Int) : Option (List Int) := if (decide (y4 < 20)) = true then (if 0 ≤ (wr .i64 (12 + y4)) ∧ (wr .i64 (12 + y4)) < 32 then (if 0 ≤ y4 ∧ y4 < 20 then (rec1 (wr .i64 (y4 + 1)) (y5.set (Int.toNat y4) (rd x1 (wr .i64 (12 + y4))))) else none) else none) else (smithyref08_last.j1 y5)
def smithyref08_last.l1 (x1 : List Int) : Nat → Int → (List Int) → Option (List Int)
  | 0, _, _ => none
  | q + 1, y4, y5 => smithyref08_last.b1 x1 (smithyref08_last.l1 x1 q) y4 y5
def smithyref08_last.f (k : Nat) (x1 : List Int) : Option (List Int) := smithyref08_last.l1 x1 k 0 [0, 0, 0, 0, 0, 0, 0, 0, 0, 0, 0, 0, 0, 0, 0, 0, 0, 0, 0, 0]
theorem smithyref08_last.ok (k : Nat) (x1 : List Int) (r : List Int) (h0 : smithyref08_last.f k x1 = some r) (mi : Mem) (w0 : World) : okL mi [(.agg [.ints .u8 x1 32])] → Frz mi w0 → Calls Tryd.prog 26 (([(.agg [.ints .u8 x1 32])] : List D).map D.val).toArray w0 (Ret mi (.agg [.ints .u8 r 20]) w0) := by
  intro ok hm
  delta smithyref08_last.f at h0
  refine c_enter (n := 17) [(.agg [.ints .u8 x1 32])] (l := [(0, (.agg [.ints .u8 x1 32]))]) Tryd.func26 rfl rfl rfl rfl ok hm ?_
  clear ok hm
  intro a S
  refine c_region ?_
  refine s_box S rfl rfl rfl ?_; clear S a; intro g1 a w S
  refine s_alloc S Z23 rfl ⟨rfl, trivial⟩ rfl ?_; clear S a w; intro g2 a w S
  refine c_end ?_
  refine c_region ?_
  refine s_build S (ds := []) (dv := (.agg [.ints .u8 [0, 0, 0, 0, 0, 0, 0, 0, 0, 0, 0, 0, 0, 0, 0, 0, 0, 0, 0, 0] 20])) rfl (fun _ => by kernel_rfl) ⟨rfl, trivial⟩ rfl ?_; clear S a; intro a S
  refine s_alloc S Z23 rfl ⟨rfl, trivial⟩ rfl ?_; clear S a w; intro g3 a w S
  refine s_store S rfl rfl rfl (s' := [.ints .u8 [0, 0, 0, 0, 0, 0, 0, 0, 0, 0, 0, 0, 0, 0, 0, 0, 0, 0, 0, 0] 20]) .here T23 rfl rfl ?_; clear S w; intro w S
  refine c_end ?_
  refine wp_seq_k ?_
  intro K1 hK1
  have j1 : ∀ (m : Mem) (g4 : Nat) (g5 : Nat) (y1 : List Int) (a : Act) (w : World), St 17 m (B0 mi w0) [(3, (.v (.pointer (some ⟨g4, 0, none⟩)))), (2, (.v (.pointer (some ⟨g5, 0, none⟩))))] [Res.cells g4 23 [.ints .u8 y1 20], Res.cells g5 23 [.ints .u8 [0, 0, 0, 0, 0, 0, 0, 0, 0, 0, 0, 0, 0, 0, 0, 0, 0, 0, 0, 0] 20]] a w → smithyref08_last.j1 y1 = some r → K1 a w := by
    intro m g4 g5 y1 a w S h0
    delta smithyref08_last.j1 at h0
    refine hK1 a w ?_
    refine c_region ?_
    refine s_loada S rfl .here T23 (s' := [.ints .u8 y1 20]) rfl rfl ?_; clear S a; intro a S
    refine s_store S rfl rfl rfl (s' := [.ints .u8 y1 20]) (.there .here) T23 rfl rfl ?_; clear S w; intro w S
    refine c_end ?_
    refine wp_ret ?_
    obtain rfl := Option.some.inj h0
    exact b_ret1 (d := (.agg [.ints .u8 y1 20])) S rfl (resD_cell rfl (.there .here) T23 rfl rfl) fun ok => ⟨rfl, ok, S.below0⟩
  refine c_region ?_
  refine s_assign S rfl rfl ?_; clear S a; intro a S
  refine c_end ?_
  refine wp_block ?_
  refine c_loop (fun q1 a w => ∃ (m : Mem) (y4 : Int) (g12 : Nat) (g13 : Nat) (g14 : Nat) (y5 : List Int), St 17 m (B0 mi w0) [(4, (.v (.int .i64 y4))), (3, (.v (.pointer (some ⟨g12, 0, none⟩)))), (2, (.v (.pointer (some ⟨g13, 0, none⟩)))), (1, (.v (.pointer (some ⟨g14, 0, none⟩))))] [Res.cells g12 23 [.ints .u8 y5 20], Res.cells g13 23 [.ints .u8 [0, 0, 0, 0, 0, 0, 0, 0, 0, 0, 0, 0, 0, 0, 0, 0, 0, 0, 0, 0] 20], Res.cells g14 39 [.ints .u8 x1 32]] a w ∧ smithyref08_last.l1 x1 q1 y4 y5 = some r) ?_ ?_ (k := k) ⟨_, 0, g3, g2, g1, [0, 0, 0, 0, 0, 0, 0, 0, 0, 0, 0, 0, 0, 0, 0, 0, 0, 0, 0, 0], (S.sub ⟨rfl, rfl, rfl, rfl, trivial⟩ (.cons .here (.cons .here (.cons .here .nil)))), h0⟩
  · rintro a w ⟨m, y4, g12, g13, g14, y5, S, h0⟩
    exact (nomatch (show (none : Option (List Int)) = some r from h0))
  · clear S h0
    rintro q1 a w ⟨m, y4, g12, g13, g14, y5, S, h0⟩
    replace h0 : smithyref08_last.b1 x1 (smithyref08_last.l1 x1 q1) y4 y5 = some r := h0
    delta smithyref08_last.b1 at h0
    refine wp_seq ?_
    refine c_region ?_
    refine s_move S rfl rfl ?_; clear S a; intro a S
    refine s_bin S rfl rfl rfl rfl ?_; clear S a; intro a S
    refine c_end ?_
    rcases ite_of h0 with ⟨c1, h1⟩ | ⟨c1, h1⟩ <;> clear h0
    · refine c_condT S rfl c1 ?_
      refine wp_skip ?_
      refine x_thenN ?_
      refine wp_seq ?_
      refine wp_block ?_
      refine c_region' ?_
      refine s_move S rfl rfl ?_; clear S a; intro a S
      refine s_move S rfl rfl ?_; clear S a; intro a S
      refine s_bin S rfl rfl rfl rfl ?_; clear S a; intro a S
      obtain ⟨c2, h2⟩ := chk_of h1; clear h1
      refine s_iaddr S rfl rfl Tryd.underlying39 T5 c2.1 c2.2 (mul1 _ _) rfl ?_; clear S a; intro a S
      refine s_loadi S (i := (wr .i64 (12 + y4))) rfl (.there (.there .here)) T5 .here rfl c2.1 c2.2 rfl ?_; clear S a; intro a S
      obtain ⟨c3, h3⟩ := chk_of h2; clear h2
      refine s_iaddr S rfl rfl Tryd.underlying23 T5 c3.1 c3.2 (mul1 _ _) rfl ?_; clear S a; intro a S
      refine s_storei S (i := y4) rfl rfl .here T5 .here rfl c3.1 c3.2 ?_; clear S w; intro w S
      refine c_end' ?_
      refine x_blockN ?_
      refine x_thenN ?_
      refine c_region' ?_
      refine s_move S rfl rfl ?_; clear S a; intro a S
      refine s_bin S rfl rfl rfl rfl ?_; clear S a; intro a S
      refine s_assign S rfl rfl ?_; clear S a; intro a S
      refine c_end' ?_
      refine x_thenN ?_
      exact ⟨_, (wr .i64 (y4 + 1)), g12, g13, g14, (y5.set (Int.toNat y4) (rd x1 (wr .i64 (12 + y4)))), (S.sub ⟨rfl, rfl, rfl, rfl, trivial⟩ (.cons .here (.cons .here (.cons .here .nil)))), h3⟩
    · refine c_condF S rfl c1 ?_
      refine wp_exit ?_
      refine x_thenX ?_
      refine x_thenX ?_
      refine x_blockX ?_
      refine x_thenN ?_
      exact j1 _ g12 g13 y5 a w (S.sub ⟨rfl, rfl, trivial⟩ (.cons .here (.cons .here .nil))) h1
/-! smithy/smithyref08.Create2 -/
def smithyref08_Create2.f (k : Nat) (x1 : List Int) (x2 : List Int) (x3 : List Int) : Option (List Int) := (smithyref05_Sum.f k x3).bind fun t1 => ((smithyref01_Of.f k x2).bind fun t2 => ((smithyref01_D_Bytes.f k t2).bind fun t3 => (if (([255]).length + (((x1).drop 0).take 20).length) * 1 ≤ 140737488355328 then (if (([255] ++ (((x1).drop 0).take 20)).length + (((t3).drop 0).take 32).length) * 1 ≤ 140737488355328 then (if ((([255] ++ (((x1).drop 0).take 20)) ++ (((t3).drop 0).take 32)).length + (((t1).drop 0).take 32).length) * 1 ≤ 140737488355328 then ((smithyref05_Sum.f k ((([255] ++ (((x1).drop 0).take 20)) ++ (((t3).drop 0).take 32)) ++ (((t1).drop 0).take 32))).bind fun t4 => ((smithyref08_last.f k t4).bind fun t5 => (some t5))) else none) else none) else none)))
theorem smithyref08_Create2.ok (k : Nat) (x1 : List Int) (x2 : List Int) (x3 : List Int) (ch_x3 : Option Addr × Nat) (r : List Int) (h0 : smithyref08_Create2.f k x1 x2 x3 = some r) (mi : Mem) (w0 : World) : okL mi [(.agg [.ints .u8 x1 20]), (.agg [.ints .u64 x2 4]), (.sl ch_x3.1 (x3).length ch_x3.2 (RdS (Ty.int .u8) ch_x3.1 x3))] → Frz mi w0 → Calls Tryd.prog 9 (([(.agg [.ints .u8 x1 20]), (.agg [.ints .u64 x2 4]), (.sl ch_x3.1 (x3).length ch_x3.2 (RdS (Ty.int .u8) ch_x3.1 x3))] : List D).map D.val).toArray w0 (Ret mi (.agg [.ints .u8 r 20]) w0) := by
  intro ok hm
  delta smithyref08_Create2.f at h0
  refine c_enter (n := 28) [(.agg [.ints .u8 x1 20]), (.agg [.ints .u64 x2 4]), (.sl ch_x3.1 (x3).length ch_x3.2 (RdS (Ty.int .u8) ch_x3.1 x3))] (l := [(0, (.agg [.ints .u8 x1 20])), (1, (.agg [.ints .u64 x2 4])), (2, (.sl ch_x3.1 (x3).length ch_x3.2 (RdS (Ty.int .u8) ch_x3.1 x3)))]) Tryd.func9 rfl rfl rfl rfl ok hm ?_
  clear ok hm
  intro a S
  refine c_region ?_
  refine s_box S rfl rfl rfl ?_; clear S a; intro g1 a w S
  refine s_box S rfl rfl rfl ?_; clear S a w; intro g2 a w S
  refine s_alloc S Z23 rfl ⟨rfl, trivial⟩ rfl ?_; clear S a w; intro g3 a w S
  refine c_end ?_
  refine c_region ?_
  refine s_move S rfl rfl ?_; clear S a; intro a S
  obtain ⟨t1, et1, h1⟩ := bind_of h0; clear h0
  refine s_call S (ds := [(.sl ch_x3.1 (x3).length ch_x3.2 (RdS (Ty.int .u8) ch_x3.1 x3))]) (d := (.agg [.ints .u8 t1 32])) N23 rfl rfl (smithyref05_Sum.ok k x3 (ch_x3.1, ch_x3.2) t1 et1 _ _) ?_; clear S a w; intro a w S
  refine s_alloc S Z40 rfl ⟨rfl, trivial⟩ rfl ?_; clear S a w; intro g4 a w S
  refine s_store S rfl rfl rfl (s' := [.ints .u8 t1 32]) .here T40 rfl rfl ?_; clear S w; intro w S
  refine c_end ?_
  refine c_region ?_
  refine s_loada S rfl (.there (.there .here)) T26 (s' := [.ints .u64 x2 4]) rfl rfl ?_; clear S a; intro a S
  obtain ⟨t2, et2, h2⟩ := bind_of h1; clear h1
  refine s_call S (ds := [(.agg [.ints .u64 x2 4])]) (d := (.agg [.ints .i64 t2 32])) N24 rfl rfl (smithyref01_Of.ok k x2 t2 et2 _ _) ?_; clear S a w; intro a w S
  obtain ⟨t3, et3, h3⟩ := bind_of h2; clear h2
  refine s_call S (ds := [(.agg [.ints .i64 t2 32])]) (d := (.agg [.ints .u8 t3 32])) N25 rfl rfl (smithyref01_D_Bytes.ok k t2 t3 et3 _ _) ?_; clear S a w; intro a w S
  refine s_alloc S Z39 rfl ⟨rfl, trivial⟩ rfl ?_; clear S a w; intro g5 a w S
  refine s_store S rfl rfl rfl (s' := [.ints .u8 t3 32]) .here T39 rfl rfl ?_; clear S w; intro w S
  refine c_end ?_
  refine c_region ?_
  refine s_bldSl S (ty' := (Ty.int .u8)) (ds := [(0, (.v (.int .u8 255)))]) (z := 0) (c0 := ()) (ys := [255]) (cs := [()]) rfl Tryd.underlying27 J5 Z5 rfl ⟨rfl, trivial⟩ rfl rfl rfl rfl rfl rfl ?_; clear S a w; intro g6 a w S
  refine s_assign S rfl rfl ?_; clear S a; intro a S
  refine c_end ?_
  refine c_region ?_
  refine s_move S rfl rfl ?_; clear S a; intro a S
  refine s_sliceA S (i := 0) (j := 20) (o' := 0) (len := 20) (cap := 20) rfl Tryd.underlying23 T5 (.inl ⟨rfl, rfl⟩) (.inl ⟨rfl, rfl⟩) (by decide) rfl rfl rfl rfl ?_; clear S a; intro a S
  replace S := S.freeze (.there (.there (.there (.there (.there .here)))))
  obtain ⟨m, le1, S⟩ := S
  replace S := (S.slup' (u := 17) (lo := 0) (c := 20) (ys := ((x1).drop 0).take 20) rfl (Pull.mem (.there (.there (.there (.there (.there .here)))))).1 .here (.inl rfl) (by decide) (by decide) rfl).2
  obtain ⟨c1, h4⟩ := chk_of h3; clear h3
  refine s_app S (k2 := ((((x1).drop 0).take 20).length)) (ys := (((x1).drop 0).take 20)) rfl (fun _ _ => .here) rfl rfl rfl (RdS.src (S.get 17 (.sl (some ⟨g1, 0, none⟩) (((x1).drop 0).take 20).length 20 (RdS (Ty.int .u8) (some ⟨g1, 0, none⟩) (((x1).drop 0).take 20))) rfl).2.2.2.1 (by decide) S.frz) Tryd.underlying27 J5 c1 rfl ?_; clear S a w; intro A1 cp1 a w S
  refine s_assign S rfl rfl ?_; clear S a; intro a S
  refine c_end ?_
  refine c_region ?_
  refine s_move S rfl rfl ?_; clear S a; intro a S
  refine s_sliceA S (i := 0) (j := 32) (o' := 0) (len := 32) (cap := 32) rfl Tryd.underlying39 T5 (.inl ⟨rfl, rfl⟩) (.inl ⟨rfl, rfl⟩) (by decide) rfl rfl rfl rfl ?_; clear S a; intro a S
  replace S := S.freeze (.there .here)
  obtain ⟨m, le1, S⟩ := S
  replace S := (S.slup' (u := 20) (lo := 0) (c := 32) (ys := ((t3).drop 0).take 32) rfl (Pull.mem (.there .here)).1 .here (.inl rfl) (by decide) (by decide) rfl).2
  obtain ⟨c2, h5⟩ := chk_of h4; clear h4
  refine s_app S (k2 := ((((t3).drop 0).take 32).length)) (ys := (((t3).drop 0).take 32)) rfl (fun _ _ => .here) rfl rfl rfl (RdS.src (S.get 20 (.sl (some ⟨g5, 0, none⟩) (((t3).drop 0).take 32).length 32 (RdS (Ty.int .u8) (some ⟨g5, 0, none⟩) (((t3).drop 0).take 32))) rfl).2.2.2.1 (by decide) S.frz) Tryd.underlying27 J5 c2 rfl ?_; clear S a w; intro A2 cp2 a w S
  refine s_assign S rfl rfl ?_; clear S a; intro a S
  refine c_end ?_
  refine c_region ?_
  refine s_move S rfl rfl ?_; clear S a; intro a S
  refine s_sliceA S (i := 0) (j := 32) (o' := 0) (len := 32) (cap := 32) rfl Tryd.underlying40 T5 (.inl ⟨rfl, rfl⟩) (.inl ⟨rfl, rfl⟩) (by decide) rfl rfl rfl rfl ?_; clear S a; intro a S
  replace S := S.freeze (.there (.there .here))
  obtain ⟨m, le1, S⟩ := S
  replace S := (S.slup' (u := 23) (lo := 0) (c := 32) (ys := ((t1).drop 0).take 32) rfl (Pull.mem (.there (.there .here))).1 .here (.inl rfl) (by decide) (by decide) rfl).2
  obtain ⟨c3, h6⟩ := chk_of h5; clear h5
  refine s_app S (k2 := ((((t1).drop 0).take 32).length)) (ys := (((t1).drop 0).take 32)) rfl (fun _ _ => .here) rfl rfl rfl (RdS.src (S.get 23 (.sl (some ⟨g4, 0, none⟩) (((t1).drop 0).take 32).length 32 (RdS (Ty.int .u8) (some ⟨g4, 0, none⟩) (((t1).drop 0).take 32))) rfl).2.2.2.1 (by decide) S.frz) Tryd.underlying27 J5 c3 rfl ?_; clear S a w; intro A3 cp3 a w S
  refine s_assign S rfl rfl ?_; clear S a; intro a S
  refine c_end ?_
  refine c_region ?_
  refine s_move S rfl rfl ?_; clear S a; intro a S
  replace S := S.rowfro .here
  obtain ⟨m, le1, S, hro⟩ := S
  replace S := S.slotro (u := 25) rfl hro
  replace S := S.slotro (u := 9) rfl hro
  replace S := S.slotro (u := 24) rfl hro
  obtain ⟨t4, et4, h7⟩ := bind_of h6; clear h6
  refine s_call S (ds := [(.sl A3 ((([255] ++ (((x1).drop 0).take 20)) ++ (((t3).drop 0).take 32)) ++ (((t1).drop 0).take 32)).length cp3 (RdS (Ty.int .u8) A3 ((([255] ++ (((x1).drop 0).take 20)) ++ (((t3).drop 0).take 32)) ++ (((t1).drop 0).take 32))))]) (d := (.agg [.ints .u8 t4 32])) N23 rfl rfl (smithyref05_Sum.ok k ((([255] ++ (((x1).drop 0).take 20)) ++ (((t3).drop 0).take 32)) ++ (((t1).drop 0).take 32)) (A3, cp3) t4 et4 _ _) ?_; clear S a w; intro a w S
  obtain ⟨t5, et5, h8⟩ := bind_of h7; clear h7
  refine s_call S (ds := [(.agg [.ints .u8 t4 32])]) (d := (.agg [.ints .u8 t5 20])) N26 rfl rfl (smithyref08_last.ok k t4 t5 et5 _ _) ?_; clear S a w; intro a w S
  refine s_store S rfl rfl rfl (s' := [.ints .u8 t5 20]) (.there (.there .here)) T23 rfl rfl ?_; clear S w; intro w S
  refine c_end ?_
  refine wp_ret ?_
  obtain rfl := Option.some.inj h8
  exact b_ret1 (d := (.agg [.ints .u8 t5 20])) S rfl (resD_cell rfl (.there (.there .here)) T23 rfl rfl) fun ok => ⟨rfl, ok, S.below0⟩
/-! smithy/smithylaw08.AddrSalts -/
def smithylaw08_AddrSalts.f (k : Nat) (x1 : List Int) (x2 : List Int) (x3 : List Int) : Option Bool := if (decide (3000 < ((x3).length : Int))) = true then ((smithylaw08_fixed.f k).bind fun t1 => (some t1)) else (if ((([] : List Int)).length + (x3).length) * 1 ≤ 140737488355328 then ((smithylaw08_fixed.f k).bind fun t2 => (if t2 = true then ((addr_Create2.f k x1 x2 (([] : List Int) ++ x3)).bind fun t3 => ((smithyref08_Create2.f k x1 x2 x3).bind fun t4 => (if (decide (t3 = t4)) = true then (some ((bstr (([] : List Int) ++ x3)).toList == (bstr x3).toList)) else (some false)))) else (some false))) else none)
theorem smithylaw08_AddrSalts.ok (k : Nat) (x1 : List Int) (x2 : List Int) (x3 : List Int) (ch_x3 : Option Addr × Nat) (r : Bool) (h0 : smithylaw08_AddrSalts.f k x1 x2 x3 = some r) (mi : Mem) (w0 : World) (G : Glob mi) : okL mi [(.agg [.ints .u8 x1 20]), (.agg [.ints .u64 x2 4]), (.sl ch_x3.1 (x3).length ch_x3.2 (RdS (Ty.int .u8) ch_x3.1 x3))] → Frz mi w0 → Calls Tryd.prog 3 (([(.agg [.ints .u8 x1 20]), (.agg [.ints .u64 x2 4]), (.sl ch_x3.1 (x3).length ch_x3.2 (RdS (Ty.int .u8) ch_x3.1 x3))] : List D).map D.val).toArray w0 (Ret mi (.v (.bool r)) w0) := by
  intro ok hm
  delta smithylaw08_AddrSalts.f at h0
  refine c_enter (n := 34) [(.agg [.ints .u8 x1 20]), (.agg [.ints .u64 x2 4]), (.sl ch_x3.1 (x3).length ch_x3.2 (RdS (Ty.int .u8) ch_x3.1 x3))] (l := [(0, (.agg [.ints .u8 x1 20])), (1, (.agg [.ints .u64 x2 4])), (2, (.sl ch_x3.1 (x3).length ch_x3.2 (RdS (Ty.int .u8) ch_x3.1 x3)))]) Tryd.func3 rfl rfl rfl rfl ok hm ?_
  clear ok hm
  intro a S
  refine c_region ?_
  refine s_box S rfl rfl rfl ?_; clear S a; intro g1 a w S
  refine s_box S rfl rfl rfl ?_; clear S a w; intro g2 a w S
  refine s_assign S rfl rfl ?_; clear S a; intro a S
  refine c_end ?_
  refine wp_seq ?_
  refine c_region ?_
  refine s_move S rfl rfl ?_; clear S a; intro a S
  refine s_lenS S rfl Tryd.underlying27 rfl ?_; clear S a; intro a S
  refine s_bin S rfl rfl rfl rfl ?_; clear S a; intro a S
  refine c_end ?_
  rcases ite_of h0 with ⟨c1, h1⟩ | ⟨c1, h1⟩ <;> clear h0
  · refine c_condT S rfl c1 ?_
    refine c_region ?_
    obtain ⟨t1, et1, h2⟩ := bind_of h1; clear h1
    refine s_call S (ds := []) (d := (.v (.bool t1))) N7 rfl rfl (smithylaw08_fixed.ok k t1 et1 _ _ (G.mono S.le)) ?_; clear S a w; intro a w S
    refine s_assign S rfl rfl ?_; clear S a; intro a S
    refine c_end ?_
    refine wp_ret ?_
    refine x_thenR ?_
    obtain rfl := Option.some.inj h2
    exact b_ret1 (d := (.v (.bool t1))) S rfl rfl fun ok => ⟨rfl, ok, S.below0⟩
  · refine c_condF S rfl c1 ?_
    refine wp_skip ?_
    refine x_thenN ?_
    refine c_region ?_
    refine s_bldSl S (ty' := (Ty.int .u8)) (ds := []) (z := 0) (c0 := ()) (ys := ([] : List Int)) (cs := []) rfl Tryd.underlying27 J5 Z5 rfl ⟨rfl, trivial⟩ rfl rfl rfl rfl rfl rfl ?_; clear S a w; intro g3 a w S
    refine s_move S rfl rfl ?_; clear S a; intro a S
    obtain ⟨c2, h2⟩ := chk_of h1; clear h1
    refine s_app S (k2 := ((x3).length)) (ys := x3) rfl (fun _ _ => .here) rfl rfl rfl (RdS.src (S.get 13 (.sl ch_x3.1 (x3).length ch_x3.2 (RdS (Ty.int .u8) ch_x3.1 x3)) rfl).2.2.2.1 (by decide) S.frz) Tryd.underlying27 J5 c2 rfl ?_; clear S a w; intro A1 cp1 a w S
    refine s_assign S rfl rfl ?_; clear S a; intro a S
    refine c_end ?_
    refine wp_seq (c_heldS S (.alts (.run 0 true (.take 1 (.take 2 (.take 3 (.take 4 (.take 6 (.take 7 (.take 8 (.alts (.run 5 true (.alts (.run 9 true (.take 10 (.take 11 (.take 12 (.take 15 (.take 16 (.alts (.run 13 true (.alts (.run 14 true (.take 17 (.take 18 (.take 19 .done))) .nil)) .nil))))))) .nil)) .nil))))))))) .nil)) 20 [Res.cells g2 26 [.ints .u64 x2 4], Res.cells g1 23 [.ints .u8 x1 20]] (.cons (.there .here) (.cons (.there .here) .nil)) ⟨Res.stay_cells, Res.stay_cells, trivial⟩ [(7, (.v (.slice A1 (0 + ((x3).length)) cp1))), (4, (.v (.pointer (some ⟨g2, 0, none⟩)))), (3, (.v (.pointer (some ⟨g1, 0, none⟩)))), (2, (.sl ch_x3.1 (x3).length ch_x3.2 (RdS (Ty.int .u8) ch_x3.1 x3)))] ⟨rfl, rfl, rfl, rfl, trivial⟩ (by kernel_rfl) (by kernel_rfl) ?_); clear S; intro w S CL hw le
    refine h_run' S rfl trivial ?_
    obtain ⟨t2, et2, h3⟩ := bind_of h2; clear h2
    refine s_call S (ds := []) (d := (.v (.bool t2))) N7 rfl rfl (smithylaw08_fixed.ok k t2 et2 _ _ (G.mono S.le)) ?_; clear S a; intro a w S
    replace hw := CL.again hw S (.cons (.there .here) (.cons (.there .here) .nil)) le
    refine h_back ⟨fun _ => hw, ?_⟩
    replace CL := CL.add (t := 15) (d := (.v (.bool t2))) S rfl rfl
    refine h_move S CL hw le ⟨rfl, rfl, rfl, rfl, rfl, trivial⟩ rfl rfl rfl trivial ?_; clear S CL a; intro a S CL
    rcases ite_of h3 with ⟨c3, h4⟩ | ⟨c3, h4⟩ <;> clear h3
    · refine h_loada S CL hw le ⟨rfl, rfl, rfl, rfl, rfl, rfl, trivial⟩ rfl (.there .here) T23 (s' := [.ints .u8 x1 20]) rfl rfl rfl ⟨_, _, rfl, rfl, c3⟩ ?_; clear S CL a; intro a S CL
      refine h_loada S CL hw le ⟨rfl, rfl, rfl, rfl, rfl, rfl, rfl, trivial⟩ rfl .here T26 (s' := [.ints .u64 x2 4]) rfl rfl rfl ⟨_, _, rfl, rfl, c3⟩ ?_; clear S CL a; intro a S CL
      refine h_move S CL hw le ⟨rfl, rfl, rfl, rfl, rfl, rfl, rfl, rfl, trivial⟩ rfl rfl rfl ⟨_, _, rfl, rfl, c3⟩ ?_; clear S CL a; intro a S CL
      refine h_loada S CL hw le ⟨rfl, rfl, rfl, rfl, rfl, rfl, rfl, rfl, rfl, trivial⟩ rfl (.there .here) T23 (s' := [.ints .u8 x1 20]) rfl rfl rfl ⟨_, _, rfl, rfl, c3⟩ ?_; clear S CL a; intro a S CL
      refine h_loada S CL hw le ⟨rfl, rfl, rfl, rfl, rfl, rfl, rfl, rfl, rfl, rfl, trivial⟩ rfl .here T26 (s' := [.ints .u64 x2 4]) rfl rfl rfl ⟨_, _, rfl, rfl, c3⟩ ?_; clear S CL a; intro a S CL
      refine h_move S CL hw le ⟨rfl, rfl, rfl, rfl, rfl, rfl, rfl, rfl, rfl, rfl, rfl, trivial⟩ rfl rfl rfl ⟨_, _, rfl, rfl, c3⟩ ?_; clear S CL a; intro a S CL
      refine h_run' S rfl ⟨_, _, rfl, rfl, c3⟩ ?_
      replace S := S.rowfro .here
      obtain ⟨m, le1, S, hro⟩ := S
      replace le := le.trans le1
      replace S := S.slotro (u := 19) rfl hro
      replace S := S.slotro (u := 7) rfl hro
      replace S := S.slotro (u := 14) rfl hro
      replace CL := CL.drop (lq' := [(23, (.sl ch_x3.1 (x3).length ch_x3.2 (RdS (Ty.int .u8) ch_x3.1 x3))), (22, (.agg [.ints .u64 x2 4])), (21, (.agg [.ints .u8 x1 20])), (18, (.agg [.ints .u64 x2 4])), (17, (.agg [.ints .u8 x1 20])), (16, (.v (.bool t2))), (15, (.v (.bool t2))), (4, (.v (.pointer (some ⟨g2, 0, none⟩)))), (3, (.v (.pointer (some ⟨g1, 0, none⟩)))), (2, (.sl ch_x3.1 (x3).length ch_x3.2 (RdS (Ty.int .u8) ch_x3.1 x3)))]) ⟨rfl, rfl, rfl, rfl, rfl, rfl, rfl, rfl, rfl, rfl, trivial⟩
      obtain ⟨t3, et3, h5⟩ := bind_of h4; clear h4
      refine s_call S (ds := [(.agg [.ints .u8 x1 20]), (.agg [.ints .u64 x2 4]), (.sl A1 (([] : List Int) ++ x3).length cp1 (RdS (Ty.int .u8) A1 (([] : List Int) ++ x3)))]) (d := (.agg [.ints .u8 t3 20])) N8 rfl rfl (addr_Create2.ok k x1 x2 (([] : List Int) ++ x3) (A1, cp1) t3 et3 _ _ (G.mono S.le)) ?_; clear S a; intro a w S
      replace hw := CL.again hw S (.cons .here (.cons .here .nil)) le
      refine h_back ⟨fun _ => hw, ?_⟩
      replace CL := CL.add (t := 20) (d := (.agg [.ints .u8 t3 20])) S rfl rfl
      refine h_run' S rfl ⟨_, _, rfl, rfl, c3⟩ ?_
      obtain ⟨t4, et4, h6⟩ := bind_of h5; clear h5
      refine s_call S (ds := [(.agg [.ints .u8 x1 20]), (.agg [.ints .u64 x2 4]), (.sl ch_x3.1 (x3).length ch_x3.2 (RdS (Ty.int .u8) ch_x3.1 x3))]) (d := (.agg [.ints .u8 t4 20])) N9 rfl rfl (smithyref08_Create2.ok k x1 x2 x3 (ch_x3.1, ch_x3.2) t4 et4 _ _) ?_; clear S a; intro a w S
      replace hw := CL.again hw S (.cons .here (.cons .here .nil)) le
      refine h_back ⟨fun _ => hw, ?_⟩
      replace CL := CL.add (t := 24) (d := (.agg [.ints .u8 t4 20])) S rfl rfl
      refine h_eqa S CL hw le ⟨rfl, rfl, rfl, rfl, rfl, rfl, rfl, rfl, rfl, rfl, rfl, rfl, trivial⟩ rfl rfl Tryd.underlying23 Tryd.underlying5 T5 Q23 rfl rfl ⟨_, _, rfl, rfl, c3⟩ ?_; clear S CL a; intro a S CL
      refine h_pick S CL hw le ⟨rfl, rfl, rfl, rfl, rfl, rfl, rfl, rfl, rfl, rfl, rfl, rfl, rfl, trivial⟩ (b := true) (hc_of rfl c3) rfl rfl rfl trivial ?_; clear S CL a; intro a S CL
      refine h_move S CL hw le ⟨rfl, rfl, rfl, rfl, rfl, rfl, rfl, rfl, rfl, rfl, rfl, rfl, rfl, rfl, trivial⟩ rfl rfl rfl trivial ?_; clear S CL a; intro a S CL
      rcases ite_of h6 with ⟨c4, h7⟩ | ⟨c4, h7⟩ <;> clear h6
      · refine h_move S CL hw le ⟨rfl, rfl, rfl, rfl, rfl, rfl, rfl, rfl, rfl, rfl, rfl, rfl, rfl, rfl, rfl, trivial⟩ rfl rfl rfl ⟨_, _, rfl, rfl, c4⟩ ?_; clear S CL a; intro a S CL
        refine h_strS S CL hw le ⟨rfl, rfl, rfl, rfl, rfl, rfl, rfl, rfl, rfl, rfl, rfl, rfl, rfl, rfl, rfl, rfl, trivial⟩ rfl rfl Tryd.underlying27 Tryd.underlying5 Tryd.underlying9 rfl rfl ⟨_, _, rfl, rfl, c4⟩ ?_; clear S CL a; intro a S CL
        refine h_run' S rfl ⟨_, _, rfl, rfl, c4⟩ ?_
        refine s_move S rfl rfl ?_; clear S a; intro a S
        replace hw := CL.again hw S (.cons .here (.cons .here .nil)) le
        refine h_back ⟨fun _ => hw, ?_⟩
        refine h_run' S rfl ⟨_, _, rfl, rfl, c4⟩ ?_
        refine s_strS S rfl rfl Tryd.underlying27 Tryd.underlying5 Tryd.underlying9 rfl ?_; clear S a; intro a S
        replace hw := CL.again hw S (.cons .here (.cons .here .nil)) le
        refine h_back ⟨fun _ => hw, ?_⟩
        replace CL := CL.add (t := 29) (d := (.v (.string (bstr (([] : List Int) ++ x3))))) S rfl rfl
        refine h_eqT S CL hw le ⟨rfl, rfl, rfl, rfl, rfl, rfl, rfl, rfl, rfl, rfl, rfl, rfl, rfl, rfl, rfl, rfl, rfl, rfl, trivial⟩ rfl rfl rfl rfl ⟨_, _, rfl, rfl, c4⟩ ?_; clear S CL a; intro a S CL
        refine h_pick S CL hw le ⟨rfl, rfl, rfl, rfl, rfl, rfl, rfl, rfl, rfl, rfl, rfl, rfl, rfl, rfl, rfl, rfl, rfl, rfl, rfl, trivial⟩ (b := true) (hc_of rfl c4) rfl rfl rfl trivial ?_; clear S CL a; intro a S CL
        refine h_assign S CL hw le ⟨rfl, rfl, rfl, rfl, rfl, rfl, rfl, rfl, rfl, rfl, rfl, rfl, rfl, rfl, rfl, rfl, rfl, rfl, rfl, rfl, trivial⟩ rfl rfl rfl trivial ?_; clear S CL a; intro a S CL
        refine h_done ?_; clear CL hw le
        refine x_thenN ?_
        refine wp_ret ?_
        obtain rfl := Option.some.inj h7
        exact b_ret1 (d := (.v (.bool ((bstr (([] : List Int) ++ x3)).toList == (bstr x3).toList)))) S rfl rfl fun ok => ⟨rfl, ok, S.below0⟩
      · refine h_skip S CL rfl rfl rfl (ne_bool c4) rfl ?_; clear S CL a; intro a S CL
        refine h_skip S CL rfl rfl rfl (ne_bool c4) rfl ?_; clear S CL a; intro a S CL
        refine h_skipRt S rfl rfl rfl (ne_bool c4) rfl ?_; clear S a; intro a S
        replace hw := CL.again hw S (.cons .here (.cons .here .nil)) le
        refine h_back ⟨fun _ => hw, ?_⟩
        refine h_skipRt S rfl rfl rfl (ne_bool c4) rfl ?_; clear S a; intro a S
        replace hw := CL.again hw S (.cons .here (.cons .here .nil)) le
        refine h_back ⟨fun _ => hw, ?_⟩
        replace CL := CL.add (t := 29) (d := .u) S rfl rfl
        refine h_skip S CL rfl rfl rfl (ne_bool c4) rfl ?_; clear S CL a; intro a S CL
        refine h_pick S CL hw le ⟨rfl, rfl, rfl, rfl, rfl, rfl, rfl, rfl, rfl, rfl, rfl, rfl, rfl, rfl, rfl, rfl, rfl, rfl, rfl, trivial⟩ (b := false) (hc_of rfl c4) rfl rfl rfl trivial ?_; clear S CL a; intro a S CL
        refine h_assign S CL hw le ⟨rfl, rfl, rfl, rfl, rfl, rfl, rfl, rfl, rfl, rfl, rfl, rfl, rfl, rfl, rfl, rfl, rfl, rfl, rfl, rfl, trivial⟩ rfl rfl rfl trivial ?_; clear S CL a; intro a S CL
        refine h_done ?_; clear CL hw le
        refine x_thenN ?_
        refine wp_ret ?_
        obtain rfl := Option.some.inj h7
        exact b_ret1 (d := (.v (.bool false))) S rfl rfl fun ok => ⟨rfl, ok, S.below0⟩
    · refine h_skip S CL rfl rfl rfl (ne_bool c3) rfl ?_; clear S CL a; intro a S CL
      refine h_skip S CL rfl rfl rfl (ne_bool c3) rfl ?_; clear S CL a; intro a S CL
      refine h_skip S CL rfl rfl rfl (ne_bool c3) rfl ?_; clear S CL a; intro a S CL
      refine h_skip S CL rfl rfl rfl (ne_bool c3) rfl ?_; clear S CL a; intro a S CL
      refine h_skip S CL rfl rfl rfl (ne_bool c3) rfl ?_; clear S CL a; intro a S CL
      refine h_skip S CL rfl rfl rfl (ne_bool c3) rfl ?_; clear S CL a; intro a S CL
      refine h_skipRt S rfl rfl rfl (ne_bool c3) rfl ?_; clear S a; intro a S
      replace hw := CL.again hw S (.cons (.there .here) (.cons (.there .here) .nil)) le
      refine h_back ⟨fun _ => hw, ?_⟩
      replace CL := CL.add (t := 20) (d := .u) S rfl rfl
      refine h_skipRt S rfl rfl rfl (ne_bool c3) rfl ?_; clear S a; intro a S
      replace hw := CL.again hw S (.cons (.there .here) (.cons (.there .here) .nil)) le
      refine h_back ⟨fun _ => hw, ?_⟩
      replace CL := CL.add (t := 24) (d := .u) S rfl rfl
      refine h_skip S CL rfl rfl rfl (ne_bool c3) rfl ?_; clear S CL a; intro a S CL
      refine h_pick S CL hw le ⟨rfl, rfl, rfl, rfl, rfl, rfl, rfl, rfl, rfl, rfl, rfl, rfl, rfl, rfl, rfl, trivial⟩ (b := false) (hc_of rfl c3) rfl rfl rfl trivial ?_; clear S CL a; intro a S CL
      refine h_move S CL hw le ⟨rfl, rfl, rfl, rfl, rfl, rfl, rfl, rfl, rfl, rfl, rfl, rfl, rfl, rfl, rfl, rfl, trivial⟩ rfl rfl rfl trivial ?_; clear S CL a; intro a S CL
      refine h_skip S CL rfl rfl rfl (ne_bool rfl) rfl ?_; clear S CL a; intro a S CL
      refine h_skip S CL rfl rfl rfl (ne_bool rfl) rfl ?_; clear S CL a; intro a S CL
      refine h_skipRt S rfl rfl rfl (ne_bool rfl) rfl ?_; clear S a; intro a S
      replace hw := CL.again hw S (.cons (.there .here) (.cons (.there .here) .nil)) le
      refine h_back ⟨fun _ => hw, ?_⟩
      refine h_skipRt S rfl rfl rfl (ne_bool rfl) rfl ?_; clear S a; intro a S
      replace hw := CL.again hw S (.cons (.there .here) (.cons (.there .here) .nil)) le
      refine h_back ⟨fun _ => hw, ?_⟩
      replace CL := CL.add (t := 29) (d := .u) S rfl rfl
      refine h_skip S CL rfl rfl rfl (ne_bool rfl) rfl ?_; clear S CL a; intro a S CL
      refine h_pick S CL hw le ⟨rfl, rfl, rfl, rfl, rfl, rfl, rfl, rfl, rfl, rfl, rfl, rfl, rfl, rfl, rfl, rfl, rfl, rfl, rfl, rfl, rfl, trivial⟩ (b := false) (hc_of rfl rfl) rfl rfl rfl trivial ?_; clear S CL a; intro a S CL
      refine h_assign S CL hw le ⟨rfl, rfl, rfl, rfl, rfl, rfl, rfl, rfl, rfl, rfl, rfl, rfl, rfl, rfl, rfl, rfl, rfl, rfl, rfl, rfl, rfl, rfl, trivial⟩ rfl rfl rfl trivial ?_; clear S CL a; intro a S CL
      refine h_done ?_; clear CL hw le
      refine x_thenN ?_
      refine wp_ret ?_
      obtain rfl := Option.some.inj h4
      exact b_ret1 (d := (.v (.bool false))) S rfl rfl fun ok => ⟨rfl, ok, S.below0⟩
/-! smithy/addr.Word -/
def addr_Word.f (k : Nat) (x1 : List Int) : Option (List Int) := (word_From.f k (((x1).drop 0).take 20)).bind fun t1 => (some t1)
theorem addr_Word.ok (k : Nat) (x1 : List Int) (r : List Int) (h0 : addr_Word.f k x1 = some r) (mi : Mem) (w0 : World) : okL mi [(.agg [.ints .u8 x1 20])] → Frz mi w0 → Calls Tryd.prog 10 (([(.agg [.ints .u8 x1 20])] : List D).map D.val).toArray w0 (Ret mi (.agg [.ints .u64 r 4]) w0) := by
  intro ok hm
  delta addr_Word.f at h0
  refine c_enter (n := 5) [(.agg [.ints .u8 x1 20])] (l := [(0, (.agg [.ints .u8 x1 20]))]) Tryd.func10 rfl rfl rfl rfl ok hm ?_
  clear ok hm
  intro a S
  refine c_region ?_
  refine s_box S rfl rfl rfl ?_; clear S a; intro g1 a w S
  refine s_alloc S Z26 rfl ⟨rfl, trivial⟩ rfl ?_; clear S a w; intro g2 a w S
  refine c_end ?_
  refine c_region ?_
  refine s_sliceA S (i := 0) (j := 20) (o' := 0) (len := 20) (cap := 20) rfl Tryd.underlying23 T5 (.inl ⟨rfl, rfl⟩) (.inl ⟨rfl, rfl⟩) (by decide) rfl rfl rfl rfl ?_; clear S a; intro a S
  replace S := S.freeze (.there .here)
  obtain ⟨m, le1, S⟩ := S
  replace S := (S.slup' (u := 3) (lo := 0) (c := 20) (ys := ((x1).drop 0).take 20) rfl (Pull.mem (.there .here)).1 .here (.inl rfl) (by decide) (by decide) rfl).2
  obtain ⟨t1, et1, h1⟩ := bind_of h0; clear h0
  refine s_call S (ds := [(.sl (some ⟨g1, 0, none⟩) (((x1).drop 0).take 20).length 20 (RdS (Ty.int .u8) (some ⟨g1, 0, none⟩) (((x1).drop 0).take 20)))]) (d := (.agg [.ints .u64 t1 4])) N27 rfl rfl (word_From.ok k (((x1).drop 0).take 20) ((some ⟨g1, 0, none⟩), 20) t1 et1 _ _) ?_; clear S a w; intro a w S
  refine s_store S rfl rfl rfl (s' := [.ints .u64 t1 4]) .here T26 rfl rfl ?_; clear S w; intro w S
  refine c_end ?_
  refine wp_ret ?_
  obtain rfl := Option.some.inj h1
  exact b_ret1 (d := (.agg [.ints .u64 t1 4])) S rfl (resD_cell rfl .here T26 rfl rfl) fun ok => ⟨rfl, ok, S.below0⟩
/-! smithy/smithyref01.From -/
def smithyref01_From.j1 (y1 : List Int) : Option (List Int) := some y1
def smithyref01_From.j2 (x1 : List Int) (y5 : Int) (y6 : List Int) (rec1 : Int → (List Int) → Option (List Int)) (y7 : Bool) : Option (List Int) := if y7 = true then (if 0 ≤ (wr .i64 ((wr .i64 (((x1).length : Int) - 1)) - y5)) ∧ (wr .i64 ((wr .i64 (((x1).length : Int) - 1)) - y5)) < ((x1).length : Int) then (if 0 ≤ y5 ∧ y5 < 32 then (rec1 (wr .i64 (y5 + 1)) (y6.set (Int.toNat y5) (wr .i64 (rd x1 (wr .i64 ((wr .i64 (((x1).length : Int) - 1)) - y5)))))) else none) else none) else (smithyref01_From.j1 y6)
def smithyref01_From.b1 (x1 : List Int) (rec1 : Int → (List Int) → Option (List Int)) (y5 : Int) (y6 : List Int) : Option (List Int) := if (decide (y5 < 32)) = true then (smithyref01_From.j2 x1 y5 y6 rec1 (decide (y5 < ((x1).length : Int)))) else (smithyref01_From.j2 x1 y5 y6 rec1 false)
def smithyref01_From.l1 (x1 : List Int) : Nat → Int → (List Int) → Option (List Int)
  | 0, _, _ => none
  | q + 1, y5, y6 => smithyref01_From.b1 x1 (smithyref01_From.l1 x1 q) y5 y6
def smithyref01_From.f (k : Nat) (x1 : List Int) : Option (List Int) := smithyref01_From.l1 x1 k 0 [0, 0, 0, 0, 0, 0, 0, 0, 0, 0, 0, 0, 0, 0, 0, 0, 0, 0, 0, 0, 0, 0, 0, 0, 0, 0, 0, 0, 0, 0, 0, 0]
theorem smithyref01_From.ok (k : Nat) (x1 : List Int) (ch_x1 : Option Addr × Nat) (r : List Int) (h0 : smithyref01_From.f k x1 = some r) (mi : Mem) (w0 : World) : okL mi [(.sl ch_x1.1 (x1).length ch_x1.2 (RdS (Ty.int .u8) ch_x1.1 x1))] → Frz mi w0 → Calls Tryd.prog 28 (([(.sl ch_x1.1 (x1).length ch_x1.2 (RdS (Ty.int .u8) ch_x1.1 x1))] : List D).map D.val).toArray w0 (Ret mi (.agg [.ints .i64 r 32]) w0) := by
  intro ok hm
  delta smithyref01_From.f at h0
  refine c_enter (n := 28) [(.sl ch_x1.1 (x1).length ch_x1.2 (RdS (Ty.int .u8) ch_x1.1 x1))] (l := [(0, (.sl ch_x1.1 (x1).length ch_x1.2 (RdS (Ty.int .u8) ch_x1.1 x1)))]) Tryd.func28 rfl rfl rfl rfl ok hm ?_
  clear ok hm
  intro a S
  refine c_region ?_
  refine s_alloc S Z45 rfl ⟨rfl, trivial⟩ rfl ?_; clear S a; intro g1 a w S
  refine c_end ?_
  refine c_region ?_
  refine s_build S (ds := []) (dv := (.agg [.ints .i64 [0, 0, 0, 0, 0, 0, 0, 0, 0, 0, 0, 0, 0, 0, 0, 0, 0, 0, 0, 0, 0, 0, 0, 0, 0, 0, 0, 0, 0, 0, 0, 0] 32])) rfl (fun _ => by kernel_rfl) ⟨rfl, trivial⟩ rfl ?_; clear S a; intro a S
  refine s_alloc S Z45 rfl ⟨rfl, trivial⟩ rfl ?_; clear S a w; intro g2 a w S
  refine s_store S rfl rfl rfl (s' := [.ints .i64 [0, 0, 0, 0, 0, 0, 0, 0, 0, 0, 0, 0, 0, 0, 0, 0, 0, 0, 0, 0, 0, 0, 0, 0, 0, 0, 0, 0, 0, 0, 0, 0] 32]) .here T45 rfl rfl ?_; clear S w; intro w S
  refine c_end ?_
  refine wp_seq_k ?_
  intro K1 hK1
  have j1 : ∀ (m : Mem) (g3 : Nat) (g4 : Nat) (y1 : List Int) (a : Act) (w : World), St 28 m (B0 mi w0) [(3, (.v (.pointer (some ⟨g3, 0, none⟩)))), (2, (.v (.pointer (some ⟨g4, 0, none⟩))))] [Res.cells g3 45 [.ints .i64 y1 32], Res.cells g4 45 [.ints .i64 [0, 0, 0, 0, 0, 0, 0, 0, 0, 0, 0, 0, 0, 0, 0, 0, 0, 0, 0, 0, 0, 0, 0, 0, 0, 0, 0, 0, 0, 0, 0, 0] 32]] a w → smithyref01_From.j1 y1 = some r → K1 a w := by
    intro m g3 g4 y1 a w S h0
    delta smithyref01_From.j1 at h0
    refine hK1 a w ?_
    refine c_region ?_
    refine s_loada S rfl .here T45 (s' := [.ints .i64 y1 32]) rfl rfl ?_; clear S a; intro a S
    refine s_store S rfl rfl rfl (s' := [.ints .i64 y1 32]) (.there .here) T45 rfl rfl ?_; clear S w; intro w S
    refine c_end ?_
    refine wp_ret ?_
    obtain rfl := Option.some.inj h0
    exact b_ret1 (d := (.agg [.ints .i64 y1 32])) S rfl (resD_cell rfl (.there .here) T45 rfl rfl) fun ok => ⟨rfl, ok, S.below0⟩
  refine c_region ?_
  refine s_assign S rfl rfl ?_; clear S a; intro a S
  refine c_end ?_
  refine wp_block ?_
  refine c_loop (fun q1 a w => ∃ (m : Mem) (y5 : Int) (g11 : Nat) (g12 : Nat) (y6 : List Int), St 28 m (B0 mi w0) [(4, (.v (.int .i64 y5))), (3, (.v (.pointer (some ⟨g11, 0, none⟩)))), (2, (.v (.pointer (some ⟨g12, 0, none⟩)))), (0, (.sl ch_x1.1 (x1).length ch_x1.2 (RdS (Ty.int .u8) ch_x1.1 x1)))] [Res.cells g11 45 [.ints .i64 y6 32], Res.cells g12 45 [.ints .i64 [0, 0, 0, 0, 0, 0, 0, 0, 0, 0, 0, 0, 0, 0, 0, 0, 0, 0, 0, 0, 0, 0, 0, 0, 0, 0, 0, 0, 0, 0, 0, 0] 32]] a w ∧ smithyref01_From.l1 x1 q1 y5 y6 = some r) ?_ ?_ (k := k) ⟨_, 0, g2, g1, [0, 0, 0, 0, 0, 0, 0, 0, 0, 0, 0, 0, 0, 0, 0, 0, 0, 0, 0, 0, 0, 0, 0, 0, 0, 0, 0, 0, 0, 0, 0, 0], (S.sub ⟨rfl, rfl, rfl, rfl, trivial⟩ (.cons .here (.cons .here .nil))), h0⟩
  · rintro a w ⟨m, y5, g11, g12, y6, S, h0⟩
    exact (nomatch (show (none : Option (List Int)) = some r from h0))
  · clear S h0
    rintro q1 a w ⟨m, y5, g11, g12, y6, S, h0⟩
    replace h0 : smithyref01_From.b1 x1 (smithyref01_From.l1 x1 q1) y5 y6 = some r := h0
    delta smithyref01_From.b1 at h0
    refine wp_seq ?_
    refine wp_seq_k ?_
    intro K2 hK2
    have j2 : ∀ (m : Mem) (y7 : Bool) (g13 : Nat) (g14 : Nat) (a : Act) (w : World), St 28 m (B0 mi w0) [(13, (.v (.bool y7))), (4, (.v (.int .i64 y5))), (3, (.v (.pointer (some ⟨g13, 0, none⟩)))), (2, (.v (.pointer (some ⟨g14, 0, none⟩)))), (0, (.sl ch_x1.1 (x1).length ch_x1.2 (RdS (Ty.int .u8) ch_x1.1 x1)))] [Res.cells g13 45 [.ints .i64 y6 32], Res.cells g14 45 [.ints .i64 [0, 0, 0, 0, 0, 0, 0, 0, 0, 0, 0, 0, 0, 0, 0, 0, 0, 0, 0, 0, 0, 0, 0, 0, 0, 0, 0, 0, 0, 0, 0, 0] 32]] a w → smithyref01_From.j2 x1 y5 y6 (smithyref01_From.l1 x1 q1) y7 = some r → K2 a w := by
      intro m y7 g13 g14 a w S h0
      delta smithyref01_From.j2 at h0
      refine hK2 a w ?_
      rcases ite_of h0 with ⟨c1, h1⟩ | ⟨c1, h1⟩ <;> clear h0
      · refine c_condT S rfl c1 ?_
        refine wp_skip ?_
        refine x_thenN ?_
        refine wp_seq ?_
        refine wp_block ?_
        refine c_region' ?_
        refine s_move S rfl rfl ?_; clear S a; intro a S
        refine s_move S rfl rfl ?_; clear S a; intro a S
        refine s_move S rfl rfl ?_; clear S a; intro a S
        refine s_lenS S rfl Tryd.underlying27 rfl ?_; clear S a; intro a S
        refine s_bin S rfl rfl rfl rfl ?_; clear S a; intro a S
        refine s_move S rfl rfl ?_; clear S a; intro a S
        refine s_bin S rfl rfl rfl rfl ?_; clear S a; intro a S
        obtain ⟨c2, h2⟩ := chk_of h1; clear h1
        refine s_iaddrS S rfl rfl rfl Tryd.underlying27 T5 c2.1 c2.2 rfl ?_; clear S a; intro p1 a S
        refine s_ld1 S (v := (.int .u8 (rd x1 (wr .i64 ((wr .i64 (((x1).length : Int) - 1)) - y5))))) rfl T5 (fun _ => rfl) rfl ?_; clear S a; intro a S
        refine s_conv S rfl rfl Tryd.underlying3 rfl ?_; clear S a; intro a S
        obtain ⟨c3, h3⟩ := chk_of h2; clear h2
        refine s_iaddr S rfl rfl Tryd.underlying45 T3 c3.1 c3.2 (mul1 _ _) rfl ?_; clear S a; intro a S
        refine s_storei S (i := y5) rfl rfl .here T3 .here rfl c3.1 c3.2 ?_; clear S w; intro w S
        refine c_end' ?_
        refine x_blockN ?_
        refine x_thenN ?_
        refine c_region' ?_
        refine s_move S rfl rfl ?_; clear S a; intro a S
        refine s_bin S rfl rfl rfl rfl ?_; clear S a; intro a S
        refine s_assign S rfl rfl ?_; clear S a; intro a S
        refine c_end' ?_
        refine x_thenN ?_
        exact ⟨_, (wr .i64 (y5 + 1)), g13, g14, (y6.set (Int.toNat y5) (wr .i64 (rd x1 (wr .i64 ((wr .i64 (((x1).length : Int) - 1)) - y5))))), (S.sub ⟨rfl, rfl, rfl, rfl, trivial⟩ (.cons .here (.cons .here .nil))), h3⟩
      · refine c_condF S rfl c1 ?_
        refine wp_exit ?_
        refine x_thenX ?_
        refine x_thenX ?_
        refine x_blockX ?_
        refine x_thenN ?_
        exact j1 _ g13 g14 y6 a w (S.sub ⟨rfl, rfl, trivial⟩ (.cons .here (.cons .here .nil))) h1
    refine c_region' ?_
    refine s_move S rfl rfl ?_; clear S a; intro a S
    refine s_bin S rfl rfl rfl rfl ?_; clear S a; intro a S
    refine s_move S rfl rfl ?_; clear S a; intro a S
    rcases ite_of h0 with ⟨c4, h1⟩ | ⟨c4, h1⟩ <;> clear h0
    · refine s_gT S (b := (decide (y5 < 32))) rfl rfl c4 ?_
      refine s_move S rfl rfl ?_; clear S a; intro a S
      refine s_gT S (b := (decide (y5 < 32))) rfl rfl c4 ?_
      refine s_move S rfl rfl ?_; clear S a; intro a S
      refine s_gT S (b := (decide (y5 < 32))) rfl rfl c4 ?_
      refine s_lenS S rfl Tryd.underlying27 rfl ?_; clear S a; intro a S
      refine s_gT S (b := (decide (y5 < 32))) rfl rfl c4 ?_
      refine s_bin S rfl rfl rfl rfl ?_; clear S a; intro a S
      refine s_pick S (b := true) (hc_of rfl c4) rfl rfl ?_; clear S a; intro a S
      refine c_end' ?_
      refine x_thenN ?_
      exact j2 _ (decide (y5 < ((x1).length : Int))) g11 g12 a w (S.sub ⟨rfl, rfl, rfl, rfl, rfl, trivial⟩ (.cons .here (.cons .here .nil))) h1
    · refine s_gF S (b := (decide (y5 < 32))) rfl rfl c4 rfl ?_; clear S a; intro a S
      refine s_gF S (b := (decide (y5 < 32))) rfl rfl c4 rfl ?_; clear S a; intro a S
      refine s_gF S (b := (decide (y5 < 32))) rfl rfl c4 rfl ?_; clear S a; intro a S
      refine s_gF S (b := (decide (y5 < 32))) rfl rfl c4 rfl ?_; clear S a; intro a S
      refine s_pick S (b := false) (hc_of rfl c4) rfl rfl ?_; clear S a; intro a S
      refine c_end' ?_
      refine x_thenN ?_
      exact j2 _ false g11 g12 a w (S.sub ⟨rfl, rfl, rfl, rfl, rfl, trivial⟩ (.cons .here (.cons .here .nil))) h1
/-! (smithy/smithyref01.D).Word -/
def smithyref01_D_Word.j1 (y1 : List Int) : Option (List Int) := some y1
def smithyref01_D_Word.b1 (x1 : List Int) (rec1 : Int → (List Int) → Option (List Int)) (y4 : Int) (y5 : List Int) : Option (List Int) := if (decide (0 ≤ y4)) = true then (if 0 ≤ (wr .i64 (Int.tdiv y4 8)) ∧ (wr .i64 (Int.tdiv y4 8)) < 4 then (if 0 ≤ y4 ∧ y4 < 32 then (rec1 (wr .i64 (y4 - 1)) (y5.set (Int.toNat (wr .i64 (Int.tdiv y4 8))) (wr .u64 ((wr .u64 ((rd y5 (wr .i64 (Int.tdiv y4 8))) * 256)) + (wr .u64 (rd x1 y4)))))) else none) else none) else (smithyref01_D_Word.j1 y5)
def smithyref01_D_Word.l1 (x1 : List Int) : Nat → Int → (List Int) → Option (List Int)
  | 0, _, _ => none
  | q + 1, y4, y5 => smithyref01_D_Word.b1 x1 (smithyref01_D_Word.l1 x1 q) y4 y5
def smithyref01_D_Word.f (k : Nat) (x1 : List Int) : Option (List Int) := smithyref01_D_Word.l1 x1 k 31 [0, 0, 0, 0]
theorem smithyref01_D_Word.ok (k : Nat) (x1 : List Int) (r : List Int) (h0 : smithyref01_D_Word.f k x1 = some r) (mi : Mem) (w0 : World) : okL mi [(.agg [.ints .i64 x1 32])] → Frz mi w0 → Calls Tryd.prog 29 (([(.agg [.ints .i64 x1 32])] : List D).map D.val).toArray w0 (Ret mi (.agg [.ints .u64 r 4]) w0) := by
  intro ok hm
  delta smithyref01_D_Word.f at h0
  refine c_enter (n := 24) [(.agg [.ints .i64 x1 32])] (l := [(0, (.agg [.ints .i64 x1 32]))]) Tryd.func29 rfl rfl rfl rfl ok hm ?_
  clear ok hm
  intro a S
  refine c_region ?_
  refine s_box S rfl rfl rfl ?_; clear S a; intro g1 a w S
  refine s_alloc S Z26 rfl ⟨rfl, trivial⟩ rfl ?_; clear S a w; intro g2 a w S
  refine c_end ?_
  refine c_region ?_
  refine s_build S (ds := []) (dv := (.agg [.ints .u64 [0, 0, 0, 0] 4])) rfl (fun _ => by kernel_rfl) ⟨rfl, trivial⟩ rfl ?_; clear S a; intro a S
  refine s_alloc S Z26 rfl ⟨rfl, trivial⟩ rfl ?_; clear S a w; intro g3 a w S
  refine s_store S rfl rfl rfl (s' := [.ints .u64 [0, 0, 0, 0] 4]) .here T26 rfl rfl ?_; clear S w; intro w S
  refine c_end ?_
  refine wp_seq_k ?_
  intro K1 hK1
  have j1 : ∀ (m : Mem) (g4 : Nat) (g5 : Nat) (y1 : List Int) (a : Act) (w : World), St 24 m (B0 mi w0) [(3, (.v (.pointer (some ⟨g4, 0, none⟩)))), (2, (.v (.pointer (some ⟨g5, 0, none⟩))))] [Res.cells g4 26 [.ints .u64 y1 4], Res.cells g5 26 [.ints .u64 [0, 0, 0, 0] 4]] a w → smithyref01_D_Word.j1 y1 = some r → K1 a w := by
    intro m g4 g5 y1 a w S h0
    delta smithyref01_D_Word.j1 at h0
    refine hK1 a w ?_
    refine c_region ?_
    refine s_loada S rfl .here T26 (s' := [.ints .u64 y1 4]) rfl rfl ?_; clear S a; intro a S
    refine s_store S rfl rfl rfl (s' := [.ints .u64 y1 4]) (.there .here) T26 rfl rfl ?_; clear S w; intro w S
    refine c_end ?_
    refine wp_ret ?_
    obtain rfl := Option.some.inj h0
    exact b_ret1 (d := (.agg [.ints .u64 y1 4])) S rfl (resD_cell rfl (.there .here) T26 rfl rfl) fun ok => ⟨rfl, ok, S.below0⟩
  refine c_region ?_
  refine s_assign S rfl rfl ?_; clear S a; intro a S
  refine c_end ?_
  refine wp_block ?_
  refine c_loop (fun q1 a w => ∃ (m : Mem) (y4 : Int) (g12 : Nat) (g13 : Nat) (g14 : Nat) (y5 : List Int), St 24 m (B0 mi w0) [(4, (.v (.int .i64 y4))), (3, (.v (.pointer (some ⟨g12, 0, none⟩)))), (2, (.v (.pointer (some ⟨g13, 0, none⟩)))), (1, (.v (.pointer (some ⟨g14, 0, none⟩))))] [Res.cells g12 26 [.ints .u64 y5 4], Res.cells g13 26 [.ints .u64 [0, 0, 0, 0] 4], Res.cells g14 45 [.ints .i64 x1 32]] a w ∧ smithyref01_D_Word.l1 x1 q1 y4 y5 = some r) ?_ ?_ (k := k) ⟨_, 31, g3, g2, g1, [0, 0, 0, 0], (S.sub ⟨rfl, rfl, rfl, rfl, trivial⟩ (.cons .here (.cons .here (.cons .here .nil)))), h0⟩
  · rintro a w ⟨m, y4, g12, g13, g14, y5, S, h0⟩
    exact (nomatch (show (none : Option (List Int)) = some r from h0))
  · clear S h0
    rintro q1 a w ⟨m, y4, g12, g13, g14, y5, S, h0⟩
    replace h0 : smithyref01_D_Word.b1 x1 (smithyref01_D_Word.l1 x1 q1) y4 y5 = some r := h0
    delta smithyref01_D_Word.b1 at h0
    refine wp_seq ?_
    refine c_region ?_
    refine s_move S rfl rfl ?_; clear S a; intro a S
    refine s_bin S rfl rfl rfl rfl ?_; clear S a; intro a S
    refine c_end ?_
    rcases ite_of h0 with ⟨c1, h1⟩ | ⟨c1, h1⟩ <;> clear h0
    · refine c_condT S rfl c1 ?_
      refine wp_skip ?_
      refine x_thenN ?_
      refine wp_seq ?_
      refine wp_block ?_
      refine c_heldS S (.take 0 (.take 1 (.take 2 (.take 3 (.take 4 (.take 5 (.take 6 (.take 7 (.take 8 (.take 9 (.take 10 (.take 11 (.take 12 (.alts (.run 13 false .done .nil))))))))))))))) 13 [Res.cells g12 26 [.ints .u64 y5 4], Res.cells g13 26 [.ints .u64 [0, 0, 0, 0] 4], Res.cells g14 45 [.ints .i64 x1 32]] (.cons .here (.cons .here (.cons .here .nil))) ⟨Res.stay_cells, Res.stay_cells, Res.stay_cells, trivial⟩ [(4, (.v (.int .i64 y4))), (3, (.v (.pointer (some ⟨g12, 0, none⟩)))), (1, (.v (.pointer (some ⟨g14, 0, none⟩))))] ⟨rfl, rfl, rfl, trivial⟩ (by kernel_rfl) (by kernel_rfl) ?_; clear S; intro w S CL hw le
      refine h_move S CL hw le ⟨rfl, rfl, rfl, trivial⟩ rfl rfl rfl trivial ?_; clear S CL a; intro a S CL
      refine h_quo S CL hw le ⟨rfl, rfl, rfl, rfl, trivial⟩ rfl rfl (by decide) rfl rfl trivial ?_; clear S CL a; intro a S CL
      refine h_move S CL hw le ⟨rfl, rfl, rfl, rfl, rfl, trivial⟩ rfl rfl rfl trivial ?_; clear S CL a; intro a S CL
      refine h_quo S CL hw le ⟨rfl, rfl, rfl, rfl, rfl, rfl, trivial⟩ rfl rfl (by decide) rfl rfl trivial ?_; clear S CL a; intro a S CL
      obtain ⟨c2, h2⟩ := chk_of h1; clear h1
      refine h_iaddr S CL hw le ⟨rfl, rfl, rfl, rfl, rfl, rfl, rfl, trivial⟩ rfl rfl Tryd.underlying26 T24 c2.1 c2.2 (mul1 _ _) rfl rfl trivial ?_; clear S CL a; intro a S CL
      refine h_loadi S CL hw le ⟨rfl, rfl, rfl, rfl, rfl, rfl, rfl, rfl, trivial⟩ (i := (wr .i64 (Int.tdiv y4 8))) rfl .here T24 .here rfl c2.1 c2.2 rfl rfl trivial ?_; clear S CL a; intro a S CL
      refine h_bin S CL hw le ⟨rfl, rfl, rfl, rfl, rfl, rfl, rfl, rfl, rfl, trivial⟩ rfl rfl rfl rfl rfl trivial ?_; clear S CL a; intro a S CL
      refine h_move S CL hw le ⟨rfl, rfl, rfl, rfl, rfl, rfl, rfl, rfl, rfl, rfl, trivial⟩ rfl rfl rfl trivial ?_; clear S CL a; intro a S CL
      obtain ⟨c3, h3⟩ := chk_of h2; clear h2
      refine h_iaddr S CL hw le ⟨rfl, rfl, rfl, rfl, rfl, rfl, rfl, rfl, rfl, rfl, rfl, trivial⟩ rfl rfl Tryd.underlying45 T3 c3.1 c3.2 (mul1 _ _) rfl rfl trivial ?_; clear S CL a; intro a S CL
      refine h_loadi S CL hw le ⟨rfl, rfl, rfl, rfl, rfl, rfl, rfl, rfl, rfl, rfl, rfl, rfl, trivial⟩ (i := y4) rfl (.there (.there .here)) T3 .here rfl c3.1 c3.2 rfl rfl trivial ?_; clear S CL a; intro a S CL
      refine h_conv S CL hw le ⟨rfl, rfl, rfl, rfl, rfl, rfl, rfl, rfl, rfl, rfl, rfl, rfl, rfl, trivial⟩ rfl rfl Tryd.underlying24 rfl rfl trivial ?_; clear S CL a; intro a S CL
      refine h_bin S CL hw le ⟨rfl, rfl, rfl, rfl, rfl, rfl, rfl, rfl, rfl, rfl, rfl, rfl, rfl, rfl, trivial⟩ rfl rfl rfl rfl rfl trivial ?_; clear S CL a; intro a S CL
      refine h_iaddr S CL hw le ⟨rfl, rfl, rfl, rfl, rfl, rfl, rfl, rfl, rfl, rfl, rfl, rfl, rfl, rfl, rfl, trivial⟩ rfl rfl Tryd.underlying26 T24 c2.1 c2.2 (mul1 _ _) rfl rfl trivial ?_; clear S CL a; intro a S CL
      refine h_run' S rfl trivial ?_
      refine s_storei S (i := (wr .i64 (Int.tdiv y4 8))) rfl rfl .here T24 .here rfl c2.1 c2.2 ?_; clear S; intro w S
      refine h_back ⟨fun h => (nomatch h), ?_⟩
      refine h_done ?_; clear CL hw le
      refine x_blockN ?_
      refine x_thenN ?_
      refine c_region' ?_
      refine s_move S rfl rfl ?_; clear S a; intro a S
      refine s_bin S rfl rfl rfl rfl ?_; clear S a; intro a S
      refine s_assign S rfl rfl ?_; clear S a; intro a S
      refine c_end' ?_
      refine x_thenN ?_
      exact ⟨_, (wr .i64 (y4 - 1)), g12, g13, g14, (y5.set (Int.toNat (wr .i64 (Int.tdiv y4 8))) (wr .u64 ((wr .u64 ((rd y5 (wr .i64 (Int.tdiv y4 8))) * 256)) + (wr .u64 (rd x1 y4))))), (S.sub ⟨rfl, rfl, rfl, rfl, trivial⟩ (.cons .here (.cons .here (.cons .here .nil)))), h3⟩
    · refine c_condF S rfl c1 ?_
      refine wp_exit ?_
      refine x_thenX ?_
      refine x_thenX ?_
      refine x_blockX ?_
      refine x_thenN ?_
      exact j1 _ g12 g13 y5 a w (S.sub ⟨rfl, rfl, trivial⟩ (.cons .here (.cons .here .nil))) h1
/-! smithy/smithyref08.Word -/
def smithyref08_Word.f (k : Nat) (x1 : List Int) : Option (List Int) := (smithyref01_From.f k (((x1).drop 0).take 20)).bind fun t1 => ((smithyref01_D_Word.f k t1).bind fun t2 => (some t2))
theorem smithyref08_Word.ok (k : Nat) (x1 : List Int) (r : List Int) (h0 : smithyref08_Word.f k x1 = some r) (mi : Mem) (w0 : World) : okL mi [(.agg [.ints .u8 x1 20])] → Frz mi w0 → Calls Tryd.prog 11 (([(.agg [.ints .u8 x1 20])] : List D).map D.val).toArray w0 (Ret mi (.agg [.ints .u64 r 4]) w0) := by
  intro ok hm
  delta smithyref08_Word.f at h0
  refine c_enter (n := 6) [(.agg [.ints .u8 x1 20])] (l := [(0, (.agg [.ints .u8 x1 20]))]) Tryd.func11 rfl rfl rfl rfl ok hm ?_
  clear ok hm
  intro a S
  refine c_region ?_
  refine s_box S rfl rfl rfl ?_; clear S a; intro g1 a w S
  refine s_alloc S Z26 rfl ⟨rfl, trivial⟩ rfl ?_; clear S a w; intro g2 a w S
  refine c_end ?_
  refine c_region ?_
  refine s_sliceA S (i := 0) (j := 20) (o' := 0) (len := 20) (cap := 20) rfl Tryd.underlying23 T5 (.inl ⟨rfl, rfl⟩) (.inl ⟨rfl, rfl⟩) (by decide) rfl rfl rfl rfl ?_; clear S a; intro a S
  replace S := S.freeze (.there .here)
  obtain ⟨m, le1, S⟩ := S
  replace S := (S.slup' (u := 3) (lo := 0) (c := 20) (ys := ((x1).drop 0).take 20) rfl (Pull.mem (.there .here)).1 .here (.inl rfl) (by decide) (by decide) rfl).2
  obtain ⟨t1, et1, h1⟩ := bind_of h0; clear h0
  refine s_call S (ds := [(.sl (some ⟨g1, 0, none⟩) (((x1).drop 0).take 20).length 20 (RdS (Ty.int .u8) (some ⟨g1, 0, none⟩) (((x1).drop 0).take 20)))]) (d := (.agg [.ints .i64 t1 32])) N28 rfl rfl (smithyref01_From.ok k (((x1).drop 0).take 20) ((some ⟨g1, 0, none⟩), 20) t1 et1 _ _) ?_; clear S a w; intro a w S
  obtain ⟨t2, et2, h2⟩ := bind_of h1; clear h1
  refine s_call S (ds := [(.agg [.ints .i64 t1 32])]) (d := (.agg [.ints .u64 t2 4])) N29 rfl rfl (smithyref01_D_Word.ok k t1 t2 et2 _ _) ?_; clear S a w; intro a w S
  refine s_store S rfl rfl rfl (s' := [.ints .u64 t2 4]) .here T26 rfl rfl ?_; clear S w; intro w S
  refine c_end ?_
  refine wp_ret ?_
  obtain rfl := Option.some.inj h2
  exact b_ret1 (d := (.agg [.ints .u64 t2 4])) S rfl (resD_cell rfl .here T26 rfl rfl) fun ok => ⟨rfl, ok, S.below0⟩
/-! smithy/smithyref08.Of -/
def smithyref08_Of.f (k : Nat) (x1 : List Int) : Option (List Int) := (smithyref01_Of.f k x1).bind fun t1 => ((smithyref01_D_Bytes.f k t1).bind fun t2 => ((smithyref08_last.f k t2).bind fun t3 => (some t3)))
theorem smithyref08_Of.ok (k : Nat) (x1 : List Int) (r : List Int) (h0 : smithyref08_Of.f k x1 = some r) (mi : Mem) (w0 : World) : okL mi [(.agg [.ints .u64 x1 4])] → Frz mi w0 → Calls Tryd.prog 13 (([(.agg [.ints .u64 x1 4])] : List D).map D.val).toArray w0 (Ret mi (.agg [.ints .u8 r 20]) w0) := by
  intro ok hm
  delta smithyref08_Of.f at h0
  refine c_enter (n := 7) [(.agg [.ints .u64 x1 4])] (l := [(0, (.agg [.ints .u64 x1 4]))]) Tryd.func13 rfl rfl rfl rfl ok hm ?_
  clear ok hm
  intro a S
  refine c_region ?_
  refine s_box S rfl rfl rfl ?_; clear S a; intro g1 a w S
  refine s_alloc S Z23 rfl ⟨rfl, trivial⟩ rfl ?_; clear S a w; intro g2 a w S
  refine c_end ?_
  refine c_region ?_
  refine s_loada S rfl (.there .here) T26 (s' := [.ints .u64 x1 4]) rfl rfl ?_; clear S a; intro a S
  obtain ⟨t1, et1, h1⟩ := bind_of h0; clear h0
  refine s_call S (ds := [(.agg [.ints .u64 x1 4])]) (d := (.agg [.ints .i64 t1 32])) N24 rfl rfl (smithyref01_Of.ok k x1 t1 et1 _ _) ?_; clear S a w; intro a w S
  obtain ⟨t2, et2, h2⟩ := bind_of h1; clear h1
  refine s_call S (ds := [(.agg [.ints .i64 t1 32])]) (d := (.agg [.ints .u8 t2 32])) N25 rfl rfl (smithyref01_D_Bytes.ok k t1 t2 et2 _ _) ?_; clear S a w; intro a w S
  obtain ⟨t3, et3, h3⟩ := bind_of h2; clear h2
  refine s_call S (ds := [(.agg [.ints .u8 t2 32])]) (d := (.agg [.ints .u8 t3 20])) N26 rfl rfl (smithyref08_last.ok k t2 t3 et3 _ _) ?_; clear S a w; intro a w S
  refine s_store S rfl rfl rfl (s' := [.ints .u8 t3 20]) .here T23 rfl rfl ?_; clear S w; intro w S
  refine c_end ?_
  refine wp_ret ?_
  obtain rfl := Option.some.inj h3
  exact b_ret1 (d := (.agg [.ints .u8 t3 20])) S rfl (resD_cell rfl .here T23 rfl rfl) fun ok => ⟨rfl, ok, S.below0⟩
/-! smithy/smithylaw08.AddrWords -/
def smithylaw08_AddrWords.f (k : Nat) (x1 : List Int) (x2 : List Int) : Option Bool := (smithylaw08_fixed.f k).bind fun t1 => (if t1 = true then ((addr_Word.f k x1).bind fun t2 => ((smithyref08_Word.f k x1).bind fun t3 => (if (decide (t2 = t3)) = true then ((addr_Of.f k x2).bind fun t4 => ((smithyref08_Of.f k x2).bind fun t5 => (if (decide (t4 = t5)) = true then ((addr_Word.f k x1).bind fun t6 => ((addr_Of.f k t6).bind fun t7 => (some (decide (t7 = x1))))) else (some false)))) else (some false)))) else (some false))
theorem smithylaw08_AddrWords.ok (k : Nat) (x1 : List Int) (x2 : List Int) (r : Bool) (h0 : smithylaw08_AddrWords.f k x1 x2 = some r) (mi : Mem) (w0 : World) (G : Glob mi) : okL mi [(.agg [.ints .u8 x1 20]), (.agg [.ints .u64 x2 4])] → Frz mi w0 → Calls Tryd.prog 4 (([(.agg [.ints .u8 x1 20]), (.agg [.ints .u64 x2 4])] : List D).map D.val).toArray w0 (Ret mi (.v (.bool r)) w0) := by
  intro ok hm
  delta smithylaw08_AddrWords.f at h0
  refine c_enter (n := 27) [(.agg [.ints .u8 x1 20]), (.agg [.ints .u64 x2 4])] (l := [(0, (.agg [.ints .u8 x1 20])), (1, (.agg [.ints .u64 x2 4]))]) Tryd.func4 rfl rfl rfl rfl ok hm ?_
  clear ok hm
  intro a S
  refine c_region ?_
  refine s_box S rfl rfl rfl ?_; clear S a; intro g1 a w S
  refine s_box S rfl rfl rfl ?_; clear S a w; intro g2 a w S
  refine s_assign S rfl rfl ?_; clear S a; intro a S
  refine c_end ?_
  refine wp_seq (c_heldS S (.alts (.run 0 true (.take 1 (.take 2 (.take 4 (.alts (.run 3 true (.alts (.run 5 true (.take 6 (.take 7 (.take 8 (.take 9 (.take 11 (.alts (.run 10 true (.alts (.run 12 true (.take 13 (.take 14 (.take 15 (.take 16 (.take 19 (.alts (.run 17 true (.alts (.run 18 true (.take 20 (.take 21 (.take 22 .done))) .nil)) .nil))))))) .nil)) .nil))))))) .nil)) .nil))))) .nil)) 23 [Res.cells g2 26 [.ints .u64 x2 4], Res.cells g1 23 [.ints .u8 x1 20]] (.cons .here (.cons .here .nil)) ⟨Res.stay_cells, Res.stay_cells, trivial⟩ [(3, (.v (.pointer (some ⟨g2, 0, none⟩)))), (2, (.v (.pointer (some ⟨g1, 0, none⟩))))] ⟨rfl, rfl, trivial⟩ (by kernel_rfl) (by kernel_rfl) ?_); clear S; intro w S CL hw le
  refine h_run' S rfl trivial ?_
  obtain ⟨t1, et1, h1⟩ := bind_of h0; clear h0
  refine s_call S (ds := []) (d := (.v (.bool t1))) N7 rfl rfl (smithylaw08_fixed.ok k t1 et1 _ _ (G.mono S.le)) ?_; clear S a; intro a w S
  replace hw := CL.again hw S (.cons .here (.cons .here .nil)) le
  refine h_back ⟨fun _ => hw, ?_⟩
  replace CL := CL.add (t := 5) (d := (.v (.bool t1))) S rfl rfl
  refine h_move S CL hw le ⟨rfl, rfl, rfl, trivial⟩ rfl rfl rfl trivial ?_; clear S CL a; intro a S CL
  rcases ite_of h1 with ⟨c1, h2⟩ | ⟨c1, h2⟩ <;> clear h1
  · refine h_loada S CL hw le ⟨rfl, rfl, rfl, rfl, trivial⟩ rfl (.there .here) T23 (s' := [.ints .u8 x1 20]) rfl rfl rfl ⟨_, _, rfl, rfl, c1⟩ ?_; clear S CL a; intro a S CL
    refine h_loada S CL hw le ⟨rfl, rfl, rfl, rfl, rfl, trivial⟩ rfl (.there .here) T23 (s' := [.ints .u8 x1 20]) rfl rfl rfl ⟨_, _, rfl, rfl, c1⟩ ?_; clear S CL a; intro a S CL
    refine h_run' S rfl ⟨_, _, rfl, rfl, c1⟩ ?_
    obtain ⟨t2, et2, h3⟩ := bind_of h2; clear h2
    refine s_call S (ds := [(.agg [.ints .u8 x1 20])]) (d := (.agg [.ints .u64 t2 4])) N10 rfl rfl (addr_Word.ok k x1 t2 et2 _ _) ?_; clear S a; intro a w S
    replace hw := CL.again hw S (.cons .here (.cons .here .nil)) le
    refine h_back ⟨fun _ => hw, ?_⟩
    replace CL := CL.add (t := 8) (d := (.agg [.ints .u64 t2 4])) S rfl rfl
    refine h_run' S rfl ⟨_, _, rfl, rfl, c1⟩ ?_
    obtain ⟨t3, et3, h4⟩ := bind_of h3; clear h3
    refine s_call S (ds := [(.agg [.ints .u8 x1 20])]) (d := (.agg [.ints .u64 t3 4])) N11 rfl rfl (smithyref08_Word.ok k x1 t3 et3 _ _) ?_; clear S a; intro a w S
    replace hw := CL.again hw S (.cons .here (.cons .here .nil)) le
    refine h_back ⟨fun _ => hw, ?_⟩
    replace CL := CL.add (t := 10) (d := (.agg [.ints .u64 t3 4])) S rfl rfl
    refine h_eqa S CL hw le ⟨rfl, rfl, rfl, rfl, rfl, rfl, rfl, rfl, trivial⟩ rfl rfl Tryd.underlying26 Tryd.underlying24 T24 Q26 rfl rfl ⟨_, _, rfl, rfl, c1⟩ ?_; clear S CL a; intro a S CL
    refine h_pick S CL hw le ⟨rfl, rfl, rfl, rfl, rfl, rfl, rfl, rfl, rfl, trivial⟩ (b := true) (hc_of rfl c1) rfl rfl rfl trivial ?_; clear S CL a; intro a S CL
    refine h_move S CL hw le ⟨rfl, rfl, rfl, rfl, rfl, rfl, rfl, rfl, rfl, rfl, trivial⟩ rfl rfl rfl trivial ?_; clear S CL a; intro a S CL
    rcases ite_of h4 with ⟨c2, h5⟩ | ⟨c2, h5⟩ <;> clear h4
    · refine h_loada S CL hw le ⟨rfl, rfl, rfl, rfl, rfl, rfl, rfl, rfl, rfl, rfl, rfl, trivial⟩ rfl .here T26 (s' := [.ints .u64 x2 4]) rfl rfl rfl ⟨_, _, rfl, rfl, c2⟩ ?_; clear S CL a; intro a S CL
      refine h_loada S CL hw le ⟨rfl, rfl, rfl, rfl, rfl, rfl, rfl, rfl, rfl, rfl, rfl, rfl, trivial⟩ rfl .here T26 (s' := [.ints .u64 x2 4]) rfl rfl rfl ⟨_, _, rfl, rfl, c2⟩ ?_; clear S CL a; intro a S CL
      refine h_run' S rfl ⟨_, _, rfl, rfl, c2⟩ ?_
      obtain ⟨t4, et4, h6⟩ := bind_of h5; clear h5
      refine s_call S (ds := [(.agg [.ints .u64 x2 4])]) (d := (.agg [.ints .u8 t4 20])) N12 rfl rfl (addr_Of.ok k x2 t4 et4 _ _) ?_; clear S a; intro a w S
      replace hw := CL.again hw S (.cons .here (.cons .here .nil)) le
      refine h_back ⟨fun _ => hw, ?_⟩
      replace CL := CL.add (t := 15) (d := (.agg [.ints .u8 t4 20])) S rfl rfl
      refine h_run' S rfl ⟨_, _, rfl, rfl, c2⟩ ?_
      obtain ⟨t5, et5, h7⟩ := bind_of h6; clear h6
      refine s_call S (ds := [(.agg [.ints .u64 x2 4])]) (d := (.agg [.ints .u8 t5 20])) N13 rfl rfl (smithyref08_Of.ok k x2 t5 et5 _ _) ?_; clear S a; intro a w S
      replace hw := CL.again hw S (.cons .here (.cons .here .nil)) le
      refine h_back ⟨fun _ => hw, ?_⟩
      replace CL := CL.add (t := 17) (d := (.agg [.ints .u8 t5 20])) S rfl rfl
      refine h_eqa S CL hw le ⟨rfl, rfl, rfl, rfl, rfl, rfl, rfl, rfl, rfl, rfl, rfl, rfl, rfl, rfl, rfl, trivial⟩ rfl rfl Tryd.underlying23 Tryd.underlying5 T5 Q23 rfl rfl ⟨_, _, rfl, rfl, c2⟩ ?_; clear S CL a; intro a S CL
      refine h_pick S CL hw le ⟨rfl, rfl, rfl, rfl, rfl, rfl, rfl, rfl, rfl, rfl, rfl, rfl, rfl, rfl, rfl, rfl, trivial⟩ (b := true) (hc_of rfl c2) rfl rfl rfl trivial ?_; clear S CL a; intro a S CL
      refine h_move S CL hw le ⟨rfl, rfl, rfl, rfl, rfl, rfl, rfl, rfl, rfl, rfl, rfl, rfl, rfl, rfl, rfl, rfl, rfl, trivial⟩ rfl rfl rfl trivial ?_; clear S CL a; intro a S CL
      rcases ite_of h7 with ⟨c3, h8⟩ | ⟨c3, h8⟩ <;> clear h7
      · refine h_loada S CL hw le ⟨rfl, rfl, rfl, rfl, rfl, rfl, rfl, rfl, rfl, rfl, rfl, rfl, rfl, rfl, rfl, rfl, rfl, rfl, trivial⟩ rfl (.there .here) T23 (s' := [.ints .u8 x1 20]) rfl rfl rfl ⟨_, _, rfl, rfl, c3⟩ ?_; clear S CL a; intro a S CL
        refine h_loada S CL hw le ⟨rfl, rfl, rfl, rfl, rfl, rfl, rfl, rfl, rfl, rfl, rfl, rfl, rfl, rfl, rfl, rfl, rfl, rfl, rfl, trivial⟩ rfl (.there .here) T23 (s' := [.ints .u8 x1 20]) rfl rfl rfl ⟨_, _, rfl, rfl, c3⟩ ?_; clear S CL a; intro a S CL
        refine h_run' S rfl ⟨_, _, rfl, rfl, c3⟩ ?_
        obtain ⟨t6, et6, h9⟩ := bind_of h8; clear h8
        refine s_call S (ds := [(.agg [.ints .u8 x1 20])]) (d := (.agg [.ints .u64 t6 4])) N10 rfl rfl (addr_Word.ok k x1 t6 et6 _ _) ?_; clear S a; intro a w S
        replace hw := CL.again hw S (.cons .here (.cons .here .nil)) le
        refine h_back ⟨fun _ => hw, ?_⟩
        refine h_run' S rfl ⟨_, _, rfl, rfl, c3⟩ ?_
        obtain ⟨t7, et7, h10⟩ := bind_of h9; clear h9
        refine s_call S (ds := [(.agg [.ints .u64 t6 4])]) (d := (.agg [.ints .u8 t7 20])) N12 rfl rfl (addr_Of.ok k t6 t7 et7 _ _) ?_; clear S a; intro a w S
        replace hw := CL.again hw S (.cons .here (.cons .here .nil)) le
        refine h_back ⟨fun _ => hw, ?_⟩
        replace CL := CL.add (t := 23) (d := (.agg [.ints .u8 t7 20])) S rfl rfl
        refine h_eqa S CL hw le ⟨rfl, rfl, rfl, rfl, rfl, rfl, rfl, rfl, rfl, rfl, rfl, rfl, rfl, rfl, rfl, rfl, rfl, rfl, rfl, rfl, rfl, trivial⟩ rfl rfl Tryd.underlying23 Tryd.underlying5 T5 Q23 rfl rfl ⟨_, _, rfl, rfl, c3⟩ ?_; clear S CL a; intro a S CL
        refine h_pick S CL hw le ⟨rfl, rfl, rfl, rfl, rfl, rfl, rfl, rfl, rfl, rfl, rfl, rfl, rfl, rfl, rfl, rfl, rfl, rfl, rfl, rfl, rfl, rfl, trivial⟩ (b := true) (hc_of rfl c3) rfl rfl rfl trivial ?_; clear S CL a; intro a S CL
        refine h_assign S CL hw le ⟨rfl, rfl, rfl, rfl, rfl, rfl, rfl, rfl, rfl, rfl, rfl, rfl, rfl, rfl, rfl, rfl, rfl, rfl, rfl, rfl, rfl, rfl, rfl, trivial⟩ rfl rfl rfl trivial ?_; clear S CL a; intro a S CL
        refine h_done ?_; clear CL hw le
        refine x_thenN ?_
        refine wp_ret ?_
        obtain rfl := Option.some.inj h10
        exact b_ret1 (d := (.v (.bool (decide (t7 = x1))))) S rfl rfl fun ok => ⟨rfl, ok, S.below0⟩
      · refine h_skip S CL rfl rfl rfl (ne_bool c3) rfl ?_; clear S CL a; intro a S CL
        refine h_skip S CL rfl rfl rfl (ne_bool c3) rfl ?_; clear S CL a; intro a S CL
        refine h_skipRt S rfl rfl rfl (ne_bool c3) rfl ?_; clear S a; intro a S
        replace hw := CL.again hw S (.cons .here (.cons .here .nil)) le
        refine h_back ⟨fun _ => hw, ?_⟩
        refine h_skipRt S rfl rfl rfl (ne_bool c3) rfl ?_; clear S a; intro a S
        replace hw := CL.again hw S (.cons .here (.cons .here .nil)) le
        refine h_back ⟨fun _ => hw, ?_⟩
        replace CL := CL.add (t := 23) (d := .u) S rfl rfl
        refine h_skip S CL rfl rfl rfl (ne_bool c3) rfl ?_; clear S CL a; intro a S CL
        refine h_pick S CL hw le ⟨rfl, rfl, rfl, rfl, rfl, rfl, rfl, rfl, rfl, rfl, rfl, rfl, rfl, rfl, rfl, rfl, rfl, rfl, rfl, rfl, rfl, rfl, trivial⟩ (b := false) (hc_of rfl c3) rfl rfl rfl trivial ?_; clear S CL a; intro a S CL
        refine h_assign S CL hw le ⟨rfl, rfl, rfl, rfl, rfl, rfl, rfl, rfl, rfl, rfl, rfl, rfl, rfl, rfl, rfl, rfl, rfl, rfl, rfl, rfl, rfl, rfl, rfl, trivial⟩ rfl rfl rfl trivial ?_; clear S CL a; intro a S CL
        refine h_done ?_; clear CL hw le
        refine x_thenN ?_
        refine wp_ret ?_
        obtain rfl := Option.some.inj h8
        exact b_ret1 (d := (.v (.bool false))) S rfl rfl fun ok => ⟨rfl, ok, S.below0⟩
    · refine h_skip S CL rfl rfl rfl (ne_bool c2) rfl ?_; clear S CL a; intro a S CL
      refine h_skip S CL rfl rfl rfl (ne_bool c2) rfl ?_; clear S CL a; intro a S CL
      refine h_skipRt S rfl rfl rfl (ne_bool c2) rfl ?_; clear S a; intro a S
      replace hw := CL.again hw S (.cons .here (.cons .here .nil)) le
      refine h_back ⟨fun _ => hw, ?_⟩
      replace CL := CL.add (t := 15) (d := .u) S rfl rfl
      refine h_skipRt S rfl rfl rfl (ne_bool c2) rfl ?_; clear S a; intro a S
      replace hw := CL.again hw S (.cons .here (.cons .here .nil)) le
      refine h_back ⟨fun _ => hw, ?_⟩
      replace CL := CL.add (t := 17) (d := .u) S rfl rfl
      refine h_skip S CL rfl rfl rfl (ne_bool c2) rfl ?_; clear S CL a; intro a S CL
      refine h_pick S CL hw le ⟨rfl, rfl, rfl, rfl, rfl, rfl, rfl, rfl, rfl, rfl, rfl, rfl, rfl, rfl, rfl, rfl, trivial⟩ (b := false) (hc_of rfl c2) rfl rfl rfl trivial ?_; clear S CL a; intro a S CL
      refine h_move S CL hw le ⟨rfl, rfl, rfl, rfl, rfl, rfl, rfl, rfl, rfl, rfl, rfl, rfl, rfl, rfl, rfl, rfl, rfl, trivial⟩ rfl rfl rfl trivial ?_; clear S CL a; intro a S CL
      refine h_skip S CL rfl rfl rfl (ne_bool rfl) rfl ?_; clear S CL a; intro a S CL
      refine h_skip S CL rfl rfl rfl (ne_bool rfl) rfl ?_; clear S CL a; intro a S CL
      refine h_skipRt S rfl rfl rfl (ne_bool rfl) rfl ?_; clear S a; intro a S
      replace hw := CL.again hw S (.cons .here (.cons .here .nil)) le
      refine h_back ⟨fun _ => hw, ?_⟩
      refine h_skipRt S rfl rfl rfl (ne_bool rfl) rfl ?_; clear S a; intro a S
      replace hw := CL.again hw S (.cons .here (.cons .here .nil)) le
      refine h_back ⟨fun _ => hw, ?_⟩
      replace CL := CL.add (t := 23) (d := .u) S rfl rfl
      refine h_skip S CL rfl rfl rfl (ne_bool rfl) rfl ?_; clear S CL a; intro a S CL
      refine h_pick S CL hw le ⟨rfl, rfl, rfl, rfl, rfl, rfl, rfl, rfl, rfl, rfl, rfl, rfl, rfl, rfl, rfl, rfl, rfl, rfl, rfl, rfl, rfl, rfl, trivial⟩ (b := false) (hc_of rfl rfl) rfl rfl rfl trivial ?_; clear S CL a; intro a S CL
      refine h_assign S CL hw le ⟨rfl, rfl, rfl, rfl, rfl, rfl, rfl, rfl, rfl, rfl, rfl, rfl, rfl, rfl, rfl, rfl, rfl, rfl, rfl, rfl, rfl, rfl, rfl, trivial⟩ rfl rfl rfl trivial ?_; clear S CL a; intro a S CL
      refine h_done ?_; clear CL hw le
      refine x_thenN ?_
      refine wp_ret ?_
      obtain rfl := Option.some.inj h5
      exact b_ret1 (d := (.v (.bool false))) S rfl rfl fun ok => ⟨rfl, ok, S.below0⟩
  · refine h_skip S CL rfl rfl rfl (ne_bool c1) rfl ?_; clear S CL a; intro a S CL
    refine h_skip S CL rfl rfl rfl (ne_bool c1) rfl ?_; clear S CL a; intro a S CL
    refine h_skipRt S rfl rfl rfl (ne_bool c1) rfl ?_; clear S a; intro a S
    replace hw := CL.again hw S (.cons .here (.cons .here .nil)) le
    refine h_back ⟨fun _ => hw, ?_⟩
    replace CL := CL.add (t := 8) (d := .u) S rfl rfl
    refine h_skipRt S rfl rfl rfl (ne_bool c1) rfl ?_; clear S a; intro a S
    replace hw := CL.again hw S (.cons .here (.cons .here .nil)) le
    refine h_back ⟨fun _ => hw, ?_⟩
    replace CL := CL.add (t := 10) (d := .u) S rfl rfl
    refine h_skip S CL rfl rfl rfl (ne_bool c1) rfl ?_; clear S CL a; intro a S CL
    refine h_pick S CL hw le ⟨rfl, rfl, rfl, rfl, rfl, rfl, rfl, rfl, rfl, trivial⟩ (b := false) (hc_of rfl c1) rfl rfl rfl trivial ?_; clear S CL a; intro a S CL
    refine h_move S CL hw le ⟨rfl, rfl, rfl, rfl, rfl, rfl, rfl, rfl, rfl, rfl, trivial⟩ rfl rfl rfl trivial ?_; clear S CL a; intro a S CL
    refine h_skip S CL rfl rfl rfl (ne_bool rfl) rfl ?_; clear S CL a; intro a S CL
    refine h_skip S CL rfl rfl rfl (ne_bool rfl) rfl ?_; clear S CL a; intro a S CL
    refine h_skipRt S rfl rfl rfl (ne_bool rfl) rfl ?_; clear S a; intro a S
    replace hw := CL.again hw S (.cons .here (.cons .here .nil)) le
    refine h_back ⟨fun _ => hw, ?_⟩
    replace CL := CL.add (t := 15) (d := .u) S rfl rfl
    refine h_skipRt S rfl rfl rfl (ne_bool rfl) rfl ?_; clear S a; intro a S
    replace hw := CL.again hw S (.cons .here (.cons .here .nil)) le
    refine h_back ⟨fun _ => hw, ?_⟩
    replace CL := CL.add (t := 17) (d := .u) S rfl rfl
    refine h_skip S CL rfl rfl rfl (ne_bool rfl) rfl ?_; clear S CL a; intro a S CL
    refine h_pick S CL hw le ⟨rfl, rfl, rfl, rfl, rfl, rfl, rfl, rfl, rfl, rfl, rfl, rfl, rfl, rfl, rfl, rfl, trivial⟩ (b := false) (hc_of rfl rfl) rfl rfl rfl trivial ?_; clear S CL a; intro a S CL
    refine h_move S CL hw le ⟨rfl, rfl, rfl, rfl, rfl, rfl, rfl, rfl, rfl, rfl, rfl, rfl, rfl, rfl, rfl, rfl, rfl, trivial⟩ rfl rfl rfl trivial ?_; clear S CL a; intro a S CL
    refine h_skip S CL rfl rfl rfl (ne_bool rfl) rfl ?_; clear S CL a; intro a S CL
    refine h_skip S CL rfl rfl rfl (ne_bool rfl) rfl ?_; clear S CL a; intro a S CL
    refine h_skipRt S rfl rfl rfl (ne_bool rfl) rfl ?_; clear S a; intro a S
    replace hw := CL.again hw S (.cons .here (.cons .here .nil)) le
    refine h_back ⟨fun _ => hw, ?_⟩
    refine h_skipRt S rfl rfl rfl (ne_bool rfl) rfl ?_; clear S a; intro a S
    replace hw := CL.again hw S (.cons .here (.cons .here .nil)) le
    refine h_back ⟨fun _ => hw, ?_⟩
    replace CL := CL.add (t := 23) (d := .u) S rfl rfl
    refine h_skip S CL rfl rfl rfl (ne_bool rfl) rfl ?_; clear S CL a; intro a S CL
    refine h_pick S CL hw le ⟨rfl, rfl, rfl, rfl, rfl, rfl, rfl, rfl, rfl, rfl, rfl, rfl, rfl, rfl, rfl, rfl, rfl, rfl, rfl, rfl, rfl, rfl, trivial⟩ (b := false) (hc_of rfl rfl) rfl rfl rfl trivial ?_; clear S CL a; intro a S CL
    refine h_assign S CL hw le ⟨rfl, rfl, rfl, rfl, rfl, rfl, rfl, rfl, rfl, rfl, rfl, rfl, rfl, rfl, rfl, rfl, rfl, rfl, rfl, rfl, rfl, rfl, rfl, trivial⟩ rfl rfl rfl trivial ?_; clear S CL a; intro a S CL
    refine h_done ?_; clear CL hw le
    refine x_thenN ?_
    refine wp_ret ?_
    obtain rfl := Option.some.inj h2
    exact b_ret1 (d := (.v (.bool false))) S rfl rfl fun ok => ⟨rfl, ok, S.below0⟩
/-! smithy/smithyref08.Less -/
def smithyref08_Less.j1 : Option Bool := some false
def smithyref08_Less.b1 (x1 : List Int) (x2 : List Int) (rec1 : Int → Option Bool) (y1 : Int) : Option Bool := if (decide (y1 < 20)) = true then (if 0 ≤ y1 ∧ y1 < 20 then (if ((rd x1 y1) != (rd x2 y1)) = true then (some (decide ((rd x1 y1) < (rd x2 y1)))) else (rec1 (wr .i64 (y1 + 1)))) else none) else smithyref08_Less.j1
def smithyref08_Less.l1 (x1 : List Int) (x2 : List Int) : Nat → Int → Option Bool
  | 0, _ => none
  | q + 1, y1 => smithyref08_Less.b1 x1 x2 (smithyref08_Less.l1 x1 x2 q) y1
def smithyref08_Less.f (k : Nat) (x1 : List Int) (x2 : List Int) : Option Bool := smithyref08_Less.l1 x1 x2 k 0
theorem smithyref08_Less.ok (k : Nat) (x1 : List Int) (x2 : List Int) (r : Bool) (h0 : smithyref08_Less.f k x1 x2 = some r) (mi : Mem) (w0 : World) : okL mi [(.agg [.ints .u8 x1 20]), (.agg [.ints .u8 x2 20])] → Frz mi w0 → Calls Tryd.prog 14 (([(.agg [.ints .u8 x1 20]), (.agg [.ints .u8 x2 20])] : List D).map D.val).toArray w0 (Ret mi (.v (.bool r)) w0) := by
  intro ok hm
  delta smithyref08_Less.f at h0
  refine c_enter (n := 24) [(.agg [.ints .u8 x1 20]), (.agg [.ints .u8 x2 20])] (l := [(0, (.agg [.ints .u8 x1 20])), (1, (.agg [.ints .u8 x2 20]))]) Tryd.func14 rfl rfl rfl rfl ok hm ?_
  clear ok hm
  intro a S
  refine c_region ?_
  refine s_box S rfl rfl rfl ?_; clear S a; intro g1 a w S
  refine s_box S rfl rfl rfl ?_; clear S a w; intro g2 a w S
  refine s_assign S rfl rfl ?_; clear S a; intro a S
  refine c_end ?_
  refine wp_seq_k ?_
  intro K1 hK1
  have j1 : ∀ (m : Mem) (a : Act) (w : World), St 24 m (B0 mi w0) [] [] a w → smithyref08_Less.j1 = some r → K1 a w := by
    intro m a w S h0
    delta smithyref08_Less.j1 at h0
    refine hK1 a w ?_
    refine c_region ?_
    refine s_assign S rfl rfl ?_; clear S a; intro a S
    refine c_end ?_
    refine wp_ret ?_
    obtain rfl := Option.some.inj h0
    exact b_ret1 (d := (.v (.bool false))) S rfl rfl fun ok => ⟨rfl, ok, S.below0⟩
  refine c_region ?_
  refine s_assign S rfl rfl ?_; clear S a; intro a S
  refine c_end ?_
  refine wp_block ?_
  refine c_loop (fun q1 a w => ∃ (m : Mem) (y1 : Int) (g7 : Nat) (g8 : Nat), St 24 m (B0 mi w0) [(5, (.v (.int .i64 y1))), (3, (.v (.pointer (some ⟨g7, 0, none⟩)))), (2, (.v (.pointer (some ⟨g8, 0, none⟩))))] [Res.cells g7 23 [.ints .u8 x2 20], Res.cells g8 23 [.ints .u8 x1 20]] a w ∧ smithyref08_Less.l1 x1 x2 q1 y1 = some r) ?_ ?_ (k := k) ⟨_, 0, g2, g1, (S.sub ⟨rfl, rfl, rfl, trivial⟩ (.cons .here (.cons .here .nil))), h0⟩
  · rintro a w ⟨m, y1, g7, g8, S, h0⟩
    exact (nomatch (show (none : Option Bool) = some r from h0))
  · clear S h0
    rintro q1 a w ⟨m, y1, g7, g8, S, h0⟩
    replace h0 : smithyref08_Less.b1 x1 x2 (smithyref08_Less.l1 x1 x2 q1) y1 = some r := h0
    delta smithyref08_Less.b1 at h0
    refine wp_seq ?_
    refine c_region ?_
    refine s_move S rfl rfl ?_; clear S a; intro a S
    refine s_bin S rfl rfl rfl rfl ?_; clear S a; intro a S
    refine c_end ?_
    rcases ite_of h0 with ⟨c1, h1⟩ | ⟨c1, h1⟩ <;> clear h0
    · refine c_condT S rfl c1 ?_
      refine wp_skip ?_
      refine x_thenN ?_
      refine wp_seq ?_
      refine wp_block ?_
      refine wp_seq (c_heldS S (.take 0 (.take 1 (.take 2 (.take 3 (.take 4 (.take 5 (.take 6 .done))))))) 7 [Res.cells g7 23 [.ints .u8 x2 20], Res.cells g8 23 [.ints .u8 x1 20]] (.cons .here (.cons .here .nil)) ⟨Res.stay_cells, Res.stay_cells, trivial⟩ [(5, (.v (.int .i64 y1))), (3, (.v (.pointer (some ⟨g7, 0, none⟩)))), (2, (.v (.pointer (some ⟨g8, 0, none⟩))))] ⟨rfl, rfl, rfl, trivial⟩ (by kernel_rfl) (by kernel_rfl) ?_); clear S; intro w S CL hw le
      refine h_move S CL hw le ⟨rfl, rfl, rfl, trivial⟩ rfl rfl rfl trivial ?_; clear S CL a; intro a S CL
      obtain ⟨c2, h2⟩ := chk_of h1; clear h1
      refine h_iaddr S CL hw le ⟨rfl, rfl, rfl, rfl, trivial⟩ rfl rfl Tryd.underlying23 T5 c2.1 c2.2 (mul1 _ _) rfl rfl trivial ?_; clear S CL a; intro a S CL
      refine h_loadi S CL hw le ⟨rfl, rfl, rfl, rfl, rfl, trivial⟩ (i := y1) rfl (.there .here) T5 .here rfl c2.1 c2.2 rfl rfl trivial ?_; clear S CL a; intro a S CL
      refine h_move S CL hw le ⟨rfl, rfl, rfl, rfl, rfl, rfl, trivial⟩ rfl rfl rfl trivial ?_; clear S CL a; intro a S CL
      refine h_iaddr S CL hw le ⟨rfl, rfl, rfl, rfl, rfl, rfl, rfl, trivial⟩ rfl rfl Tryd.underlying23 T5 c2.1 c2.2 (mul1 _ _) rfl rfl trivial ?_; clear S CL a; intro a S CL
      refine h_loadi S CL hw le ⟨rfl, rfl, rfl, rfl, rfl, rfl, rfl, rfl, trivial⟩ (i := y1) rfl .here T5 .here rfl c2.1 c2.2 rfl rfl trivial ?_; clear S CL a; intro a S CL
      refine h_bin S CL hw le ⟨rfl, rfl, rfl, rfl, rfl, rfl, rfl, rfl, rfl, trivial⟩ rfl rfl rfl rfl rfl trivial ?_; clear S CL a; intro a S CL
      refine h_done ?_; clear CL hw le
      refine x_thenN ?_
      rcases ite_of h2 with ⟨c3, h3⟩ | ⟨c3, h3⟩ <;> clear h2
      · refine c_condT S rfl c3 ?_
        refine wp_seq (c_heldS S (.take 0 (.take 1 (.take 2 (.take 3 (.take 4 (.take 5 (.take 6 (.take 7 .done)))))))) 8 [Res.cells g7 23 [.ints .u8 x2 20], Res.cells g8 23 [.ints .u8 x1 20]] (.cons .here (.cons .here .nil)) ⟨Res.stay_cells, Res.stay_cells, trivial⟩ [(5, (.v (.int .i64 y1))), (3, (.v (.pointer (some ⟨g7, 0, none⟩)))), (2, (.v (.pointer (some ⟨g8, 0, none⟩))))] ⟨rfl, rfl, rfl, trivial⟩ (by kernel_rfl) (by kernel_rfl) ?_); clear S; intro w S CL hw le
        refine h_move S CL hw le ⟨rfl, rfl, rfl, trivial⟩ rfl rfl rfl trivial ?_; clear S CL a; intro a S CL
        refine h_iaddr S CL hw le ⟨rfl, rfl, rfl, rfl, trivial⟩ rfl rfl Tryd.underlying23 T5 c2.1 c2.2 (mul1 _ _) rfl rfl trivial ?_; clear S CL a; intro a S CL
        refine h_loadi S CL hw le ⟨rfl, rfl, rfl, rfl, rfl, trivial⟩ (i := y1) rfl (.there .here) T5 .here rfl c2.1 c2.2 rfl rfl trivial ?_; clear S CL a; intro a S CL
        refine h_move S CL hw le ⟨rfl, rfl, rfl, rfl, rfl, rfl, trivial⟩ rfl rfl rfl trivial ?_; clear S CL a; intro a S CL
        refine h_iaddr S CL hw le ⟨rfl, rfl, rfl, rfl, rfl, rfl, rfl, trivial⟩ rfl rfl Tryd.underlying23 T5 c2.1 c2.2 (mul1 _ _) rfl rfl trivial ?_; clear S CL a; intro a S CL
        refine h_loadi S CL hw le ⟨rfl, rfl, rfl, rfl, rfl, rfl, rfl, rfl, trivial⟩ (i := y1) rfl .here T5 .here rfl c2.1 c2.2 rfl rfl trivial ?_; clear S CL a; intro a S CL
        refine h_bin S CL hw le ⟨rfl, rfl, rfl, rfl, rfl, rfl, rfl, rfl, rfl, trivial⟩ rfl rfl rfl rfl rfl trivial ?_; clear S CL a; intro a S CL
        refine h_assign S CL hw le ⟨rfl, rfl, rfl, rfl, rfl, rfl, rfl, rfl, rfl, rfl, trivial⟩ rfl rfl rfl trivial ?_; clear S CL a; intro a S CL
        refine h_done ?_; clear CL hw le
        refine x_thenN ?_
        refine wp_ret ?_
        refine x_blockR ?_
        refine x_thenR ?_
        refine x_thenR ?_
        refine x_blockR ?_
        refine x_thenR ?_
        obtain rfl := Option.some.inj h3
        exact b_ret1 (d := (.v (.bool (decide ((rd x1 y1) < (rd x2 y1)))))) S rfl rfl fun ok => ⟨rfl, ok, S.below0⟩
      · refine c_condF S rfl c3 ?_
        refine wp_skip ?_
        refine x_blockN ?_
        refine x_thenN ?_
        refine c_region' ?_
        refine s_move S rfl rfl ?_; clear S a; intro a S
        refine s_bin S rfl rfl rfl rfl ?_; clear S a; intro a S
        refine s_assign S rfl rfl ?_; clear S a; intro a S
        refine c_end' ?_
        refine x_thenN ?_
        exact ⟨_, (wr .i64 (y1 + 1)), g7, g8, (S.sub ⟨rfl, rfl, rfl, trivial⟩ (.cons .here (.cons .here .nil))), h3⟩
    · refine c_condF S rfl c1 ?_
      refine wp_exit ?_
      refine x_thenX ?_
      refine x_thenX ?_
      refine x_blockX ?_
      refine x_thenN ?_
      exact j1 _ a w (S.sub trivial .nil) h1
/-! smithy/word.Small -/
def word_Small.f (x1 : List Int) : Option (Int × Bool) := if ((bits .or .u64 (bits .or .u64 (rd x1 1) (rd x1 2)) (rd x1 3)) != 0) = true then (some (0, false)) else (some (rd x1 0, true))
theorem word_Small.ok (x1 : List Int) (r : Int × Bool) (h0 : word_Small.f x1 = some r) (mi : Mem) (w0 : World) : okL mi [(.agg [.ints .u64 x1 4])] → Frz mi w0 → Calls Tryd.prog 31 (([(.agg [.ints .u64 x1 4])] : List D).map D.val).toArray w0 (Ret mi (.tup [(false, [.one (.int .u64 r.1)]), (false, [.one (.bool r.2)])]) w0) := by
  intro ok hm
  delta word_Small.f at h0
  refine c_enter (n := 15) [(.agg [.ints .u64 x1 4])] (l := [(0, (.agg [.ints .u64 x1 4]))]) Tryd.func31 rfl rfl rfl rfl ok hm ?_
  clear ok hm
  intro a S
  refine c_region ?_
  refine s_box S rfl rfl rfl ?_; clear S a; intro g1 a w S
  refine s_assign S rfl rfl ?_; clear S a; intro a S
  refine s_assign S rfl rfl ?_; clear S a; intro a S
  refine c_end ?_
  refine wp_seq ?_
  refine c_region ?_
  refine s_iaddr S (o' := 1) rfl rfl Tryd.underlying26 T24 (by decide) (by decide) rfl rfl ?_; clear S a; intro a S
  refine s_loadi S (i := 1) rfl .here T24 .here rfl (by decide) (by decide) rfl ?_; clear S a; intro a S
  refine s_iaddr S (o' := 2) rfl rfl Tryd.underlying26 T24 (by decide) (by decide) rfl rfl ?_; clear S a; intro a S
  refine s_loadi S (i := 2) rfl .here T24 .here rfl (by decide) (by decide) rfl ?_; clear S a; intro a S
  refine s_bin S rfl rfl rfl rfl ?_; clear S a; intro a S
  refine s_iaddr S (o' := 3) rfl rfl Tryd.underlying26 T24 (by decide) (by decide) rfl rfl ?_; clear S a; intro a S
  refine s_loadi S (i := 3) rfl .here T24 .here rfl (by decide) (by decide) rfl ?_; clear S a; intro a S
  refine s_bin S rfl rfl rfl rfl ?_; clear S a; intro a S
  refine s_bin S rfl rfl rfl rfl ?_; clear S a; intro a S
  refine c_end ?_
  rcases ite_of h0 with ⟨c1, h1⟩ | ⟨c1, h1⟩ <;> clear h0
  · refine c_condT S rfl c1 ?_
    refine c_region ?_
    refine s_assign S rfl rfl ?_; clear S a; intro a S
    refine s_assign S rfl rfl ?_; clear S a; intro a S
    refine c_end ?_
    refine wp_ret ?_
    refine x_thenR ?_
    obtain rfl := Option.some.inj h1
    exact b_ret2 (d1 := (.v (.int .u64 0))) (d2 := (.v (.bool false))) S rfl rfl rfl fun ok1 ok2 => ⟨rfl, ⟨⟨ok1, trivial⟩, ⟨ok2, trivial⟩, trivial⟩, S.below0⟩
  · refine c_condF S rfl c1 ?_
    refine wp_skip ?_
    refine x_thenN ?_
    refine c_region ?_
    refine s_iaddr S (o' := 0) rfl rfl Tryd.underlying26 T24 (by decide) (by decide) rfl rfl ?_; clear S a; intro a S
    refine s_loadi S (i := 0) rfl .here T24 .here rfl (by decide) (by decide) rfl ?_; clear S a; intro a S
    refine s_assign S rfl rfl ?_; clear S a; intro a S
    refine s_assign S rfl rfl ?_; clear S a; intro a S
    refine c_end ?_
    refine wp_ret ?_
    obtain rfl := Option.some.inj h1
    exact b_ret2 (d1 := (.v (.int .u64 (rd x1 0)))) (d2 := (.v (.bool true))) S rfl rfl rfl fun ok1 ok2 => ⟨rfl, ⟨⟨ok1, trivial⟩, ⟨ok2, trivial⟩, trivial⟩, S.below0⟩
/-! smithy/addr.Precompile -/
def addr_Precompile.j1 (t2 : Int × Bool) (y1 : Bool) : Option Int := if y1 = true then (some 0) else (some (wr .i64 t2.1))
def addr_Precompile.f (k : Nat) (x1 : List Int) : Option Int := (addr_Word.f k x1).bind fun t1 => ((word_Small.f t1).bind fun t2 => (if (!t2.2) = true then (addr_Precompile.j1 t2 true) else (addr_Precompile.j1 t2 (decide (9 < t2.1)))))
theorem addr_Precompile.ok (k : Nat) (x1 : List Int) (r : Int) (h0 : addr_Precompile.f k x1 = some r) (mi : Mem) (w0 : World) : okL mi [(.agg [.ints .u8 x1 20])] → Frz mi w0 → Calls Tryd.prog 16 (([(.agg [.ints .u8 x1 20])] : List D).map D.val).toArray w0 (Ret mi (.v (.int .i64 r)) w0) := by
  intro ok hm
  delta addr_Precompile.f at h0
  refine c_enter (n := 19) [(.agg [.ints .u8 x1 20])] (l := [(0, (.agg [.ints .u8 x1 20]))]) Tryd.func16 rfl rfl rfl rfl ok hm ?_
  clear ok hm
  intro a S
  refine c_region ?_
  refine s_box S rfl rfl rfl ?_; clear S a; intro g1 a w S
  refine s_assign S rfl rfl ?_; clear S a; intro a S
  refine c_end ?_
  refine c_region ?_
  refine s_loada S rfl .here T23 (s' := [.ints .u8 x1 20]) rfl rfl ?_; clear S a; intro a S
  obtain ⟨t1, et1, h1⟩ := bind_of h0; clear h0
  refine s_call S (ds := [(.agg [.ints .u8 x1 20])]) (d := (.agg [.ints .u64 t1 4])) N10 rfl rfl (addr_Word.ok k x1 t1 et1 _ _) ?_; clear S a w; intro a w S
  obtain ⟨t2, et2, h2⟩ := bind_of h1; clear h1
  refine s_call S (ds := [(.agg [.ints .u64 t1 4])]) (d := (.tup [(false, [.one (.int .u64 t2.1)]), (false, [.one (.bool t2.2)])])) N31 rfl rfl (word_Small.ok t1 t2 et2 _ _) ?_; clear S a w; intro a w S
  refine s_move S rfl rfl ?_; clear S a; intro a S
  refine s_extract S rfl rfl rfl rfl ?_; clear S a; intro a S
  refine s_extract S rfl rfl rfl rfl ?_; clear S a; intro a S
  refine s_assign S rfl rfl ?_; clear S a; intro a S
  refine s_assign S rfl rfl ?_; clear S a; intro a S
  refine c_end ?_
  refine wp_seq ?_
  refine wp_seq_k ?_
  intro K1 hK1
  have j1 : ∀ (m : Mem) (y1 : Bool) (a : Act) (w : World), St 19 m (B0 mi w0) [(16, (.v (.bool y1))), (3, (.v (.int .u64 t2.1)))] [] a w → addr_Precompile.j1 t2 y1 = some r → K1 a w := by
    intro m y1 a w S h0
    delta addr_Precompile.j1 at h0
    refine hK1 a w ?_
    rcases ite_of h0 with ⟨c1, h1⟩ | ⟨c1, h1⟩ <;> clear h0
    · refine c_condT S rfl c1 ?_
      refine c_region ?_
      refine s_assign S rfl rfl ?_; clear S a; intro a S
      refine c_end ?_
      refine wp_ret ?_
      refine x_thenR ?_
      obtain rfl := Option.some.inj h1
      exact b_ret1 (d := (.v (.int .i64 0))) S rfl rfl fun ok => ⟨rfl, ok, S.below0⟩
    · refine c_condF S rfl c1 ?_
      refine wp_skip ?_
      refine x_thenN ?_
      refine c_region ?_
      refine s_move S rfl rfl ?_; clear S a; intro a S
      refine s_conv S rfl rfl Tryd.underlying3 rfl ?_; clear S a; intro a S
      refine s_assign S rfl rfl ?_; clear S a; intro a S
      refine c_end ?_
      refine wp_ret ?_
      obtain rfl := Option.some.inj h1
      exact b_ret1 (d := (.v (.int .i64 (wr .i64 t2.1)))) S rfl rfl fun ok => ⟨rfl, ok, S.below0⟩
  refine c_region' ?_
  refine s_move S rfl rfl ?_; clear S a; intro a S
  refine s_not S rfl rfl ?_; clear S a; intro a S
  refine s_move S rfl rfl ?_; clear S a; intro a S
  rcases ite_of h2 with ⟨c2, h3⟩ | ⟨c2, h3⟩ <;> clear h2
  · refine s_gF S (b := (!t2.2)) rfl rfl c2 rfl ?_; clear S a; intro a S
    refine s_gF S (b := (!t2.2)) rfl rfl c2 rfl ?_; clear S a; intro a S
    refine s_pick S (b := true) (hc_of rfl c2) rfl rfl ?_; clear S a; intro a S
    refine c_end' ?_
    refine x_thenN ?_
    exact j1 _ true a w (S.sub ⟨rfl, rfl, trivial⟩ .nil) h3
  · refine s_gT S (b := (!t2.2)) rfl rfl c2 ?_
    refine s_move S rfl rfl ?_; clear S a; intro a S
    refine s_gT S (b := (!t2.2)) rfl rfl c2 ?_
    refine s_bin S rfl rfl rfl rfl ?_; clear S a; intro a S
    refine s_pick S (b := false) (hc_of rfl c2) rfl rfl ?_; clear S a; intro a S
    refine c_end' ?_
    refine x_thenN ?_
    exact j1 _ (decide (9 < t2.1)) a w (S.sub ⟨rfl, rfl, trivial⟩ .nil) h3
/-! smithy/smithyref08.Precompile -/
def smithyref08_Precompile.j1 (x1 : List Int) : Option Int := if (decide (9 < (rd x1 19))) = true then (some 0) else (some (wr .i64 (rd x1 19)))
def smithyref08_Precompile.b1 (x1 : List Int) (rec1 : Int → Option Int) (y1 : Int) : Option Int := if (decide (y1 < 19)) = true then (if 0 ≤ y1 ∧ y1 < 20 then (if ((rd x1 y1) != 0) = true then (some 0) else (rec1 (wr .i64 (y1 + 1)))) else none) else (smithyref08_Precompile.j1 x1)
def smithyref08_Precompile.l1 (x1 : List Int) : Nat → Int → Option Int
  | 0, _ => none
  | q + 1, y1 => smithyref08_Precompile.b1 x1 (smithyref08_Precompile.l1 x1 q) y1
def smithyref08_Precompile.f (k : Nat) (x1 : List Int) : Option Int := smithyref08_Precompile.l1 x1 k 0
theorem smithyref08_Precompile.ok (k : Nat) (x1 : List Int) (r : Int) (h0 : smithyref08_Precompile.f k x1 = some r) (mi : Mem) (w0 : World) : okL mi [(.agg [.ints .u8 x1 20])] → Frz mi w0 → Calls Tryd.prog 17 (([(.agg [.ints .u8 x1 20])] : List D).map D.val).toArray w0 (Ret mi (.v (.int .i64 r)) w0) := by
  intro ok hm
  delta smithyref08_Precompile.f at h0
  refine c_enter (n := 18) [(.agg [.ints .u8 x1 20])] (l := [(0, (.agg [.ints .u8 x1 20]))]) Tryd.func17 rfl rfl rfl rfl ok hm ?_
  clear ok hm
  intro a S
  refine c_region ?_
  refine s_box S rfl rfl rfl ?_; clear S a; intro g1 a w S
  refine s_assign S rfl rfl ?_; clear S a; intro a S
  refine c_end ?_
  refine wp_seq_k ?_
  intro K1 hK1
  have j1 : ∀ (m : Mem) (g2 : Nat) (a : Act) (w : World), St 18 m (B0 mi w0) [(1, (.v (.pointer (some ⟨g2, 0, none⟩))))] [Res.cells g2 23 [.ints .u8 x1 20]] a w → smithyref08_Precompile.j1 x1 = some r → K1 a w := by
    intro m g2 a w S h0
    delta smithyref08_Precompile.j1 at h0
    refine hK1 a w ?_
    refine wp_seq ?_
    refine c_region ?_
    refine s_iaddr S (o' := 19) rfl rfl Tryd.underlying23 T5 (by decide) (by decide) rfl rfl ?_; clear S a; intro a S
    refine s_loadi S (i := 19) rfl .here T5 .here rfl (by decide) (by decide) rfl ?_; clear S a; intro a S
    refine s_bin S rfl rfl rfl rfl ?_; clear S a; intro a S
    refine c_end ?_
    rcases ite_of h0 with ⟨c1, h1⟩ | ⟨c1, h1⟩ <;> clear h0
    · refine c_condT S rfl c1 ?_
      refine c_region ?_
      refine s_assign S rfl rfl ?_; clear S a; intro a S
      refine c_end ?_
      refine wp_ret ?_
      refine x_thenR ?_
      obtain rfl := Option.some.inj h1
      exact b_ret1 (d := (.v (.int .i64 0))) S rfl rfl fun ok => ⟨rfl, ok, S.below0⟩
    · refine c_condF S rfl c1 ?_
      refine wp_skip ?_
      refine x_thenN ?_
      refine c_region ?_
      refine s_iaddr S (o' := 19) rfl rfl Tryd.underlying23 T5 (by decide) (by decide) rfl rfl ?_; clear S a; intro a S
      refine s_loadi S (i := 19) rfl .here T5 .here rfl (by decide) (by decide) rfl ?_; clear S a; intro a S
      refine s_conv S rfl rfl Tryd.underlying3 rfl ?_; clear S a; intro a S
      refine s_assign S rfl rfl ?_; clear S a; intro a S
      refine c_end ?_
      refine wp_ret ?_
      obtain rfl := Option.some.inj h1
      exact b_ret1 (d := (.v (.int .i64 (wr .i64 (rd x1 19))))) S rfl rfl fun ok => ⟨rfl, ok, S.below0⟩
  refine c_region ?_
  refine s_assign S rfl rfl ?_; clear S a; intro a S
  refine c_end ?_
  refine wp_block ?_
  refine c_loop (fun q1 a w => ∃ (m : Mem) (y1 : Int) (g5 : Nat), St 18 m (B0 mi w0) [(3, (.v (.int .i64 y1))), (1, (.v (.pointer (some ⟨g5, 0, none⟩))))] [Res.cells g5 23 [.ints .u8 x1 20]] a w ∧ smithyref08_Precompile.l1 x1 q1 y1 = some r) ?_ ?_ (k := k) ⟨_, 0, g1, (S.sub ⟨rfl, rfl, trivial⟩ (.cons .here .nil)), h0⟩
  · rintro a w ⟨m, y1, g5, S, h0⟩
    exact (nomatch (show (none : Option Int) = some r from h0))
  · clear S h0
    rintro q1 a w ⟨m, y1, g5, S, h0⟩
    replace h0 : smithyref08_Precompile.b1 x1 (smithyref08_Precompile.l1 x1 q1) y1 = some r := h0
    delta smithyref08_Precompile.b1 at h0
    refine wp_seq ?_
    refine c_region ?_
    refine s_move S rfl rfl ?_; clear S a; intro a S
    refine s_bin S rfl rfl rfl rfl ?_; clear S a; intro a S
    refine c_end ?_
    rcases ite_of h0 with ⟨c2, h1⟩ | ⟨c2, h1⟩ <;> clear h0
    · refine c_condT S rfl c2 ?_
      refine wp_skip ?_
      refine x_thenN ?_
      refine wp_seq ?_
      refine wp_block ?_
      refine c_region ?_
      refine s_move S rfl rfl ?_; clear S a; intro a S
      obtain ⟨c3, h2⟩ := chk_of h1; clear h1
      refine s_iaddr S rfl rfl Tryd.underlying23 T5 c3.1 c3.2 (mul1 _ _) rfl ?_; clear S a; intro a S
      refine s_loadi S (i := y1) rfl .here T5 .here rfl c3.1 c3.2 rfl ?_; clear S a; intro a S
      refine s_bin S rfl rfl rfl rfl ?_; clear S a; intro a S
      refine c_end ?_
      rcases ite_of h2 with ⟨c4, h3⟩ | ⟨c4, h3⟩ <;> clear h2
      · refine c_condT S rfl c4 ?_
        refine c_region ?_
        refine s_assign S rfl rfl ?_; clear S a; intro a S
        refine c_end ?_
        refine wp_ret ?_
        refine x_blockR ?_
        refine x_thenR ?_
        refine x_thenR ?_
        refine x_blockR ?_
        refine x_thenR ?_
        obtain rfl := Option.some.inj h3
        exact b_ret1 (d := (.v (.int .i64 0))) S rfl rfl fun ok => ⟨rfl, ok, S.below0⟩
      · refine c_condF S rfl c4 ?_
        refine wp_skip ?_
        refine x_blockN ?_
        refine x_thenN ?_
        refine c_region' ?_
        refine s_move S rfl rfl ?_; clear S a; intro a S
        refine s_bin S rfl rfl rfl rfl ?_; clear S a; intro a S
        refine s_assign S rfl rfl ?_; clear S a; intro a S
        refine c_end' ?_
        refine x_thenN ?_
        exact ⟨_, (wr .i64 (y1 + 1)), g5, (S.sub ⟨rfl, rfl, trivial⟩ (.cons .here .nil)), h3⟩
    · refine c_condF S rfl c2 ?_
      refine wp_exit ?_
      refine x_thenX ?_
      refine x_thenX ?_
      refine x_blockX ?_
      refine x_thenN ?_
      exact j1 _ g5 a w (S.sub ⟨rfl, trivial⟩ (.cons .here .nil)) h1
end GW
