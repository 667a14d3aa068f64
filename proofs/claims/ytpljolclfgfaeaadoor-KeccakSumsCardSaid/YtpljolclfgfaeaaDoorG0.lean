/-
  Printed by a program of these sessions (wip/gw/gw.py): for each Go function a Lean function with the same answers, and the walk that shows it.
-/
import Derived.Test.YtpljolclfgfaeaaDoorProg
import Derived.Test.YtpljolclfgfaeaaDoorGWLQui
set_option linter.unusedVariables false
set_option maxRecDepth 10000
namespace GW
open Go Go.RowKit Go.Proofs
def tbl0 : List Int := [1, 32898, 9223372036854808714, 9223372039002292224, 32907, 2147483649, 9223372039002292353, 9223372036854808585, 138, 136, 2147516425, 2147483658, 2147516555, 9223372036854775947, 9223372036854808713, 9223372036854808579, 9223372036854808578, 9223372036854775936, 32778, 9223372039002259466, 9223372039002292353, 9223372036854808704, 2147483649, 9223372039002292232]
def tbl1 : List Int := [10, 7, 11, 17, 18, 3, 5, 16, 8, 21, 24, 4, 15, 23, 19, 13, 12, 2, 20, 14, 22, 9, 6, 1]
def tbl2 : List Int := [1, 3, 6, 10, 15, 21, 28, 36, 45, 55, 2, 14, 27, 41, 56, 8, 25, 43, 62, 18, 39, 61, 20, 44]
def Glob (m : Mem) : Prop := FroAt m 0 [.ints .u64 tbl0 24] ∧ FroAt m 1 [.ints .i64 tbl1 24] ∧ FroAt m 2 [.ints .i64 tbl2 24]
theorem Glob.mono {m m' : Mem} (h : Glob m) (hm : LeM m m') : Glob m' := ⟨(FroAt.mono hm h.1), (FroAt.mono hm h.2.1), (FroAt.mono hm h.2.2)⟩
theorem Z23 : zeroI Tryd.prog 23 = some (D.val (.agg [.ints .u64 [0, 0, 0, 0, 0, 0, 0, 0, 0, 0, 0, 0, 0, 0, 0, 0, 0, 0, 0, 0, 0, 0, 0, 0, 0] 25])) := by kernel_rfl
theorem Z45 : zeroI Tryd.prog 45 = some (D.val (.agg [.ints .u64 [0, 0, 0, 0, 0] 5])) := by kernel_rfl
theorem T22 : tyI Tryd.prog 22 = some (false, 1) := by kernel_rfl
theorem N20 : Fn_ Tryd.prog 20 := ⟨_, Tryd.func20, rfl, by decide⟩
theorem T47 : tyI Tryd.prog 47 = some (true, 24) := by kernel_rfl
theorem T3 : tyI Tryd.prog 3 = some (false, 1) := by kernel_rfl
theorem T45 : tyI Tryd.prog 45 = some (true, 5) := by kernel_rfl
theorem T23 : tyI Tryd.prog 23 = some (true, 25) := by kernel_rfl
theorem T36 : tyI Tryd.prog 36 = some (true, 24) := by kernel_rfl
theorem N13 : Fn_ Tryd.prog 13 := ⟨_, Tryd.func13, rfl, by decide⟩
theorem T5 : tyI Tryd.prog 5 = some (false, 1) := by kernel_rfl
theorem N7 : Fn_ Tryd.prog 7 := ⟨_, Tryd.func7, rfl, by decide⟩
theorem Z29 : zeroI Tryd.prog 29 = some (D.val (.agg [.ints .u8 [0, 0, 0, 0, 0, 0, 0, 0, 0, 0, 0, 0, 0, 0, 0, 0, 0, 0, 0, 0, 0, 0, 0, 0, 0, 0, 0, 0, 0, 0, 0, 0] 32])) := by kernel_rfl
theorem N16 : Fn_ Tryd.prog 16 := ⟨_, Tryd.func16, rfl, by decide⟩
theorem Z40 : zeroI Tryd.prog 40 = some (D.val (.agg [.ints .u8 (List.replicate 136 0) 136])) := by kernel_rfl
theorem T29 : tyI Tryd.prog 29 = some (true, 32) := by kernel_rfl
theorem N9 : Fn_ Tryd.prog 9 := ⟨_, Tryd.func9, rfl, by decide⟩
theorem Z36 : zeroI Tryd.prog 36 = some (D.val (.agg [.ints .u64 [0, 0, 0, 0, 0, 0, 0, 0, 0, 0, 0, 0, 0, 0, 0, 0, 0, 0, 0, 0, 0, 0, 0, 0] 24])) := by kernel_rfl
theorem N21 : Fn_ Tryd.prog 21 := ⟨_, Tryd.func21, rfl, by decide⟩
theorem N14 : Fn_ Tryd.prog 14 := ⟨_, Tryd.func14, rfl, by decide⟩
theorem N15 : Fn_ Tryd.prog 15 := ⟨_, Tryd.func15, rfl, by decide⟩
theorem N6 : Fn_ Tryd.prog 6 := ⟨_, Tryd.func6, rfl, by decide⟩
theorem N8 : Fn_ Tryd.prog 8 := ⟨_, Tryd.func8, rfl, by decide⟩
theorem Q23 : Tryd.prog.eqGuardType Tryd.prog.depth 23 = false := by kernel_rfl
theorem J5 : appI Tryd.prog 5 = some (1, 1) := by kernel_rfl
theorem Z5 : zeroI Tryd.prog 5 = some (D.val (.v (.int .u8 0))) := by kernel_rfl
theorem N10 : Fn_ Tryd.prog 10 := ⟨_, Tryd.func10, rfl, by decide⟩
theorem Q29 : Tryd.prog.eqGuardType Tryd.prog.depth 29 = false := by kernel_rfl
theorem Z33 : zeroI Tryd.prog 33 = some (D.val (.agg [.ints .u64 [0, 0, 0, 0] 4])) := by kernel_rfl
theorem Z28 : zeroI Tryd.prog 28 = some (D.val (.agg [.ints .u8 [0, 0, 0, 0, 0, 0, 0, 0, 0, 0, 0, 0, 0, 0, 0, 0, 0, 0, 0, 0, 0, 0, 0, 0, 0, 0, 0, 0, 0, 0, 0, 0] 32])) := by kernel_rfl
theorem T33 : tyI Tryd.prog 33 = some (true, 4) := by kernel_rfl
theorem N17 : Fn_ Tryd.prog 17 := ⟨_, Tryd.func17, rfl, by decide⟩
theorem Z42 : zeroI Tryd.prog 42 = some (D.val (.agg [.ints .i64 [0, 0, 0, 0, 0, 0, 0, 0, 0, 0, 0, 0, 0, 0, 0, 0, 0, 0, 0, 0, 0, 0, 0, 0, 0, 0, 0, 0, 0, 0, 0, 0] 32])) := by kernel_rfl
theorem T42 : tyI Tryd.prog 42 = some (true, 32) := by kernel_rfl
theorem N18 : Fn_ Tryd.prog 18 := ⟨_, Tryd.func18, rfl, by decide⟩
theorem N19 : Fn_ Tryd.prog 19 := ⟨_, Tryd.func19, rfl, by decide⟩
theorem N11 : Fn_ Tryd.prog 11 := ⟨_, Tryd.func11, rfl, by decide⟩
theorem N12 : Fn_ Tryd.prog 12 := ⟨_, Tryd.func12, rfl, by decide⟩
theorem Q33 : Tryd.prog.eqGuardType Tryd.prog.depth 33 = false := by kernel_rfl
def Gd5 : Int → Prop := fun x => inK .u8 x
def Gd27 : (List Int) → Prop := fun xs => (∀ y ∈ xs, Gd5 y) ∧ xs.length ≤ maxLen
/-! math/bits.RotateLeft64 -/
def bits_RotateLeft64.f (x1 : Int) (x2 : Int) : Option Int := if 0 ≤ (bits .and .u64 (wr .u64 x2) 63) then (if 0 ≤ (wr .u64 (64 - (bits .and .u64 (wr .u64 x2) 63))) then (some (bits .or .u64 (shl .u64 x1 (min (Int.toNat (bits .and .u64 (wr .u64 x2) 63)) 64)) (shr x1 (min (Int.toNat (wr .u64 (64 - (bits .and .u64 (wr .u64 x2) 63)))) 64)))) else none) else none
theorem bits_RotateLeft64.ok (x1 : Int) (x2 : Int) (r : Int) (h0 : bits_RotateLeft64.f x1 x2 = some r) (mi : Mem) (w0 : World) : okL mi [(.v (.int .u64 x1)), (.v (.int .i64 x2))] → Frz mi w0 → Calls Tryd.prog 20 (([(.v (.int .u64 x1)), (.v (.int .i64 x2))] : List D).map D.val).toArray w0 (Ret mi (.v (.int .u64 r)) w0) := by
  intro ok hm
  delta bits_RotateLeft64.f at h0
  refine c_enter (n := 17) [(.v (.int .u64 x1)), (.v (.int .i64 x2))] (l := [(0, (.v (.int .u64 x1))), (1, (.v (.int .i64 x2)))]) Tryd.func20 rfl rfl rfl rfl ok hm ?_
  clear ok hm
  intro a S
  refine c_region ?_
  refine s_assign S rfl rfl ?_; clear S a; intro a S
  refine c_end ?_
  refine c_region ?_
  refine s_move S rfl rfl ?_; clear S a; intro a S
  refine s_conv S rfl rfl Tryd.underlying49 rfl ?_; clear S a; intro a S
  refine s_bin S rfl rfl rfl rfl ?_; clear S a; intro a S
  refine s_assign S rfl rfl ?_; clear S a; intro a S
  refine c_end ?_
  refine c_region ?_
  refine s_move S rfl rfl ?_; clear S a; intro a S
  refine s_move S rfl rfl ?_; clear S a; intro a S
  obtain ⟨c1, h1⟩ := chk_of h0; clear h0
  refine s_shl S (e := (min (Int.toNat (bits .and .u64 (wr .u64 x2) 63)) 64)) rfl rfl c1 rfl rfl ?_; clear S a; intro a S
  refine s_move S rfl rfl ?_; clear S a; intro a S
  refine s_move S rfl rfl ?_; clear S a; intro a S
  refine s_bin S rfl rfl rfl rfl ?_; clear S a; intro a S
  obtain ⟨c2, h2⟩ := chk_of h1; clear h1
  refine s_shr S (e := (min (Int.toNat (wr .u64 (64 - (bits .and .u64 (wr .u64 x2) 63)))) 64)) rfl rfl c2 rfl rfl ?_; clear S a; intro a S
  refine s_bin S rfl rfl rfl rfl ?_; clear S a; intro a S
  refine s_assign S rfl rfl ?_; clear S a; intro a S
  refine c_end ?_
  refine wp_ret ?_
  obtain rfl := Option.some.inj h2
  exact b_ret1 (d := (.v (.int .u64 (bits .or .u64 (shl .u64 x1 (min (Int.toNat (bits .and .u64 (wr .u64 x2) 63)) 64)) (shr x1 (min (Int.toNat (wr .u64 (64 - (bits .and .u64 (wr .u64 x2) 63)))) 64)))))) S rfl rfl fun ok => ⟨rfl, ok, S.below0⟩
/-! smithy/keccak.round -/
def keccak_round.j4 (y4 : List Int) : Option (List Int) := some y4
def keccak_round.j5 (y9 : Int) (rec1 : Int → (List Int) → Option (List Int)) (y11 : List Int) : Option (List Int) := rec1 (wr .i64 (y9 + 5)) y11
def keccak_round.b2 (y9 : Int) (y10 : List Int) (rec1 : Int → (List Int) → Option (List Int)) (rec2 : Int → (List Int) → Option (List Int)) (y14 : Int) (y15 : List Int) : Option (List Int) := if (decide (y14 < 5)) = true then (if 0 ≤ y14 ∧ y14 < 5 then (if 0 ≤ (Int.tmod (wr .i64 (y14 + 1)) 5) ∧ (Int.tmod (wr .i64 (y14 + 1)) 5) < 5 then (if 0 ≤ (Int.tmod (wr .i64 (y14 + 2)) 5) ∧ (Int.tmod (wr .i64 (y14 + 2)) 5) < 5 then (if 0 ≤ (wr .i64 (y14 + y9)) ∧ (wr .i64 (y14 + y9)) < 25 then (rec2 (wr .i64 (y14 + 1)) (y15.set (Int.toNat (wr .i64 (y14 + y9))) (bits .xor .u64 (rd (((y10).drop (Int.toNat y9)).take 5) y14) (bits .and .u64 (bnot .u64 (rd (((y10).drop (Int.toNat y9)).take 5) (Int.tmod (wr .i64 (y14 + 1)) 5))) (rd (((y10).drop (Int.toNat y9)).take 5) (Int.tmod (wr .i64 (y14 + 2)) 5)))))) else none) else none) else none) else none) else (keccak_round.j5 y9 rec1 y15)
def keccak_round.l2 (y9 : Int) (y10 : List Int) (rec1 : Int → (List Int) → Option (List Int)) : Nat → Int → (List Int) → Option (List Int)
  | 0, _, _ => none
  | q + 1, y14, y15 => keccak_round.b2 y9 y10 rec1 (keccak_round.l2 y9 y10 rec1 q) y14 y15
def keccak_round.b1 (k : Nat) (rec1 : Int → (List Int) → Option (List Int)) (y9 : Int) (y10 : List Int) : Option (List Int) := if (decide (y9 < 25)) = true then (if (0 : Int) ≤ y9 ∧ (y9 : Int) ≤ (wr .i64 (y9 + 5)) ∧ (wr .i64 (y9 + 5)) ≤ ((25 : Nat) : Int) then (if 5 ≤ (Int.toNat (wr .i64 (y9 + 5)) - Int.toNat y9) then (keccak_round.l2 y9 y10 rec1 k 0 y10) else none) else none) else (keccak_round.j4 y10)
def keccak_round.l1 (k : Nat) : Nat → Int → (List Int) → Option (List Int)
  | 0, _, _ => none
  | q + 1, y9, y10 => keccak_round.b1 k (keccak_round.l1 k q) y9 y10
def keccak_round.j3 (k : Nat) (y3 : List Int) : Option (List Int) := keccak_round.l1 k k 0 y3
def keccak_round.b3 (k : Nat) (rec3 : Int → (List Int) → Int → (List Int) → Option (List Int)) (y21 : Int) (y22 : List Int) (y23 : Int) (y24 : List Int) : Option (List Int) := if (decide (y21 < 24)) = true then (if 0 ≤ y21 ∧ y21 < 24 then (if 0 ≤ (rd y22 y21) ∧ (rd y22 y21) < 25 then ((bits_RotateLeft64.f y23 (rd tbl2 y21)).bind fun t1 => (rec3 (wr .i64 (y21 + 1)) y22 (rd y24 (rd y22 y21)) (y24.set (Int.toNat (rd y22 y21)) t1))) else none) else none) else (keccak_round.j3 k y24)
def keccak_round.l3 (k : Nat) : Nat → Int → (List Int) → Int → (List Int) → Option (List Int)
  | 0, _, _, _, _ => none
  | q + 1, y21, y22, y23, y24 => keccak_round.b3 k (keccak_round.l3 k q) y21 y22 y23 y24
def keccak_round.j2 (k : Nat) (y2 : List Int) : Option (List Int) := keccak_round.l3 k k 0 tbl1 (rd y2 1) y2
def keccak_round.j6 (y29 : Int) (rec4 : Int → (List Int) → Option (List Int)) (y31 : List Int) : Option (List Int) := rec4 (wr .i64 (y29 + 1)) y31
def keccak_round.b5 (y1 : List Int) (y29 : Int) (rec4 : Int → (List Int) → Option (List Int)) (t2 : Int) (rec5 : Int → (List Int) → Option (List Int)) (y34 : Int) (y35 : List Int) : Option (List Int) := if (decide (y34 < 25)) = true then (if 0 ≤ (wr .i64 (y29 + y34)) ∧ (wr .i64 (y29 + y34)) < 25 then (rec5 (wr .i64 (y34 + 5)) (y35.set (Int.toNat (wr .i64 (y29 + y34))) (bits .xor .u64 (rd y35 (wr .i64 (y29 + y34))) (bits .xor .u64 (rd y1 (Int.tmod (wr .i64 (y29 + 4)) 5)) t2)))) else none) else (keccak_round.j6 y29 rec4 y35)
def keccak_round.l5 (y1 : List Int) (y29 : Int) (rec4 : Int → (List Int) → Option (List Int)) (t2 : Int) : Nat → Int → (List Int) → Option (List Int)
  | 0, _, _ => none
  | q + 1, y34, y35 => keccak_round.b5 y1 y29 rec4 t2 (keccak_round.l5 y1 y29 rec4 t2 q) y34 y35
def keccak_round.b4 (k : Nat) (y1 : List Int) (rec4 : Int → (List Int) → Option (List Int)) (y29 : Int) (y30 : List Int) : Option (List Int) := if (decide (y29 < 5)) = true then (if 0 ≤ (Int.tmod (wr .i64 (y29 + 4)) 5) ∧ (Int.tmod (wr .i64 (y29 + 4)) 5) < 5 then (if 0 ≤ (Int.tmod (wr .i64 (y29 + 1)) 5) ∧ (Int.tmod (wr .i64 (y29 + 1)) 5) < 5 then ((bits_RotateLeft64.f (rd y1 (Int.tmod (wr .i64 (y29 + 1)) 5)) 1).bind fun t2 => (keccak_round.l5 y1 y29 rec4 t2 k 0 y30)) else none) else none) else (keccak_round.j2 k y30)
def keccak_round.l4 (k : Nat) (y1 : List Int) : Nat → Int → (List Int) → Option (List Int)
  | 0, _, _ => none
  | q + 1, y29, y30 => keccak_round.b4 k y1 (keccak_round.l4 k y1 q) y29 y30
def keccak_round.j1 (k : Nat) (x1 : List Int) (y1 : List Int) : Option (List Int) := keccak_round.l4 k y1 k 0 x1
def keccak_round.b6 (k : Nat) (x1 : List Int) (rec6 : Int → (List Int) → Option (List Int)) (y38 : Int) (y39 : List Int) : Option (List Int) := if (decide (y38 < 5)) = true then (if 0 ≤ y38 ∧ y38 < 25 then (if 0 ≤ (wr .i64 (y38 + 5)) ∧ (wr .i64 (y38 + 5)) < 25 then (if 0 ≤ (wr .i64 (y38 + 10)) ∧ (wr .i64 (y38 + 10)) < 25 then (if 0 ≤ (wr .i64 (y38 + 15)) ∧ (wr .i64 (y38 + 15)) < 25 then (if 0 ≤ (wr .i64 (y38 + 20)) ∧ (wr .i64 (y38 + 20)) < 25 then (if 0 ≤ y38 ∧ y38 < 5 then (rec6 (wr .i64 (y38 + 1)) (y39.set (Int.toNat y38) (bits .xor .u64 (bits .xor .u64 (bits .xor .u64 (bits .xor .u64 (rd x1 y38) (rd x1 (wr .i64 (y38 + 5)))) (rd x1 (wr .i64 (y38 + 10)))) (rd x1 (wr .i64 (y38 + 15)))) (rd x1 (wr .i64 (y38 + 20)))))) else none) else none) else none) else none) else none) else none) else (keccak_round.j1 k x1 y39)
def keccak_round.l6 (k : Nat) (x1 : List Int) : Nat → Int → (List Int) → Option (List Int)
  | 0, _, _ => none
  | q + 1, y38, y39 => keccak_round.b6 k x1 (keccak_round.l6 k x1 q) y38 y39
def keccak_round.f (k : Nat) (x1 : List Int) : Option (List Int) := keccak_round.l6 k x1 k 0 [0, 0, 0, 0, 0]
theorem keccak_round.ok (k : Nat) (x1 : List Int) (r : List Int) (h0 : keccak_round.f k x1 = some r) (mi : Mem) (w0 : World) (G : Glob mi) : okL mi [(.agg [.ints .u64 x1 25])] → Frz mi w0 → Calls Tryd.prog 13 (([(.agg [.ints .u64 x1 25])] : List D).map D.val).toArray w0 (Ret mi (.agg [.ints .u64 r 25]) w0) := by
  intro ok hm
  delta keccak_round.f at h0
  refine c_enter (n := 126) [(.agg [.ints .u64 x1 25])] (l := [(0, (.agg [.ints .u64 x1 25]))]) Tryd.func13 rfl rfl rfl rfl ok hm ?_
  clear ok hm
  intro a S
  replace S := S.addfro (g := 2) 47 G.2.2
  replace S := S.addfro (g := 1) 47 G.2.1
  replace S := S.addfro (g := 0) 36 G.1
  refine c_region ?_
  refine s_box S rfl rfl rfl ?_; clear S a; intro g1 a w S
  refine s_alloc S Z23 rfl ⟨rfl, trivial⟩ rfl ?_; clear S a w; intro g2 a w S
  refine c_end ?_
  refine c_region ?_
  refine s_alloc S Z45 rfl ⟨rfl, trivial⟩ rfl ?_; clear S a w; intro g3 a w S
  refine c_end ?_
  refine wp_seq_k ?_
  intro K1 hK1
  have j1 : ∀ (m : Mem) (g4 : Nat) (g5 : Nat) (g6 : Nat) (y1 : List Int) (a : Act) (w : World), St 126 m (B0 mi w0) [(3, (.v (.pointer (some ⟨g4, 0, none⟩)))), (2, (.v (.pointer (some ⟨g5, 0, none⟩)))), (1, (.v (.pointer (some ⟨g6, 0, none⟩))))] [Res.cells g4 45 [.ints .u64 y1 5], Res.cells g5 23 [.ints .u64 [0, 0, 0, 0, 0, 0, 0, 0, 0, 0, 0, 0, 0, 0, 0, 0, 0, 0, 0, 0, 0, 0, 0, 0, 0] 25], Res.cells g6 23 [.ints .u64 x1 25], Res.fro 0 36 [.ints .u64 tbl0 24], Res.fro 1 47 [.ints .i64 tbl1 24], Res.fro 2 47 [.ints .i64 tbl2 24]] a w → keccak_round.j1 k x1 y1 = some r → K1 a w := by
    intro m g4 g5 g6 y1 a w S h0
    delta keccak_round.j1 at h0
    refine hK1 a w ?_
    refine wp_seq_k ?_
    intro K2 hK2
    have j2 : ∀ (m : Mem) (g7 : Nat) (g8 : Nat) (y2 : List Int) (a : Act) (w : World), St 126 m (B0 mi w0) [(2, (.v (.pointer (some ⟨g7, 0, none⟩)))), (1, (.v (.pointer (some ⟨g8, 0, none⟩))))] [Res.cells g7 23 [.ints .u64 [0, 0, 0, 0, 0, 0, 0, 0, 0, 0, 0, 0, 0, 0, 0, 0, 0, 0, 0, 0, 0, 0, 0, 0, 0] 25], Res.cells g8 23 [.ints .u64 y2 25], Res.fro 0 36 [.ints .u64 tbl0 24], Res.fro 1 47 [.ints .i64 tbl1 24], Res.fro 2 47 [.ints .i64 tbl2 24]] a w → keccak_round.j2 k y2 = some r → K2 a w := by
      intro m g7 g8 y2 a w S h0
      delta keccak_round.j2 at h0
      refine hK2 a w ?_
      refine c_region ?_
      refine s_iaddr S (o' := 1) rfl rfl Tryd.underlying23 T22 (by decide) (by decide) rfl rfl ?_; clear S a; intro a S
      refine s_loadi S (i := 1) rfl (.there .here) T22 .here rfl (by decide) (by decide) rfl ?_; clear S a; intro a S
      refine s_assign S rfl rfl ?_; clear S a; intro a S
      refine c_end ?_
      refine wp_seq_k ?_
      intro K3 hK3
      have j3 : ∀ (m : Mem) (g9 : Nat) (g10 : Nat) (y3 : List Int) (a : Act) (w : World), St 126 m (B0 mi w0) [(2, (.v (.pointer (some ⟨g9, 0, none⟩)))), (1, (.v (.pointer (some ⟨g10, 0, none⟩))))] [Res.cells g9 23 [.ints .u64 [0, 0, 0, 0, 0, 0, 0, 0, 0, 0, 0, 0, 0, 0, 0, 0, 0, 0, 0, 0, 0, 0, 0, 0, 0] 25], Res.cells g10 23 [.ints .u64 y3 25], Res.fro 0 36 [.ints .u64 tbl0 24], Res.fro 1 47 [.ints .i64 tbl1 24], Res.fro 2 47 [.ints .i64 tbl2 24]] a w → keccak_round.j3 k y3 = some r → K3 a w := by
        intro m g9 g10 y3 a w S h0
        delta keccak_round.j3 at h0
        refine hK3 a w ?_
        refine wp_seq_k ?_
        intro K4 hK4
        have j4 : ∀ (m : Mem) (g11 : Nat) (g12 : Nat) (y4 : List Int) (a : Act) (w : World), St 126 m (B0 mi w0) [(2, (.v (.pointer (some ⟨g11, 0, none⟩)))), (1, (.v (.pointer (some ⟨g12, 0, none⟩))))] [Res.cells g11 23 [.ints .u64 [0, 0, 0, 0, 0, 0, 0, 0, 0, 0, 0, 0, 0, 0, 0, 0, 0, 0, 0, 0, 0, 0, 0, 0, 0] 25], Res.cells g12 23 [.ints .u64 y4 25], Res.fro 0 36 [.ints .u64 tbl0 24], Res.fro 1 47 [.ints .i64 tbl1 24], Res.fro 2 47 [.ints .i64 tbl2 24]] a w → keccak_round.j4 y4 = some r → K4 a w := by
          intro m g11 g12 y4 a w S h0
          delta keccak_round.j4 at h0
          refine hK4 a w ?_
          refine c_region ?_
          refine s_loada S rfl (.there .here) T23 (s' := [.ints .u64 y4 25]) rfl rfl ?_; clear S a; intro a S
          refine s_store S rfl rfl rfl (s' := [.ints .u64 y4 25]) .here T23 rfl rfl ?_; clear S w; intro w S
          refine c_end ?_
          refine wp_ret ?_
          obtain rfl := Option.some.inj h0
          exact b_ret1 (d := (.agg [.ints .u64 y4 25])) S rfl (resD_cell rfl .here T23 rfl rfl) fun ok => ⟨rfl, ok, S.below0⟩
        refine c_region ?_
        refine s_assign S rfl rfl ?_; clear S a; intro a S
        refine c_end ?_
        refine wp_block ?_
        refine c_loop (fun q1 a w => ∃ (m : Mem) (y9 : Int) (g21 : Nat) (g22 : Nat) (y10 : List Int), St 126 m (B0 mi w0) [(12, (.v (.int .i64 y9))), (2, (.v (.pointer (some ⟨g21, 0, none⟩)))), (1, (.v (.pointer (some ⟨g22, 0, none⟩))))] [Res.cells g21 23 [.ints .u64 [0, 0, 0, 0, 0, 0, 0, 0, 0, 0, 0, 0, 0, 0, 0, 0, 0, 0, 0, 0, 0, 0, 0, 0, 0] 25], Res.cells g22 23 [.ints .u64 y10 25], Res.fro 0 36 [.ints .u64 tbl0 24], Res.fro 1 47 [.ints .i64 tbl1 24], Res.fro 2 47 [.ints .i64 tbl2 24]] a w ∧ keccak_round.l1 k q1 y9 y10 = some r) ?_ ?_ (k := k) ⟨_, 0, g9, g10, y3, (S.sub ⟨rfl, rfl, rfl, trivial⟩ (.cons .here (.cons .here (.cons .here (.cons .here (.cons .here .nil)))))), h0⟩
        · rintro a w ⟨m, y9, g21, g22, y10, S, h0⟩
          exact (nomatch (show (none : Option (List Int)) = some r from h0))
        · clear S h0
          rintro q1 a w ⟨m, y9, g21, g22, y10, S, h0⟩
          replace h0 : keccak_round.b1 k (keccak_round.l1 k q1) y9 y10 = some r := h0
          delta keccak_round.b1 at h0
          refine wp_seq ?_
          refine c_region ?_
          refine s_move S rfl rfl ?_; clear S a; intro a S
          refine s_bin S rfl rfl rfl rfl ?_; clear S a; intro a S
          refine c_end ?_
          rcases ite_of h0 with ⟨c1, h1⟩ | ⟨c1, h1⟩ <;> clear h0
          · refine c_condT S rfl c1 ?_
            refine wp_skip ?_
            refine x_thenN ?_
            refine wp_seq_k ?_
            intro K5 hK5
            have j5 : ∀ (m : Mem) (g23 : Nat) (g24 : Nat) (y11 : List Int) (a : Act) (w : World), St 126 m (B0 mi w0) [(12, (.v (.int .i64 y9))), (2, (.v (.pointer (some ⟨g23, 0, none⟩)))), (1, (.v (.pointer (some ⟨g24, 0, none⟩))))] [Res.cells g23 23 [.ints .u64 [0, 0, 0, 0, 0, 0, 0, 0, 0, 0, 0, 0, 0, 0, 0, 0, 0, 0, 0, 0, 0, 0, 0, 0, 0] 25], Res.cells g24 23 [.ints .u64 y11 25], Res.fro 0 36 [.ints .u64 tbl0 24], Res.fro 1 47 [.ints .i64 tbl1 24], Res.fro 2 47 [.ints .i64 tbl2 24]] a w → keccak_round.j5 y9 (keccak_round.l1 k q1) y11 = some r → K5 a w := by
              intro m g23 g24 y11 a w S h0
              delta keccak_round.j5 at h0
              refine hK5 a w ?_
              refine c_region' ?_
              refine s_move S rfl rfl ?_; clear S a; intro a S
              refine s_bin S rfl rfl rfl rfl ?_; clear S a; intro a S
              refine s_assign S rfl rfl ?_; clear S a; intro a S
              refine c_end' ?_
              refine x_thenN ?_
              exact ⟨_, (wr .i64 (y9 + 5)), g23, g24, y11, (S.sub ⟨rfl, rfl, rfl, trivial⟩ (.cons .here (.cons .here (.cons .here (.cons .here (.cons .here .nil)))))), h0⟩
            refine wp_block ?_
            refine c_region ?_
            refine s_move S rfl rfl ?_; clear S a; intro a S
            refine s_move S rfl rfl ?_; clear S a; intro a S
            refine s_bin S rfl rfl rfl rfl ?_; clear S a; intro a S
            obtain ⟨c2, h2⟩ := chk_of h1; clear h1
            refine s_sliceA S (i := y9) (j := (wr .i64 (y9 + 5))) (o' := if 25 = Int.toNat y9 then 0 else 0 + Int.toNat y9 * 1) (len := Int.toNat (wr .i64 (y9 + 5)) - Int.toNat y9) (cap := 25 - Int.toNat y9) rfl Tryd.underlying23 T22 (.inr ⟨_, _, rfl, rfl⟩) (.inr ⟨_, _, rfl, rfl⟩) c2 rfl rfl rfl rfl ?_; clear S a; intro a S
            obtain ⟨c3, h3⟩ := chk_of h2; clear h2
            refine s_arrp S rfl Tryd.underlying45 c3 rfl ?_; clear S a; intro a S
            refine s_ldInts S (lo := (Int.toNat y9)) (ys := ((y10).drop (Int.toNat y9)).take 5) rfl (.there .here) T45 .here (ho_rng c2 c3) (by have h := c2; have h' := c3; omega) rfl rfl ?_; clear S a; intro a S
            refine s_alloc S Z45 rfl ⟨rfl, trivial⟩ rfl ?_; clear S a w; intro g25 a w S
            refine s_store S rfl rfl rfl (s' := [.ints .u64 (((y10).drop (Int.toNat y9)).take 5) 5]) .here T45 rfl rfl ?_; clear S w; intro w S
            refine c_end ?_
            refine c_region ?_
            refine s_move S rfl rfl ?_; clear S a; intro a S
            refine c_end ?_
            refine wp_block ?_
            refine c_loop (fun q2 a w => ∃ (m : Mem) (y14 : Int) (g32 : Nat) (g33 : Nat) (g34 : Nat) (y15 : List Int), St 126 m (B0 mi w0) [(101, (.v (.int .i64 y14))), (13, (.v (.pointer (some ⟨g32, 0, none⟩)))), (12, (.v (.int .i64 y9))), (2, (.v (.pointer (some ⟨g33, 0, none⟩)))), (1, (.v (.pointer (some ⟨g34, 0, none⟩))))] [Res.cells g32 45 [.ints .u64 (((y10).drop (Int.toNat y9)).take 5) 5], Res.cells g33 23 [.ints .u64 [0, 0, 0, 0, 0, 0, 0, 0, 0, 0, 0, 0, 0, 0, 0, 0, 0, 0, 0, 0, 0, 0, 0, 0, 0] 25], Res.cells g34 23 [.ints .u64 y15 25], Res.fro 0 36 [.ints .u64 tbl0 24], Res.fro 1 47 [.ints .i64 tbl1 24], Res.fro 2 47 [.ints .i64 tbl2 24]] a w ∧ keccak_round.l2 y9 y10 (keccak_round.l1 k q1) q2 y14 y15 = some r) ?_ ?_ (k := k) ⟨_, 0, g25, g21, g22, y10, (S.sub ⟨rfl, rfl, rfl, rfl, rfl, trivial⟩ (.cons .here (.cons .here (.cons .here (.cons .here (.cons .here (.cons .here .nil))))))), h3⟩
            · rintro a w ⟨m, y14, g32, g33, g34, y15, S, h0⟩
              exact (nomatch (show (none : Option (List Int)) = some r from h0))
            · clear S h3
              rintro q2 a w ⟨m, y14, g32, g33, g34, y15, S, h0⟩
              replace h0 : keccak_round.b2 y9 y10 (keccak_round.l1 k q1) (keccak_round.l2 y9 y10 (keccak_round.l1 k q1) q2) y14 y15 = some r := h0
              delta keccak_round.b2 at h0
              refine c_region ?_
              refine s_bin S rfl rfl rfl rfl ?_; clear S a; intro a S
              refine c_end ?_
              refine wp_seq ?_
              rcases ite_of h0 with ⟨c4, h1⟩ | ⟨c4, h1⟩ <;> clear h0
              · refine c_condT S rfl c4 ?_
                refine wp_skip ?_
                refine x_thenN ?_
                refine wp_seq ?_
                refine wp_block ?_
                refine c_region ?_
                refine s_move S rfl rfl ?_; clear S a; intro a S
                refine s_assign S rfl rfl ?_; clear S a; intro a S
                refine c_end ?_
                refine c_heldS S (.take 0 (.take 1 (.take 2 (.take 3 (.take 4 (.take 5 (.take 6 (.take 7 (.take 8 (.take 9 (.take 10 (.take 11 (.take 12 (.take 13 (.take 14 (.take 15 (.take 16 (.take 17 (.take 18 (.take 19 (.alts (.run 20 false .done .nil)))))))))))))))))))))) 20 [Res.cells g32 45 [.ints .u64 (((y10).drop (Int.toNat y9)).take 5) 5], Res.cells g33 23 [.ints .u64 [0, 0, 0, 0, 0, 0, 0, 0, 0, 0, 0, 0, 0, 0, 0, 0, 0, 0, 0, 0, 0, 0, 0, 0, 0] 25], Res.cells g34 23 [.ints .u64 y15 25], Res.fro 0 36 [.ints .u64 tbl0 24], Res.fro 1 47 [.ints .i64 tbl1 24], Res.fro 2 47 [.ints .i64 tbl2 24]] (.cons .here (.cons .here (.cons .here (.cons .here (.cons .here (.cons .here .nil)))))) ⟨Res.stay_cells, Res.stay_cells, Res.stay_cells, Res.stay_fro, Res.stay_fro, Res.stay_fro, trivial⟩ [(14, (.v (.int .i64 y14))), (13, (.v (.pointer (some ⟨g32, 0, none⟩)))), (12, (.v (.int .i64 y9))), (1, (.v (.pointer (some ⟨g34, 0, none⟩))))] ⟨rfl, rfl, rfl, rfl, trivial⟩ (by kernel_rfl) (by kernel_rfl) ?_; clear S; intro w S CL hw le
                refine h_move S CL hw le ⟨rfl, rfl, rfl, rfl, trivial⟩ rfl rfl rfl trivial ?_; clear S CL a; intro a S CL
                refine h_move S CL hw le ⟨rfl, rfl, rfl, rfl, rfl, trivial⟩ rfl rfl rfl trivial ?_; clear S CL a; intro a S CL
                refine h_bin S CL hw le ⟨rfl, rfl, rfl, rfl, rfl, rfl, trivial⟩ rfl rfl rfl rfl rfl trivial ?_; clear S CL a; intro a S CL
                refine h_move S CL hw le ⟨rfl, rfl, rfl, rfl, rfl, rfl, rfl, trivial⟩ rfl rfl rfl trivial ?_; clear S CL a; intro a S CL
                obtain ⟨c5, h2⟩ := chk_of h1; clear h1
                refine h_iaddr S CL hw le ⟨rfl, rfl, rfl, rfl, rfl, rfl, rfl, rfl, trivial⟩ rfl rfl Tryd.underlying45 T22 c5.1 c5.2 (mul1 _ _) rfl rfl trivial ?_; clear S CL a; intro a S CL
                refine h_loadi S CL hw le ⟨rfl, rfl, rfl, rfl, rfl, rfl, rfl, rfl, rfl, trivial⟩ (i := y14) rfl .here T22 .here rfl c5.1 c5.2 rfl rfl trivial ?_; clear S CL a; intro a S CL
                refine h_move S CL hw le ⟨rfl, rfl, rfl, rfl, rfl, rfl, rfl, rfl, rfl, rfl, trivial⟩ rfl rfl rfl trivial ?_; clear S CL a; intro a S CL
                refine h_bin S CL hw le ⟨rfl, rfl, rfl, rfl, rfl, rfl, rfl, rfl, rfl, rfl, rfl, trivial⟩ rfl rfl rfl rfl rfl trivial ?_; clear S CL a; intro a S CL
                refine h_rem S CL hw le ⟨rfl, rfl, rfl, rfl, rfl, rfl, rfl, rfl, rfl, rfl, rfl, rfl, trivial⟩ rfl rfl (by decide) rfl rfl trivial ?_; clear S CL a; intro a S CL
                obtain ⟨c6, h3⟩ := chk_of h2; clear h2
                refine h_iaddr S CL hw le ⟨rfl, rfl, rfl, rfl, rfl, rfl, rfl, rfl, rfl, rfl, rfl, rfl, rfl, trivial⟩ rfl rfl Tryd.underlying45 T22 c6.1 c6.2 (mul1 _ _) rfl rfl trivial ?_; clear S CL a; intro a S CL
                refine h_loadi S CL hw le ⟨rfl, rfl, rfl, rfl, rfl, rfl, rfl, rfl, rfl, rfl, rfl, rfl, rfl, rfl, trivial⟩ (i := (Int.tmod (wr .i64 (y14 + 1)) 5)) rfl .here T22 .here rfl c6.1 c6.2 rfl rfl trivial ?_; clear S CL a; intro a S CL
                refine h_un S CL hw le ⟨rfl, rfl, rfl, rfl, rfl, rfl, rfl, rfl, rfl, rfl, rfl, rfl, rfl, rfl, rfl, trivial⟩ rfl rfl rfl rfl trivial ?_; clear S CL a; intro a S CL
                refine h_move S CL hw le ⟨rfl, rfl, rfl, rfl, rfl, rfl, rfl, rfl, rfl, rfl, rfl, rfl, rfl, rfl, rfl, rfl, trivial⟩ rfl rfl rfl trivial ?_; clear S CL a; intro a S CL
                refine h_bin S CL hw le ⟨rfl, rfl, rfl, rfl, rfl, rfl, rfl, rfl, rfl, rfl, rfl, rfl, rfl, rfl, rfl, rfl, rfl, trivial⟩ rfl rfl rfl rfl rfl trivial ?_; clear S CL a; intro a S CL
                refine h_rem S CL hw le ⟨rfl, rfl, rfl, rfl, rfl, rfl, rfl, rfl, rfl, rfl, rfl, rfl, rfl, rfl, rfl, rfl, rfl, rfl, trivial⟩ rfl rfl (by decide) rfl rfl trivial ?_; clear S CL a; intro a S CL
                obtain ⟨c7, h4⟩ := chk_of h3; clear h3
                refine h_iaddr S CL hw le ⟨rfl, rfl, rfl, rfl, rfl, rfl, rfl, rfl, rfl, rfl, rfl, rfl, rfl, rfl, rfl, rfl, rfl, rfl, rfl, trivial⟩ rfl rfl Tryd.underlying45 T22 c7.1 c7.2 (mul1 _ _) rfl rfl trivial ?_; clear S CL a; intro a S CL
                refine h_loadi S CL hw le ⟨rfl, rfl, rfl, rfl, rfl, rfl, rfl, rfl, rfl, rfl, rfl, rfl, rfl, rfl, rfl, rfl, rfl, rfl, rfl, rfl, trivial⟩ (i := (Int.tmod (wr .i64 (y14 + 2)) 5)) rfl .here T22 .here rfl c7.1 c7.2 rfl rfl trivial ?_; clear S CL a; intro a S CL
                refine h_bin S CL hw le ⟨rfl, rfl, rfl, rfl, rfl, rfl, rfl, rfl, rfl, rfl, rfl, rfl, rfl, rfl, rfl, rfl, rfl, rfl, rfl, rfl, rfl, trivial⟩ rfl rfl rfl rfl rfl trivial ?_; clear S CL a; intro a S CL
                refine h_bin S CL hw le ⟨rfl, rfl, rfl, rfl, rfl, rfl, rfl, rfl, rfl, rfl, rfl, rfl, rfl, rfl, rfl, rfl, rfl, rfl, rfl, rfl, rfl, rfl, trivial⟩ rfl rfl rfl rfl rfl trivial ?_; clear S CL a; intro a S CL
                obtain ⟨c8, h5⟩ := chk_of h4; clear h4
                refine h_iaddr S CL hw le ⟨rfl, rfl, rfl, rfl, rfl, rfl, rfl, rfl, rfl, rfl, rfl, rfl, rfl, rfl, rfl, rfl, rfl, rfl, rfl, rfl, rfl, rfl, rfl, trivial⟩ rfl rfl Tryd.underlying23 T22 c8.1 c8.2 (mul1 _ _) rfl rfl trivial ?_; clear S CL a; intro a S CL
                refine h_run' S rfl trivial ?_
                refine s_storei S (i := (wr .i64 (y14 + y9))) rfl rfl (.there (.there .here)) T22 .here rfl c8.1 c8.2 ?_; clear S; intro w S
                refine h_back ⟨fun h => (nomatch h), ?_⟩
                refine h_done ?_; clear CL hw le
                refine x_blockN ?_
                refine x_thenN ?_
                refine c_region' ?_
                refine s_bin S rfl rfl rfl rfl ?_; clear S a; intro a S
                refine s_move S rfl rfl ?_; clear S a; intro a S
                refine c_end' ?_
                refine x_thenN ?_
                exact ⟨_, (wr .i64 (y14 + 1)), g32, g33, g34, (y15.set (Int.toNat (wr .i64 (y14 + y9))) (bits .xor .u64 (rd (((y10).drop (Int.toNat y9)).take 5) y14) (bits .and .u64 (bnot .u64 (rd (((y10).drop (Int.toNat y9)).take 5) (Int.tmod (wr .i64 (y14 + 1)) 5))) (rd (((y10).drop (Int.toNat y9)).take 5) (Int.tmod (wr .i64 (y14 + 2)) 5))))), (S.sub ⟨rfl, rfl, rfl, rfl, rfl, trivial⟩ (.cons .here (.cons .here (.cons .here (.cons .here (.cons .here (.cons .here .nil))))))), h5⟩
              · refine c_condF S rfl c4 ?_
                refine wp_exit ?_
                refine x_thenX ?_
                refine x_thenX ?_
                refine x_blockX ?_
                refine x_blockN ?_
                refine x_thenN ?_
                exact j5 _ g33 g34 y15 a w (S.sub ⟨rfl, rfl, rfl, trivial⟩ (.cons (.there .here) (.cons (.there .here) (.cons (.there .here) (.cons (.there .here) (.cons (.there .here) .nil)))))) h1
          · refine c_condF S rfl c1 ?_
            refine wp_exit ?_
            refine x_thenX ?_
            refine x_thenX ?_
            refine x_blockX ?_
            refine x_thenN ?_
            exact j4 _ g21 g22 y10 a w (S.sub ⟨rfl, rfl, trivial⟩ (.cons .here (.cons .here (.cons .here (.cons .here (.cons .here .nil)))))) h1
      refine c_region ?_
      refine s_loadaF S rfl (.there (.there (.there .here))) T47 (s' := [.ints .i64 tbl1 24]) rfl rfl ?_; clear S a; intro a S
      refine s_move S rfl rfl ?_; clear S a; intro a S
      refine c_end ?_
      refine wp_block ?_
      refine c_loop (fun q3 a w => ∃ (m : Mem) (y21 : Int) (y22 : List Int) (y23 : Int) (g39 : Nat) (g40 : Nat) (y24 : List Int), St 126 m (B0 mi w0) [(75, (.v (.int .i64 y21))), (74, (.agg [.ints .i64 y22 24])), (8, (.v (.int .u64 y23))), (2, (.v (.pointer (some ⟨g39, 0, none⟩)))), (1, (.v (.pointer (some ⟨g40, 0, none⟩))))] [Res.cells g39 23 [.ints .u64 [0, 0, 0, 0, 0, 0, 0, 0, 0, 0, 0, 0, 0, 0, 0, 0, 0, 0, 0, 0, 0, 0, 0, 0, 0] 25], Res.cells g40 23 [.ints .u64 y24 25], Res.fro 0 36 [.ints .u64 tbl0 24], Res.fro 1 47 [.ints .i64 tbl1 24], Res.fro 2 47 [.ints .i64 tbl2 24]] a w ∧ keccak_round.l3 k q3 y21 y22 y23 y24 = some r) ?_ ?_ (k := k) ⟨_, 0, tbl1, (rd y2 1), g7, g8, y2, (S.sub ⟨rfl, rfl, rfl, rfl, rfl, trivial⟩ (.cons .here (.cons .here (.cons .here (.cons .here (.cons .here .nil)))))), h0⟩
      · rintro a w ⟨m, y21, y22, y23, g39, g40, y24, S, h0⟩
        exact (nomatch (show (none : Option (List Int)) = some r from h0))
      · clear S h0
        rintro q3 a w ⟨m, y21, y22, y23, g39, g40, y24, S, h0⟩
        replace h0 : keccak_round.b3 k (keccak_round.l3 k q3) y21 y22 y23 y24 = some r := h0
        delta keccak_round.b3 at h0
        refine c_region ?_
        refine s_bin S rfl rfl rfl rfl ?_; clear S a; intro a S
        refine c_end ?_
        refine wp_seq ?_
        rcases ite_of h0 with ⟨c9, h1⟩ | ⟨c9, h1⟩ <;> clear h0
        · refine c_condT S rfl c9 ?_
          refine wp_skip ?_
          refine x_thenN ?_
          refine wp_seq ?_
          refine wp_block ?_
          refine c_region ?_
          refine s_move S rfl rfl ?_; clear S a; intro a S
          obtain ⟨c10, h2⟩ := chk_of h1; clear h1
          refine s_index S rfl rfl Tryd.underlying47 T3 c10.1 c10.2 rfl ?_; clear S a; intro a S
          refine s_assign S rfl rfl ?_; clear S a; intro a S
          refine s_assign S rfl rfl ?_; clear S a; intro a S
          refine c_end ?_
          refine c_region ?_
          refine s_move S rfl rfl ?_; clear S a; intro a S
          obtain ⟨c11, h3⟩ := chk_of h2; clear h2
          refine s_iaddr S rfl rfl Tryd.underlying23 T22 c11.1 c11.2 (mul1 _ _) rfl ?_; clear S a; intro a S
          refine s_loadi S (i := (rd y22 y21)) rfl (.there .here) T22 .here rfl c11.1 c11.2 rfl ?_; clear S a; intro a S
          refine s_assign S rfl rfl ?_; clear S a; intro a S
          refine c_end ?_
          refine c_region ?_
          refine s_move S rfl rfl ?_; clear S a; intro a S
          refine s_move S rfl rfl ?_; clear S a; intro a S
          refine s_move S rfl rfl ?_; clear S a; intro a S
          refine s_iaddr S rfl rfl Tryd.underlying47 T3 c10.1 c10.2 (mul1 _ _) rfl ?_; clear S a; intro a S
          refine s_loadiF S (i := y21) rfl (.there (.there (.there (.there .here)))) T3 .here rfl c10.1 c10.2 rfl ?_; clear S a; intro a S
          obtain ⟨t1, et1, h4⟩ := bind_of h3; clear h3
          refine s_call S (ds := [(.v (.int .u64 y23)), (.v (.int .i64 (rd tbl2 y21)))]) (d := (.v (.int .u64 t1))) N20 rfl rfl (bits_RotateLeft64.ok y23 (rd tbl2 y21) t1 et1 _ _) ?_; clear S a w; intro a w S
          refine s_iaddr S rfl rfl Tryd.underlying23 T22 c11.1 c11.2 (mul1 _ _) rfl ?_; clear S a; intro a S
          refine s_storei S (i := (rd y22 y21)) rfl rfl (.there .here) T22 .here rfl c11.1 c11.2 ?_; clear S w; intro w S
          refine c_end ?_
          refine c_region' ?_
          refine s_move S rfl rfl ?_; clear S a; intro a S
          refine s_assign S rfl rfl ?_; clear S a; intro a S
          refine c_end' ?_
          refine x_blockN ?_
          refine x_thenN ?_
          refine c_region' ?_
          refine s_bin S rfl rfl rfl rfl ?_; clear S a; intro a S
          refine s_move S rfl rfl ?_; clear S a; intro a S
          refine c_end' ?_
          refine x_thenN ?_
          exact ⟨_, (wr .i64 (y21 + 1)), y22, (rd y24 (rd y22 y21)), g39, g40, (y24.set (Int.toNat (rd y22 y21)) t1), (S.sub ⟨rfl, rfl, rfl, rfl, rfl, trivial⟩ (.cons .here (.cons .here (.cons .here (.cons .here (.cons .here .nil)))))), h4⟩
        · refine c_condF S rfl c9 ?_
          refine wp_exit ?_
          refine x_thenX ?_
          refine x_thenX ?_
          refine x_blockX ?_
          refine x_thenN ?_
          exact j3 _ g39 g40 y24 a w (S.sub ⟨rfl, rfl, trivial⟩ (.cons .here (.cons .here (.cons .here (.cons .here (.cons .here .nil)))))) h1
    refine c_region ?_
    refine s_move S rfl rfl ?_; clear S a; intro a S
    refine c_end ?_
    refine wp_block ?_
    refine c_loop (fun q4 a w => ∃ (m : Mem) (y29 : Int) (g53 : Nat) (g54 : Nat) (g55 : Nat) (y30 : List Int), St 126 m (B0 mi w0) [(44, (.v (.int .i64 y29))), (3, (.v (.pointer (some ⟨g53, 0, none⟩)))), (2, (.v (.pointer (some ⟨g54, 0, none⟩)))), (1, (.v (.pointer (some ⟨g55, 0, none⟩))))] [Res.cells g53 45 [.ints .u64 y1 5], Res.cells g54 23 [.ints .u64 [0, 0, 0, 0, 0, 0, 0, 0, 0, 0, 0, 0, 0, 0, 0, 0, 0, 0, 0, 0, 0, 0, 0, 0, 0] 25], Res.cells g55 23 [.ints .u64 y30 25], Res.fro 0 36 [.ints .u64 tbl0 24], Res.fro 1 47 [.ints .i64 tbl1 24], Res.fro 2 47 [.ints .i64 tbl2 24]] a w ∧ keccak_round.l4 k y1 q4 y29 y30 = some r) ?_ ?_ (k := k) ⟨_, 0, g4, g5, g6, x1, (S.sub ⟨rfl, rfl, rfl, rfl, trivial⟩ (.cons .here (.cons .here (.cons .here (.cons .here (.cons .here (.cons .here .nil))))))), h0⟩
    · rintro a w ⟨m, y29, g53, g54, g55, y30, S, h0⟩
      exact (nomatch (show (none : Option (List Int)) = some r from h0))
    · clear S h0
      rintro q4 a w ⟨m, y29, g53, g54, g55, y30, S, h0⟩
      replace h0 : keccak_round.b4 k y1 (keccak_round.l4 k y1 q4) y29 y30 = some r := h0
      delta keccak_round.b4 at h0
      refine c_region ?_
      refine s_bin S rfl rfl rfl rfl ?_; clear S a; intro a S
      refine c_end ?_
      refine wp_seq ?_
      rcases ite_of h0 with ⟨c12, h1⟩ | ⟨c12, h1⟩ <;> clear h0
      · refine c_condT S rfl c12 ?_
        refine wp_skip ?_
        refine x_thenN ?_
        refine wp_seq_k ?_
        intro K6 hK6
        have j6 : ∀ (m : Mem) (g56 : Nat) (g57 : Nat) (g58 : Nat) (y31 : List Int) (a : Act) (w : World), St 126 m (B0 mi w0) [(44, (.v (.int .i64 y29))), (3, (.v (.pointer (some ⟨g56, 0, none⟩)))), (2, (.v (.pointer (some ⟨g57, 0, none⟩)))), (1, (.v (.pointer (some ⟨g58, 0, none⟩))))] [Res.cells g56 45 [.ints .u64 y1 5], Res.cells g57 23 [.ints .u64 [0, 0, 0, 0, 0, 0, 0, 0, 0, 0, 0, 0, 0, 0, 0, 0, 0, 0, 0, 0, 0, 0, 0, 0, 0] 25], Res.cells g58 23 [.ints .u64 y31 25], Res.fro 0 36 [.ints .u64 tbl0 24], Res.fro 1 47 [.ints .i64 tbl1 24], Res.fro 2 47 [.ints .i64 tbl2 24]] a w → keccak_round.j6 y29 (keccak_round.l4 k y1 q4) y31 = some r → K6 a w := by
          intro m g56 g57 g58 y31 a w S h0
          delta keccak_round.j6 at h0
          refine hK6 a w ?_
          refine c_region' ?_
          refine s_bin S rfl rfl rfl rfl ?_; clear S a; intro a S
          refine s_move S rfl rfl ?_; clear S a; intro a S
          refine c_end' ?_
          refine x_thenN ?_
          exact ⟨_, (wr .i64 (y29 + 1)), g56, g57, g58, y31, (S.sub ⟨rfl, rfl, rfl, rfl, trivial⟩ (.cons .here (.cons .here (.cons .here (.cons .here (.cons .here (.cons .here .nil))))))), h0⟩
        refine wp_block ?_
        refine c_region ?_
        refine s_move S rfl rfl ?_; clear S a; intro a S
        refine s_assign S rfl rfl ?_; clear S a; intro a S
        refine c_end ?_
        refine wp_seq (c_heldS S (.take 0 (.take 1 (.take 2 (.take 3 (.take 4 (.take 5 (.take 6 (.take 7 (.take 8 (.take 9 (.alts (.run 10 true (.take 11 (.take 12 .done)) .nil)))))))))))) 13 [Res.cells g53 45 [.ints .u64 y1 5], Res.cells g54 23 [.ints .u64 [0, 0, 0, 0, 0, 0, 0, 0, 0, 0, 0, 0, 0, 0, 0, 0, 0, 0, 0, 0, 0, 0, 0, 0, 0] 25], Res.cells g55 23 [.ints .u64 y30 25], Res.fro 0 36 [.ints .u64 tbl0 24], Res.fro 1 47 [.ints .i64 tbl1 24], Res.fro 2 47 [.ints .i64 tbl2 24]] (.cons .here (.cons .here (.cons .here (.cons .here (.cons .here (.cons .here .nil)))))) ⟨Res.stay_cells, Res.stay_cells, Res.stay_cells, Res.stay_fro, Res.stay_fro, Res.stay_fro, trivial⟩ [(5, (.v (.int .i64 y29))), (3, (.v (.pointer (some ⟨g53, 0, none⟩))))] ⟨rfl, rfl, trivial⟩ (by kernel_rfl) (by kernel_rfl) ?_); clear S; intro w S CL hw le
        refine h_move S CL hw le ⟨rfl, rfl, trivial⟩ rfl rfl rfl trivial ?_; clear S CL a; intro a S CL
        refine h_bin S CL hw le ⟨rfl, rfl, rfl, trivial⟩ rfl rfl rfl rfl rfl trivial ?_; clear S CL a; intro a S CL
        refine h_rem S CL hw le ⟨rfl, rfl, rfl, rfl, trivial⟩ rfl rfl (by decide) rfl rfl trivial ?_; clear S CL a; intro a S CL
        obtain ⟨c13, h2⟩ := chk_of h1; clear h1
        refine h_iaddr S CL hw le ⟨rfl, rfl, rfl, rfl, rfl, trivial⟩ rfl rfl Tryd.underlying45 T22 c13.1 c13.2 (mul1 _ _) rfl rfl trivial ?_; clear S CL a; intro a S CL
        refine h_loadi S CL hw le ⟨rfl, rfl, rfl, rfl, rfl, rfl, trivial⟩ (i := (Int.tmod (wr .i64 (y29 + 4)) 5)) rfl .here T22 .here rfl c13.1 c13.2 rfl rfl trivial ?_; clear S CL a; intro a S CL
        refine h_move S CL hw le ⟨rfl, rfl, rfl, rfl, rfl, rfl, rfl, trivial⟩ rfl rfl rfl trivial ?_; clear S CL a; intro a S CL
        refine h_bin S CL hw le ⟨rfl, rfl, rfl, rfl, rfl, rfl, rfl, rfl, trivial⟩ rfl rfl rfl rfl rfl trivial ?_; clear S CL a; intro a S CL
        refine h_rem S CL hw le ⟨rfl, rfl, rfl, rfl, rfl, rfl, rfl, rfl, rfl, trivial⟩ rfl rfl (by decide) rfl rfl trivial ?_; clear S CL a; intro a S CL
        obtain ⟨c14, h3⟩ := chk_of h2; clear h2
        refine h_iaddr S CL hw le ⟨rfl, rfl, rfl, rfl, rfl, rfl, rfl, rfl, rfl, rfl, trivial⟩ rfl rfl Tryd.underlying45 T22 c14.1 c14.2 (mul1 _ _) rfl rfl trivial ?_; clear S CL a; intro a S CL
        refine h_loadi S CL hw le ⟨rfl, rfl, rfl, rfl, rfl, rfl, rfl, rfl, rfl, rfl, rfl, trivial⟩ (i := (Int.tmod (wr .i64 (y29 + 1)) 5)) rfl .here T22 .here rfl c14.1 c14.2 rfl rfl trivial ?_; clear S CL a; intro a S CL
        refine h_run' S rfl trivial ?_
        obtain ⟨t2, et2, h4⟩ := bind_of h3; clear h3
        refine s_call S (ds := [(.v (.int .u64 (rd y1 (Int.tmod (wr .i64 (y29 + 1)) 5)))), (.v (.int .i64 1))]) (d := (.v (.int .u64 t2))) N20 rfl rfl (bits_RotateLeft64.ok (rd y1 (Int.tmod (wr .i64 (y29 + 1)) 5)) 1 t2 et2 _ _) ?_; clear S a; intro a w S
        replace hw := CL.again hw S (.cons .here (.cons .here (.cons .here (.cons .here (.cons .here (.cons .here .nil)))))) le
        refine h_back ⟨fun _ => hw, ?_⟩
        replace CL := CL.add (t := 57) (d := (.v (.int .u64 t2))) S rfl rfl
        refine h_bin S CL hw le ⟨rfl, rfl, rfl, rfl, rfl, rfl, rfl, rfl, rfl, rfl, rfl, rfl, rfl, trivial⟩ rfl rfl rfl rfl rfl trivial ?_; clear S CL a; intro a S CL
        refine h_assign S CL hw le ⟨rfl, rfl, rfl, rfl, rfl, rfl, rfl, rfl, rfl, rfl, rfl, rfl, rfl, rfl, trivial⟩ rfl rfl rfl trivial ?_; clear S CL a; intro a S CL
        refine h_done ?_; clear CL hw le
        refine x_thenN ?_
        refine c_region ?_
        refine s_assign S rfl rfl ?_; clear S a; intro a S
        refine c_end ?_
        refine wp_block ?_
        refine c_loop (fun q5 a w => ∃ (m : Mem) (y34 : Int) (g65 : Nat) (g66 : Nat) (g67 : Nat) (y35 : List Int), St 126 m (B0 mi w0) [(7, (.v (.int .i64 y34))), (6, (.v (.int .u64 (bits .xor .u64 (rd y1 (Int.tmod (wr .i64 (y29 + 4)) 5)) t2)))), (5, (.v (.int .i64 y29))), (44, (.v (.int .i64 y29))), (3, (.v (.pointer (some ⟨g65, 0, none⟩)))), (2, (.v (.pointer (some ⟨g66, 0, none⟩)))), (1, (.v (.pointer (some ⟨g67, 0, none⟩))))] [Res.cells g65 45 [.ints .u64 y1 5], Res.cells g66 23 [.ints .u64 [0, 0, 0, 0, 0, 0, 0, 0, 0, 0, 0, 0, 0, 0, 0, 0, 0, 0, 0, 0, 0, 0, 0, 0, 0] 25], Res.cells g67 23 [.ints .u64 y35 25], Res.fro 0 36 [.ints .u64 tbl0 24], Res.fro 1 47 [.ints .i64 tbl1 24], Res.fro 2 47 [.ints .i64 tbl2 24]] a w ∧ keccak_round.l5 y1 y29 (keccak_round.l4 k y1 q4) t2 q5 y34 y35 = some r) ?_ ?_ (k := k) ⟨_, 0, g53, g54, g55, y30, (S.sub ⟨rfl, rfl, rfl, rfl, rfl, rfl, rfl, trivial⟩ (.cons .here (.cons .here (.cons .here (.cons .here (.cons .here (.cons .here .nil))))))), h4⟩
        · rintro a w ⟨m, y34, g65, g66, g67, y35, S, h0⟩
          exact (nomatch (show (none : Option (List Int)) = some r from h0))
        · clear S h4
          rintro q5 a w ⟨m, y34, g65, g66, g67, y35, S, h0⟩
          replace h0 : keccak_round.b5 y1 y29 (keccak_round.l4 k y1 q4) t2 (keccak_round.l5 y1 y29 (keccak_round.l4 k y1 q4) t2 q5) y34 y35 = some r := h0
          delta keccak_round.b5 at h0
          refine wp_seq ?_
          refine c_region ?_
          refine s_move S rfl rfl ?_; clear S a; intro a S
          refine s_bin S rfl rfl rfl rfl ?_; clear S a; intro a S
          refine c_end ?_
          rcases ite_of h0 with ⟨c15, h1⟩ | ⟨c15, h1⟩ <;> clear h0
          · refine c_condT S rfl c15 ?_
            refine wp_skip ?_
            refine x_thenN ?_
            refine wp_seq ?_
            refine wp_block ?_
            refine c_region' ?_
            refine s_move S rfl rfl ?_; clear S a; intro a S
            refine s_move S rfl rfl ?_; clear S a; intro a S
            refine s_bin S rfl rfl rfl rfl ?_; clear S a; intro a S
            obtain ⟨c16, h2⟩ := chk_of h1; clear h1
            refine s_iaddr S rfl rfl Tryd.underlying23 T22 c16.1 c16.2 (mul1 _ _) rfl ?_; clear S a; intro a S
            refine s_loadi S (i := (wr .i64 (y29 + y34))) rfl (.there (.there .here)) T22 .here rfl c16.1 c16.2 rfl ?_; clear S a; intro a S
            refine s_move S rfl rfl ?_; clear S a; intro a S
            refine s_bin S rfl rfl rfl rfl ?_; clear S a; intro a S
            refine s_iaddr S rfl rfl Tryd.underlying23 T22 c16.1 c16.2 (mul1 _ _) rfl ?_; clear S a; intro a S
            refine s_storei S (i := (wr .i64 (y29 + y34))) rfl rfl (.there (.there .here)) T22 .here rfl c16.1 c16.2 ?_; clear S w; intro w S
            refine c_end' ?_
            refine x_blockN ?_
            refine x_thenN ?_
            refine c_region' ?_
            refine s_move S rfl rfl ?_; clear S a; intro a S
            refine s_bin S rfl rfl rfl rfl ?_; clear S a; intro a S
            refine s_assign S rfl rfl ?_; clear S a; intro a S
            refine c_end' ?_
            refine x_thenN ?_
            exact ⟨_, (wr .i64 (y34 + 5)), g65, g66, g67, (y35.set (Int.toNat (wr .i64 (y29 + y34))) (bits .xor .u64 (rd y35 (wr .i64 (y29 + y34))) (bits .xor .u64 (rd y1 (Int.tmod (wr .i64 (y29 + 4)) 5)) t2))), (S.sub ⟨rfl, rfl, rfl, rfl, rfl, rfl, rfl, trivial⟩ (.cons .here (.cons .here (.cons .here (.cons .here (.cons .here (.cons .here .nil))))))), h2⟩
          · refine c_condF S rfl c15 ?_
            refine wp_exit ?_
            refine x_thenX ?_
            refine x_thenX ?_
            refine x_blockX ?_
            refine x_blockN ?_
            refine x_thenN ?_
            exact j6 _ g65 g66 g67 y35 a w (S.sub ⟨rfl, rfl, rfl, rfl, trivial⟩ (.cons .here (.cons .here (.cons .here (.cons .here (.cons .here (.cons .here .nil))))))) h1
      · refine c_condF S rfl c12 ?_
        refine wp_exit ?_
        refine x_thenX ?_
        refine x_thenX ?_
        refine x_blockX ?_
        refine x_thenN ?_
        exact j2 _ g54 g55 y30 a w (S.sub ⟨rfl, rfl, trivial⟩ (.cons (.there .here) (.cons (.there .here) (.cons (.there .here) (.cons (.there .here) (.cons (.there .here) .nil)))))) h1
  refine c_region ?_
  refine s_move S rfl rfl ?_; clear S a; intro a S
  refine c_end ?_
  refine wp_block ?_
  refine c_loop (fun q6 a w => ∃ (m : Mem) (y38 : Int) (g74 : Nat) (g75 : Nat) (g76 : Nat) (y39 : List Int), St 126 m (B0 mi w0) [(15, (.v (.int .i64 y38))), (3, (.v (.pointer (some ⟨g74, 0, none⟩)))), (2, (.v (.pointer (some ⟨g75, 0, none⟩)))), (1, (.v (.pointer (some ⟨g76, 0, none⟩))))] [Res.cells g74 45 [.ints .u64 y39 5], Res.cells g75 23 [.ints .u64 [0, 0, 0, 0, 0, 0, 0, 0, 0, 0, 0, 0, 0, 0, 0, 0, 0, 0, 0, 0, 0, 0, 0, 0, 0] 25], Res.cells g76 23 [.ints .u64 x1 25], Res.fro 0 36 [.ints .u64 tbl0 24], Res.fro 1 47 [.ints .i64 tbl1 24], Res.fro 2 47 [.ints .i64 tbl2 24]] a w ∧ keccak_round.l6 k x1 q6 y38 y39 = some r) ?_ ?_ (k := k) ⟨_, 0, g3, g2, g1, [0, 0, 0, 0, 0], (S.sub ⟨rfl, rfl, rfl, rfl, trivial⟩ (.cons .here (.cons .here (.cons .here (.cons .here (.cons .here (.cons .here .nil))))))), h0⟩
  · rintro a w ⟨m, y38, g74, g75, g76, y39, S, h0⟩
    exact (nomatch (show (none : Option (List Int)) = some r from h0))
  · clear S h0
    rintro q6 a w ⟨m, y38, g74, g75, g76, y39, S, h0⟩
    replace h0 : keccak_round.b6 k x1 (keccak_round.l6 k x1 q6) y38 y39 = some r := h0
    delta keccak_round.b6 at h0
    refine c_region ?_
    refine s_bin S rfl rfl rfl rfl ?_; clear S a; intro a S
    refine c_end ?_
    refine wp_seq ?_
    rcases ite_of h0 with ⟨c17, h1⟩ | ⟨c17, h1⟩ <;> clear h0
    · refine c_condT S rfl c17 ?_
      refine wp_skip ?_
      refine x_thenN ?_
      refine wp_seq ?_
      refine wp_block ?_
      refine c_region ?_
      refine s_move S rfl rfl ?_; clear S a; intro a S
      refine s_assign S rfl rfl ?_; clear S a; intro a S
      refine c_end ?_
      refine c_heldS S (.take 0 (.take 1 (.take 2 (.take 3 (.take 4 (.take 5 (.take 6 (.take 7 (.take 8 (.take 9 (.take 10 (.take 11 (.take 12 (.take 13 (.take 14 (.take 15 (.take 16 (.take 17 (.take 18 (.take 19 (.take 20 (.take 21 (.take 22 (.take 23 (.take 24 (.alts (.run 25 false .done .nil))))))))))))))))))))))))))) 25 [Res.cells g74 45 [.ints .u64 y39 5], Res.cells g75 23 [.ints .u64 [0, 0, 0, 0, 0, 0, 0, 0, 0, 0, 0, 0, 0, 0, 0, 0, 0, 0, 0, 0, 0, 0, 0, 0, 0] 25], Res.cells g76 23 [.ints .u64 x1 25], Res.fro 0 36 [.ints .u64 tbl0 24], Res.fro 1 47 [.ints .i64 tbl1 24], Res.fro 2 47 [.ints .i64 tbl2 24]] (.cons .here (.cons .here (.cons .here (.cons .here (.cons .here (.cons .here .nil)))))) ⟨Res.stay_cells, Res.stay_cells, Res.stay_cells, Res.stay_fro, Res.stay_fro, Res.stay_fro, trivial⟩ [(4, (.v (.int .i64 y38))), (3, (.v (.pointer (some ⟨g74, 0, none⟩)))), (1, (.v (.pointer (some ⟨g76, 0, none⟩))))] ⟨rfl, rfl, rfl, trivial⟩ (by kernel_rfl) (by kernel_rfl) ?_; clear S; intro w S CL hw le
      refine h_move S CL hw le ⟨rfl, rfl, rfl, trivial⟩ rfl rfl rfl trivial ?_; clear S CL a; intro a S CL
      refine h_move S CL hw le ⟨rfl, rfl, rfl, rfl, trivial⟩ rfl rfl rfl trivial ?_; clear S CL a; intro a S CL
      obtain ⟨c18, h2⟩ := chk_of h1; clear h1
      refine h_iaddr S CL hw le ⟨rfl, rfl, rfl, rfl, rfl, trivial⟩ rfl rfl Tryd.underlying23 T22 c18.1 c18.2 (mul1 _ _) rfl rfl trivial ?_; clear S CL a; intro a S CL
      refine h_loadi S CL hw le ⟨rfl, rfl, rfl, rfl, rfl, rfl, trivial⟩ (i := y38) rfl (.there (.there .here)) T22 .here rfl c18.1 c18.2 rfl rfl trivial ?_; clear S CL a; intro a S CL
      refine h_move S CL hw le ⟨rfl, rfl, rfl, rfl, rfl, rfl, rfl, trivial⟩ rfl rfl rfl trivial ?_; clear S CL a; intro a S CL
      refine h_bin S CL hw le ⟨rfl, rfl, rfl, rfl, rfl, rfl, rfl, rfl, trivial⟩ rfl rfl rfl rfl rfl trivial ?_; clear S CL a; intro a S CL
      obtain ⟨c19, h3⟩ := chk_of h2; clear h2
      refine h_iaddr S CL hw le ⟨rfl, rfl, rfl, rfl, rfl, rfl, rfl, rfl, rfl, trivial⟩ rfl rfl Tryd.underlying23 T22 c19.1 c19.2 (mul1 _ _) rfl rfl trivial ?_; clear S CL a; intro a S CL
      refine h_loadi S CL hw le ⟨rfl, rfl, rfl, rfl, rfl, rfl, rfl, rfl, rfl, rfl, trivial⟩ (i := (wr .i64 (y38 + 5))) rfl (.there (.there .here)) T22 .here rfl c19.1 c19.2 rfl rfl trivial ?_; clear S CL a; intro a S CL
      refine h_bin S CL hw le ⟨rfl, rfl, rfl, rfl, rfl, rfl, rfl, rfl, rfl, rfl, rfl, trivial⟩ rfl rfl rfl rfl rfl trivial ?_; clear S CL a; intro a S CL
      refine h_move S CL hw le ⟨rfl, rfl, rfl, rfl, rfl, rfl, rfl, rfl, rfl, rfl, rfl, rfl, trivial⟩ rfl rfl rfl trivial ?_; clear S CL a; intro a S CL
      refine h_bin S CL hw le ⟨rfl, rfl, rfl, rfl, rfl, rfl, rfl, rfl, rfl, rfl, rfl, rfl, rfl, trivial⟩ rfl rfl rfl rfl rfl trivial ?_; clear S CL a; intro a S CL
      obtain ⟨c20, h4⟩ := chk_of h3; clear h3
      refine h_iaddr S CL hw le ⟨rfl, rfl, rfl, rfl, rfl, rfl, rfl, rfl, rfl, rfl, rfl, rfl, rfl, rfl, trivial⟩ rfl rfl Tryd.underlying23 T22 c20.1 c20.2 (mul1 _ _) rfl rfl trivial ?_; clear S CL a; intro a S CL
      refine h_loadi S CL hw le ⟨rfl, rfl, rfl, rfl, rfl, rfl, rfl, rfl, rfl, rfl, rfl, rfl, rfl, rfl, rfl, trivial⟩ (i := (wr .i64 (y38 + 10))) rfl (.there (.there .here)) T22 .here rfl c20.1 c20.2 rfl rfl trivial ?_; clear S CL a; intro a S CL
      refine h_bin S CL hw le ⟨rfl, rfl, rfl, rfl, rfl, rfl, rfl, rfl, rfl, rfl, rfl, rfl, rfl, rfl, rfl, rfl, trivial⟩ rfl rfl rfl rfl rfl trivial ?_; clear S CL a; intro a S CL
      refine h_move S CL hw le ⟨rfl, rfl, rfl, rfl, rfl, rfl, rfl, rfl, rfl, rfl, rfl, rfl, rfl, rfl, rfl, rfl, rfl, trivial⟩ rfl rfl rfl trivial ?_; clear S CL a; intro a S CL
      refine h_bin S CL hw le ⟨rfl, rfl, rfl, rfl, rfl, rfl, rfl, rfl, rfl, rfl, rfl, rfl, rfl, rfl, rfl, rfl, rfl, rfl, trivial⟩ rfl rfl rfl rfl rfl trivial ?_; clear S CL a; intro a S CL
      obtain ⟨c21, h5⟩ := chk_of h4; clear h4
      refine h_iaddr S CL hw le ⟨rfl, rfl, rfl, rfl, rfl, rfl, rfl, rfl, rfl, rfl, rfl, rfl, rfl, rfl, rfl, rfl, rfl, rfl, rfl, trivial⟩ rfl rfl Tryd.underlying23 T22 c21.1 c21.2 (mul1 _ _) rfl rfl trivial ?_; clear S CL a; intro a S CL
      refine h_loadi S CL hw le ⟨rfl, rfl, rfl, rfl, rfl, rfl, rfl, rfl, rfl, rfl, rfl, rfl, rfl, rfl, rfl, rfl, rfl, rfl, rfl, rfl, trivial⟩ (i := (wr .i64 (y38 + 15))) rfl (.there (.there .here)) T22 .here rfl c21.1 c21.2 rfl rfl trivial ?_; clear S CL a; intro a S CL
      refine h_bin S CL hw le ⟨rfl, rfl, rfl, rfl, rfl, rfl, rfl, rfl, rfl, rfl, rfl, rfl, rfl, rfl, rfl, rfl, rfl, rfl, rfl, rfl, rfl, trivial⟩ rfl rfl rfl rfl rfl trivial ?_; clear S CL a; intro a S CL
      refine h_move S CL hw le ⟨rfl, rfl, rfl, rfl, rfl, rfl, rfl, rfl, rfl, rfl, rfl, rfl, rfl, rfl, rfl, rfl, rfl, rfl, rfl, rfl, rfl, rfl, trivial⟩ rfl rfl rfl trivial ?_; clear S CL a; intro a S CL
      refine h_bin S CL hw le ⟨rfl, rfl, rfl, rfl, rfl, rfl, rfl, rfl, rfl, rfl, rfl, rfl, rfl, rfl, rfl, rfl, rfl, rfl, rfl, rfl, rfl, rfl, rfl, trivial⟩ rfl rfl rfl rfl rfl trivial ?_; clear S CL a; intro a S CL
      obtain ⟨c22, h6⟩ := chk_of h5; clear h5
      refine h_iaddr S CL hw le ⟨rfl, rfl, rfl, rfl, rfl, rfl, rfl, rfl, rfl, rfl, rfl, rfl, rfl, rfl, rfl, rfl, rfl, rfl, rfl, rfl, rfl, rfl, rfl, rfl, trivial⟩ rfl rfl Tryd.underlying23 T22 c22.1 c22.2 (mul1 _ _) rfl rfl trivial ?_; clear S CL a; intro a S CL
      refine h_loadi S CL hw le ⟨rfl, rfl, rfl, rfl, rfl, rfl, rfl, rfl, rfl, rfl, rfl, rfl, rfl, rfl, rfl, rfl, rfl, rfl, rfl, rfl, rfl, rfl, rfl, rfl, rfl, trivial⟩ (i := (wr .i64 (y38 + 20))) rfl (.there (.there .here)) T22 .here rfl c22.1 c22.2 rfl rfl trivial ?_; clear S CL a; intro a S CL
      refine h_bin S CL hw le ⟨rfl, rfl, rfl, rfl, rfl, rfl, rfl, rfl, rfl, rfl, rfl, rfl, rfl, rfl, rfl, rfl, rfl, rfl, rfl, rfl, rfl, rfl, rfl, rfl, rfl, rfl, trivial⟩ rfl rfl rfl rfl rfl trivial ?_; clear S CL a; intro a S CL
      obtain ⟨c23, h7⟩ := chk_of h6; clear h6
      refine h_iaddr S CL hw le ⟨rfl, rfl, rfl, rfl, rfl, rfl, rfl, rfl, rfl, rfl, rfl, rfl, rfl, rfl, rfl, rfl, rfl, rfl, rfl, rfl, rfl, rfl, rfl, rfl, rfl, rfl, rfl, trivial⟩ rfl rfl Tryd.underlying45 T22 c23.1 c23.2 (mul1 _ _) rfl rfl trivial ?_; clear S CL a; intro a S CL
      refine h_run' S rfl trivial ?_
      refine s_storei S (i := y38) rfl rfl .here T22 .here rfl c23.1 c23.2 ?_; clear S; intro w S
      refine h_back ⟨fun h => (nomatch h), ?_⟩
      refine h_done ?_; clear CL hw le
      refine x_blockN ?_
      refine x_thenN ?_
      refine c_region' ?_
      refine s_bin S rfl rfl rfl rfl ?_; clear S a; intro a S
      refine s_move S rfl rfl ?_; clear S a; intro a S
      refine c_end' ?_
      refine x_thenN ?_
      exact ⟨_, (wr .i64 (y38 + 1)), g74, g75, g76, (y39.set (Int.toNat y38) (bits .xor .u64 (bits .xor .u64 (bits .xor .u64 (bits .xor .u64 (rd x1 y38) (rd x1 (wr .i64 (y38 + 5)))) (rd x1 (wr .i64 (y38 + 10)))) (rd x1 (wr .i64 (y38 + 15)))) (rd x1 (wr .i64 (y38 + 20))))), (S.sub ⟨rfl, rfl, rfl, rfl, trivial⟩ (.cons .here (.cons .here (.cons .here (.cons .here (.cons .here (.cons .here .nil))))))), h7⟩
    · refine c_condF S rfl c17 ?_
      refine wp_exit ?_
      refine x_thenX ?_
      refine x_thenX ?_
      refine x_blockX ?_
      refine x_thenN ?_
      exact j1 _ g74 g75 g76 y39 a w (S.sub ⟨rfl, rfl, rfl, trivial⟩ (.cons .here (.cons .here (.cons .here (.cons .here (.cons .here (.cons .here .nil))))))) h1
/-! smithy/keccak.Turn -/
def keccak_Turn.j1 (y1 : List Int) : Option (List Int) := some y1
def keccak_Turn.b1 (k : Nat) (rec1 : Int → (List Int) → (List Int) → Option (List Int)) (y6 : Int) (y7 : List Int) (y8 : List Int) : Option (List Int) := if (decide (y6 < 24)) = true then (if 0 ≤ y6 ∧ y6 < 24 then ((keccak_round.f k y8).bind fun t1 => (rec1 (wr .i64 (y6 + 1)) y7 (t1.set (Int.toNat 0) (bits .xor .u64 (rd t1 0) (rd y7 y6))))) else none) else (keccak_Turn.j1 y8)
def keccak_Turn.l1 (k : Nat) : Nat → Int → (List Int) → (List Int) → Option (List Int)
  | 0, _, _, _ => none
  | q + 1, y6, y7, y8 => keccak_Turn.b1 k (keccak_Turn.l1 k q) y6 y7 y8
def keccak_Turn.f (k : Nat) (x1 : List Int) : Option (List Int) := keccak_Turn.l1 k k 0 tbl0 x1
theorem keccak_Turn.ok (k : Nat) (x1 : List Int) (r : List Int) (h0 : keccak_Turn.f k x1 = some r) (mi : Mem) (w0 : World) (G : Glob mi) : okL mi [(.agg [.ints .u64 x1 25])] → Frz mi w0 → Calls Tryd.prog 7 (([(.agg [.ints .u64 x1 25])] : List D).map D.val).toArray w0 (Ret mi (.agg [.ints .u64 r 25]) w0) := by
  intro ok hm
  delta keccak_Turn.f at h0
  refine c_enter (n := 18) [(.agg [.ints .u64 x1 25])] (l := [(0, (.agg [.ints .u64 x1 25]))]) Tryd.func7 rfl rfl rfl rfl ok hm ?_
  clear ok hm
  intro a S
  replace S := S.addfro (g := 2) 47 G.2.2
  replace S := S.addfro (g := 1) 47 G.2.1
  replace S := S.addfro (g := 0) 36 G.1
  refine c_region ?_
  refine s_box S rfl rfl rfl ?_; clear S a; intro g1 a w S
  refine s_alloc S Z23 rfl ⟨rfl, trivial⟩ rfl ?_; clear S a w; intro g2 a w S
  refine c_end ?_
  refine wp_seq_k ?_
  intro K1 hK1
  have j1 : ∀ (m : Mem) (g3 : Nat) (g4 : Nat) (y1 : List Int) (a : Act) (w : World), St 18 m (B0 mi w0) [(2, (.v (.pointer (some ⟨g3, 0, none⟩)))), (1, (.v (.pointer (some ⟨g4, 0, none⟩))))] [Res.cells g3 23 [.ints .u64 [0, 0, 0, 0, 0, 0, 0, 0, 0, 0, 0, 0, 0, 0, 0, 0, 0, 0, 0, 0, 0, 0, 0, 0, 0] 25], Res.cells g4 23 [.ints .u64 y1 25], Res.fro 0 36 [.ints .u64 tbl0 24], Res.fro 1 47 [.ints .i64 tbl1 24], Res.fro 2 47 [.ints .i64 tbl2 24]] a w → keccak_Turn.j1 y1 = some r → K1 a w := by
    intro m g3 g4 y1 a w S h0
    delta keccak_Turn.j1 at h0
    refine hK1 a w ?_
    refine c_region ?_
    refine s_loada S rfl (.there .here) T23 (s' := [.ints .u64 y1 25]) rfl rfl ?_; clear S a; intro a S
    refine s_store S rfl rfl rfl (s' := [.ints .u64 y1 25]) .here T23 rfl rfl ?_; clear S w; intro w S
    refine c_end ?_
    refine wp_ret ?_
    obtain rfl := Option.some.inj h0
    exact b_ret1 (d := (.agg [.ints .u64 y1 25])) S rfl (resD_cell rfl .here T23 rfl rfl) fun ok => ⟨rfl, ok, S.below0⟩
  refine c_region ?_
  refine s_loadaF S rfl (.there (.there .here)) T36 (s' := [.ints .u64 tbl0 24]) rfl rfl ?_; clear S a; intro a S
  refine s_move S rfl rfl ?_; clear S a; intro a S
  refine c_end ?_
  refine wp_block ?_
  refine c_loop (fun q1 a w => ∃ (m : Mem) (y6 : Int) (y7 : List Int) (g9 : Nat) (g10 : Nat) (y8 : List Int), St 18 m (B0 mi w0) [(6, (.v (.int .i64 y6))), (5, (.agg [.ints .u64 y7 24])), (2, (.v (.pointer (some ⟨g9, 0, none⟩)))), (1, (.v (.pointer (some ⟨g10, 0, none⟩))))] [Res.cells g9 23 [.ints .u64 [0, 0, 0, 0, 0, 0, 0, 0, 0, 0, 0, 0, 0, 0, 0, 0, 0, 0, 0, 0, 0, 0, 0, 0, 0] 25], Res.cells g10 23 [.ints .u64 y8 25], Res.fro 0 36 [.ints .u64 tbl0 24], Res.fro 1 47 [.ints .i64 tbl1 24], Res.fro 2 47 [.ints .i64 tbl2 24]] a w ∧ keccak_Turn.l1 k q1 y6 y7 y8 = some r) ?_ ?_ (k := k) ⟨_, 0, tbl0, g2, g1, x1, (S.sub ⟨rfl, rfl, rfl, rfl, trivial⟩ (.cons .here (.cons .here (.cons .here (.cons .here (.cons .here .nil)))))), h0⟩
  · rintro a w ⟨m, y6, y7, g9, g10, y8, S, h0⟩
    exact (nomatch (show (none : Option (List Int)) = some r from h0))
  · clear S h0
    rintro q1 a w ⟨m, y6, y7, g9, g10, y8, S, h0⟩
    replace h0 : keccak_Turn.b1 k (keccak_Turn.l1 k q1) y6 y7 y8 = some r := h0
    delta keccak_Turn.b1 at h0
    refine c_region ?_
    refine s_bin S rfl rfl rfl rfl ?_; clear S a; intro a S
    refine c_end ?_
    refine wp_seq ?_
    rcases ite_of h0 with ⟨c1, h1⟩ | ⟨c1, h1⟩ <;> clear h0
    · refine c_condT S rfl c1 ?_
      refine wp_skip ?_
      refine x_thenN ?_
      refine wp_seq ?_
      refine wp_block ?_
      refine c_region ?_
      obtain ⟨c2, h2⟩ := chk_of h1; clear h1
      refine s_index S rfl rfl Tryd.underlying36 T22 c2.1 c2.2 rfl ?_; clear S a; intro a S
      refine s_assign S rfl rfl ?_; clear S a; intro a S
      refine c_end ?_
      refine c_region ?_
      refine s_loada S rfl (.there .here) T23 (s' := [.ints .u64 y8 25]) rfl rfl ?_; clear S a; intro a S
      obtain ⟨t1, et1, h3⟩ := bind_of h2; clear h2
      refine s_call S (ds := [(.agg [.ints .u64 y8 25])]) (d := (.agg [.ints .u64 t1 25])) N13 rfl rfl (keccak_round.ok k y8 t1 et1 _ _ (G.mono S.le)) ?_; clear S a w; intro a w S
      refine s_store S rfl rfl rfl (s' := [.ints .u64 t1 25]) (.there .here) T23 rfl rfl ?_; clear S w; intro w S
      refine c_end ?_
      refine c_region' ?_
      refine s_iaddr S (o' := 0) rfl rfl Tryd.underlying23 T22 (by decide) (by decide) rfl rfl ?_; clear S a; intro a S
      refine s_loadi S (i := 0) rfl (.there .here) T22 .here rfl (by decide) (by decide) rfl ?_; clear S a; intro a S
      refine s_move S rfl rfl ?_; clear S a; intro a S
      refine s_bin S rfl rfl rfl rfl ?_; clear S a; intro a S
      refine s_iaddr S (o' := 0) rfl rfl Tryd.underlying23 T22 (by decide) (by decide) rfl rfl ?_; clear S a; intro a S
      refine s_storei S (i := 0) rfl rfl (.there .here) T22 .here rfl (by decide) (by decide) ?_; clear S w; intro w S
      refine c_end' ?_
      refine x_blockN ?_
      refine x_thenN ?_
      refine c_region' ?_
      refine s_bin S rfl rfl rfl rfl ?_; clear S a; intro a S
      refine s_move S rfl rfl ?_; clear S a; intro a S
      refine c_end' ?_
      refine x_thenN ?_
      exact ⟨_, (wr .i64 (y6 + 1)), y7, g9, g10, (t1.set (Int.toNat 0) (bits .xor .u64 (rd t1 0) (rd y7 y6))), (S.sub ⟨rfl, rfl, rfl, rfl, trivial⟩ (.cons .here (.cons .here (.cons .here (.cons .here (.cons .here .nil)))))), h3⟩
    · refine c_condF S rfl c1 ?_
      refine wp_exit ?_
      refine x_thenX ?_
      refine x_thenX ?_
      refine x_blockX ?_
      refine x_thenN ?_
      exact j1 _ g9 g10 y8 a w (S.sub ⟨rfl, rfl, trivial⟩ (.cons .here (.cons .here (.cons .here (.cons .here (.cons .here .nil)))))) h1
/-! smithy/keccak.absorb -/
def keccak_absorb.j1 (k : Nat) (y1 : List Int) : Option (List Int) := (keccak_Turn.f k y1).bind fun t1 => (some t1)
def keccak_absorb.b1 (k : Nat) (x2 : List Int) (rec1 : Int → (List Int) → Option (List Int)) (y4 : Int) (y5 : List Int) : Option (List Int) := if (decide (y4 < ((x2).length : Int))) = true then (if 0 ≤ y4 ∧ y4 < ((x2).length : Int) then (if 0 ≤ (wr .i64 (Int.tdiv y4 8)) ∧ (wr .i64 (Int.tdiv y4 8)) < 25 then (if 0 ≤ (wr .i64 ((Int.tmod y4 8) * 8)) then (rec1 (wr .i64 (y4 + 1)) (y5.set (Int.toNat (wr .i64 (Int.tdiv y4 8))) (bits .xor .u64 (rd y5 (wr .i64 (Int.tdiv y4 8))) (shl .u64 (wr .u64 (rd x2 y4)) (min (Int.toNat (wr .i64 ((Int.tmod y4 8) * 8))) 64))))) else none) else none) else none) else (keccak_absorb.j1 k y5)
def keccak_absorb.l1 (k : Nat) (x2 : List Int) : Nat → Int → (List Int) → Option (List Int)
  | 0, _, _ => none
  | q + 1, y4, y5 => keccak_absorb.b1 k x2 (keccak_absorb.l1 k x2 q) y4 y5
def keccak_absorb.f (k : Nat) (x1 : List Int) (x2 : List Int) : Option (List Int) := keccak_absorb.l1 k x2 k 0 x1
theorem keccak_absorb.ok (k : Nat) (x1 : List Int) (x2 : List Int) (ch_x2 : Option Addr × Nat) (r : List Int) (h0 : keccak_absorb.f k x1 x2 = some r) (mi : Mem) (w0 : World) (G : Glob mi) : okL mi [(.agg [.ints .u64 x1 25]), (.sl ch_x2.1 (x2).length ch_x2.2 (RdS (Ty.int .u8) ch_x2.1 x2))] → Frz mi w0 → Calls Tryd.prog 16 (([(.agg [.ints .u64 x1 25]), (.sl ch_x2.1 (x2).length ch_x2.2 (RdS (Ty.int .u8) ch_x2.1 x2))] : List D).map D.val).toArray w0 (Ret mi (.agg [.ints .u64 r 25]) w0) := by
  intro ok hm
  delta keccak_absorb.f at h0
  refine c_enter (n := 29) [(.agg [.ints .u64 x1 25]), (.sl ch_x2.1 (x2).length ch_x2.2 (RdS (Ty.int .u8) ch_x2.1 x2))] (l := [(0, (.agg [.ints .u64 x1 25])), (1, (.sl ch_x2.1 (x2).length ch_x2.2 (RdS (Ty.int .u8) ch_x2.1 x2)))]) Tryd.func16 rfl rfl rfl rfl ok hm ?_
  clear ok hm
  intro a S
  refine c_region ?_
  refine s_box S rfl rfl rfl ?_; clear S a; intro g1 a w S
  refine s_alloc S Z23 rfl ⟨rfl, trivial⟩ rfl ?_; clear S a w; intro g2 a w S
  refine c_end ?_
  refine wp_seq_k ?_
  intro K1 hK1
  have j1 : ∀ (m : Mem) (g3 : Nat) (g4 : Nat) (y1 : List Int) (a : Act) (w : World), St 29 m (B0 mi w0) [(4, (.v (.pointer (some ⟨g3, 0, none⟩)))), (2, (.v (.pointer (some ⟨g4, 0, none⟩))))] [Res.cells g3 23 [.ints .u64 [0, 0, 0, 0, 0, 0, 0, 0, 0, 0, 0, 0, 0, 0, 0, 0, 0, 0, 0, 0, 0, 0, 0, 0, 0] 25], Res.cells g4 23 [.ints .u64 y1 25]] a w → keccak_absorb.j1 k y1 = some r → K1 a w := by
    intro m g3 g4 y1 a w S h0
    delta keccak_absorb.j1 at h0
    refine hK1 a w ?_
    refine c_region ?_
    refine s_loada S rfl (.there .here) T23 (s' := [.ints .u64 y1 25]) rfl rfl ?_; clear S a; intro a S
    obtain ⟨t1, et1, h1⟩ := bind_of h0; clear h0
    refine s_call S (ds := [(.agg [.ints .u64 y1 25])]) (d := (.agg [.ints .u64 t1 25])) N7 rfl rfl (keccak_Turn.ok k y1 t1 et1 _ _ (G.mono S.le)) ?_; clear S a w; intro a w S
    refine s_store S rfl rfl rfl (s' := [.ints .u64 t1 25]) .here T23 rfl rfl ?_; clear S w; intro w S
    refine c_end ?_
    refine wp_ret ?_
    obtain rfl := Option.some.inj h1
    exact b_ret1 (d := (.agg [.ints .u64 t1 25])) S rfl (resD_cell rfl .here T23 rfl rfl) fun ok => ⟨rfl, ok, S.below0⟩
  refine c_region ?_
  refine s_move S rfl rfl ?_; clear S a; intro a S
  refine s_lenS S rfl Tryd.underlying27 rfl ?_; clear S a; intro a S
  refine s_move S rfl rfl ?_; clear S a; intro a S
  refine c_end ?_
  refine wp_block ?_
  refine c_loop (fun q1 a w => ∃ (m : Mem) (y4 : Int) (g9 : Nat) (g10 : Nat) (y5 : List Int), St 29 m (B0 mi w0) [(9, (.v (.int .i64 y4))), (8, (.v (.int .i64 ((x2).length : Int)))), (7, (.sl ch_x2.1 (x2).length ch_x2.2 (RdS (Ty.int .u8) ch_x2.1 x2))), (4, (.v (.pointer (some ⟨g9, 0, none⟩)))), (2, (.v (.pointer (some ⟨g10, 0, none⟩))))] [Res.cells g9 23 [.ints .u64 [0, 0, 0, 0, 0, 0, 0, 0, 0, 0, 0, 0, 0, 0, 0, 0, 0, 0, 0, 0, 0, 0, 0, 0, 0] 25], Res.cells g10 23 [.ints .u64 y5 25]] a w ∧ keccak_absorb.l1 k x2 q1 y4 y5 = some r) ?_ ?_ (k := k) ⟨_, 0, g2, g1, x1, (S.sub ⟨rfl, rfl, rfl, rfl, rfl, trivial⟩ (.cons .here (.cons .here .nil))), h0⟩
  · rintro a w ⟨m, y4, g9, g10, y5, S, h0⟩
    exact (nomatch (show (none : Option (List Int)) = some r from h0))
  · clear S h0
    rintro q1 a w ⟨m, y4, g9, g10, y5, S, h0⟩
    replace h0 : keccak_absorb.b1 k x2 (keccak_absorb.l1 k x2 q1) y4 y5 = some r := h0
    delta keccak_absorb.b1 at h0
    refine c_region ?_
    refine s_bin S rfl rfl rfl rfl ?_; clear S a; intro a S
    refine c_end ?_
    refine wp_seq ?_
    rcases ite_of h0 with ⟨c1, h1⟩ | ⟨c1, h1⟩ <;> clear h0
    · refine c_condT S rfl c1 ?_
      refine wp_skip ?_
      refine x_thenN ?_
      refine wp_seq ?_
      refine wp_block ?_
      refine c_region ?_
      refine s_move S rfl rfl ?_; clear S a; intro a S
      obtain ⟨c2, h2⟩ := chk_of h1; clear h1
      refine s_iaddrS S rfl rfl rfl Tryd.underlying27 T5 c2.1 c2.2 rfl ?_; clear S a; intro p1 a S
      refine s_ld1 S (v := (.int .u8 (rd x2 y4))) rfl T5 (fun _ => rfl) rfl ?_; clear S a; intro a S
      refine s_assign S rfl rfl ?_; clear S a; intro a S
      refine s_assign S rfl rfl ?_; clear S a; intro a S
      refine c_end ?_
      refine c_heldS S (.take 0 (.take 1 (.take 2 (.take 3 (.take 4 (.take 5 (.take 6 (.take 7 (.take 8 (.take 9 (.take 10 (.take 11 (.alts (.run 12 false .done .nil)))))))))))))) 12 [Res.cells g9 23 [.ints .u64 [0, 0, 0, 0, 0, 0, 0, 0, 0, 0, 0, 0, 0, 0, 0, 0, 0, 0, 0, 0, 0, 0, 0, 0, 0] 25], Res.cells g10 23 [.ints .u64 y5 25]] (.cons .here (.cons .here .nil)) ⟨Res.stay_cells, Res.stay_cells, trivial⟩ [(6, (.v (.int .u8 (rd x2 y4)))), (5, (.v (.int .i64 y4))), (2, (.v (.pointer (some ⟨g10, 0, none⟩))))] ⟨rfl, rfl, rfl, trivial⟩ (by kernel_rfl) (by kernel_rfl) ?_; clear S; intro w S CL hw le
      refine h_move S CL hw le ⟨rfl, rfl, rfl, trivial⟩ rfl rfl rfl trivial ?_; clear S CL a; intro a S CL
      refine h_quo S CL hw le ⟨rfl, rfl, rfl, rfl, trivial⟩ rfl rfl (by decide) rfl rfl trivial ?_; clear S CL a; intro a S CL
      obtain ⟨c3, h3⟩ := chk_of h2; clear h2
      refine h_iaddr S CL hw le ⟨rfl, rfl, rfl, rfl, rfl, trivial⟩ rfl rfl Tryd.underlying23 T22 c3.1 c3.2 (mul1 _ _) rfl rfl trivial ?_; clear S CL a; intro a S CL
      refine h_loadi S CL hw le ⟨rfl, rfl, rfl, rfl, rfl, rfl, trivial⟩ (i := (wr .i64 (Int.tdiv y4 8))) rfl (.there .here) T22 .here rfl c3.1 c3.2 rfl rfl trivial ?_; clear S CL a; intro a S CL
      refine h_move S CL hw le ⟨rfl, rfl, rfl, rfl, rfl, rfl, rfl, trivial⟩ rfl rfl rfl trivial ?_; clear S CL a; intro a S CL
      refine h_conv S CL hw le ⟨rfl, rfl, rfl, rfl, rfl, rfl, rfl, rfl, trivial⟩ rfl rfl Tryd.underlying22 rfl rfl trivial ?_; clear S CL a; intro a S CL
      refine h_move S CL hw le ⟨rfl, rfl, rfl, rfl, rfl, rfl, rfl, rfl, rfl, trivial⟩ rfl rfl rfl trivial ?_; clear S CL a; intro a S CL
      refine h_rem S CL hw le ⟨rfl, rfl, rfl, rfl, rfl, rfl, rfl, rfl, rfl, rfl, trivial⟩ rfl rfl (by decide) rfl rfl trivial ?_; clear S CL a; intro a S CL
      refine h_bin S CL hw le ⟨rfl, rfl, rfl, rfl, rfl, rfl, rfl, rfl, rfl, rfl, rfl, trivial⟩ rfl rfl rfl rfl rfl trivial ?_; clear S CL a; intro a S CL
      obtain ⟨c4, h4⟩ := chk_of h3; clear h3
      refine h_shl S CL hw le ⟨rfl, rfl, rfl, rfl, rfl, rfl, rfl, rfl, rfl, rfl, rfl, rfl, trivial⟩ (e := (min (Int.toNat (wr .i64 ((Int.tmod y4 8) * 8))) 64)) rfl rfl c4 rfl rfl rfl trivial ?_; clear S CL a; intro a S CL
      refine h_bin S CL hw le ⟨rfl, rfl, rfl, rfl, rfl, rfl, rfl, rfl, rfl, rfl, rfl, rfl, rfl, trivial⟩ rfl rfl rfl rfl rfl trivial ?_; clear S CL a; intro a S CL
      refine h_iaddr S CL hw le ⟨rfl, rfl, rfl, rfl, rfl, rfl, rfl, rfl, rfl, rfl, rfl, rfl, rfl, rfl, trivial⟩ rfl rfl Tryd.underlying23 T22 c3.1 c3.2 (mul1 _ _) rfl rfl trivial ?_; clear S CL a; intro a S CL
      refine h_run' S rfl trivial ?_
      refine s_storei S (i := (wr .i64 (Int.tdiv y4 8))) rfl rfl (.there .here) T22 .here rfl c3.1 c3.2 ?_; clear S; intro w S
      refine h_back ⟨fun h => (nomatch h), ?_⟩
      refine h_done ?_; clear CL hw le
      refine x_blockN ?_
      refine x_thenN ?_
      refine c_region' ?_
      refine s_bin S rfl rfl rfl rfl ?_; clear S a; intro a S
      refine s_move S rfl rfl ?_; clear S a; intro a S
      refine c_end' ?_
      refine x_thenN ?_
      exact ⟨_, (wr .i64 (y4 + 1)), g9, g10, (y5.set (Int.toNat (wr .i64 (Int.tdiv y4 8))) (bits .xor .u64 (rd y5 (wr .i64 (Int.tdiv y4 8))) (shl .u64 (wr .u64 (rd x2 y4)) (min (Int.toNat (wr .i64 ((Int.tmod y4 8) * 8))) 64)))), (S.sub ⟨rfl, rfl, rfl, rfl, rfl, trivial⟩ (.cons .here (.cons .here .nil))), h4⟩
    · refine c_condF S rfl c1 ?_
      refine wp_exit ?_
      refine x_thenX ?_
      refine x_thenX ?_
      refine x_blockX ?_
      refine x_thenN ?_
      exact j1 _ g9 g10 y5 a w (S.sub ⟨rfl, rfl, trivial⟩ (.cons .here (.cons .here .nil))) h1
/-! smithy/keccak.Sum -/
def keccak_Sum.j2 (y3 : List Int) : Option (List Int) := some y3
def keccak_Sum.b1 (t1 : List Int) (rec1 : Int → (List Int) → Option (List Int)) (y6 : Int) (y7 : List Int) : Option (List Int) := if (decide (y6 < 32)) = true then (if 0 ≤ (wr .i64 (Int.tdiv y6 8)) ∧ (wr .i64 (Int.tdiv y6 8)) < 25 then (if 0 ≤ (wr .i64 ((Int.tmod y6 8) * 8)) then (if 0 ≤ y6 ∧ y6 < 32 then (rec1 (wr .i64 (y6 + 1)) (y7.set (Int.toNat y6) (wr .u8 (shr (rd t1 (wr .i64 (Int.tdiv y6 8))) (min (Int.toNat (wr .i64 ((Int.tmod y6 8) * 8))) 64))))) else none) else none) else none) else (keccak_Sum.j2 y7)
def keccak_Sum.l1 (t1 : List Int) : Nat → Int → (List Int) → Option (List Int)
  | 0, _, _ => none
  | q + 1, y6, y7 => keccak_Sum.b1 t1 (keccak_Sum.l1 t1 q) y6 y7
def keccak_Sum.j1 (k : Nat) (y1 : List Int) (y2 : List Int) : Option (List Int) := if 0 ≤ ((min (y1).length 136 : Nat) : Int) ∧ ((min (y1).length 136 : Nat) : Int) < 136 then ((keccak_absorb.f k y2 (((((cpy (List.replicate 136 0) 0 y1 (min (y1).length 136)).set (Int.toNat ((min (y1).length 136 : Nat) : Int)) 1).set (Int.toNat 135) (bits .or .u8 (rd ((cpy (List.replicate 136 0) 0 y1 (min (y1).length 136)).set (Int.toNat ((min (y1).length 136 : Nat) : Int)) 1) 135) 128)).drop 0).take 136)).bind fun t1 => (keccak_Sum.l1 t1 k 0 [0, 0, 0, 0, 0, 0, 0, 0, 0, 0, 0, 0, 0, 0, 0, 0, 0, 0, 0, 0, 0, 0, 0, 0, 0, 0, 0, 0, 0, 0, 0, 0])) else none
def keccak_Sum.b2 (k : Nat) (rec2 : (List Int) → (List Int) → Option (List Int)) (y10 : List Int) (y11 : List Int) : Option (List Int) := if (decide (136 ≤ ((y10).length : Int))) = true then (if (0 : Int) ≤ 0 ∧ (0 : Int) ≤ 136 ∧ 136 ≤ ((y10).length : Int) then ((keccak_absorb.f k y11 (y10.take (Int.toNat 136))).bind fun t4 => (if (0 : Int) ≤ 136 ∧ (136 : Int) ≤ ((y10).length : Int) ∧ ((y10).length : Int) ≤ ((y10).length : Int) then (rec2 (y10.drop (Int.toNat 136)) t4) else none)) else none) else (keccak_Sum.j1 k y10 y11)
def keccak_Sum.l2 (k : Nat) : Nat → (List Int) → (List Int) → Option (List Int)
  | 0, _, _ => none
  | q + 1, y10, y11 => keccak_Sum.b2 k (keccak_Sum.l2 k q) y10 y11
def keccak_Sum.f (k : Nat) (x1 : List Int) : Option (List Int) := keccak_Sum.l2 k k x1 [0, 0, 0, 0, 0, 0, 0, 0, 0, 0, 0, 0, 0, 0, 0, 0, 0, 0, 0, 0, 0, 0, 0, 0, 0]
theorem keccak_Sum.ok (k : Nat) (x1 : List Int) (ch_x1 : Option Addr × Nat) (r : List Int) (h0 : keccak_Sum.f k x1 = some r) (mi : Mem) (w0 : World) (G : Glob mi) : okL mi [(.sl ch_x1.1 (x1).length ch_x1.2 (RdS (Ty.int .u8) ch_x1.1 x1))] → Frz mi w0 → Calls Tryd.prog 9 (([(.sl ch_x1.1 (x1).length ch_x1.2 (RdS (Ty.int .u8) ch_x1.1 x1))] : List D).map D.val).toArray w0 (Ret mi (.agg [.ints .u8 r 32]) w0) := by
  intro ok hm
  delta keccak_Sum.f at h0
  refine c_enter (n := 45) [(.sl ch_x1.1 (x1).length ch_x1.2 (RdS (Ty.int .u8) ch_x1.1 x1))] (l := [(0, (.sl ch_x1.1 (x1).length ch_x1.2 (RdS (Ty.int .u8) ch_x1.1 x1)))]) Tryd.func9 rfl rfl rfl rfl ok hm ?_
  clear ok hm
  intro a S
  refine c_region ?_
  refine s_alloc S Z29 rfl ⟨rfl, trivial⟩ rfl ?_; clear S a; intro g1 a w S
  refine c_end ?_
  refine c_region ?_
  refine s_alloc S Z23 rfl ⟨rfl, trivial⟩ rfl ?_; clear S a w; intro g2 a w S
  refine c_end ?_
  refine wp_seq_k ?_
  intro K1 hK1
  have j1 : ∀ (m : Mem) (g3 : Nat) (g4 : Nat) (A1 : Option Addr) (cp1 : Nat) (y1 : List Int) (y2 : List Int) (a : Act) (w : World), St 45 m (B0 mi w0) [(3, (.v (.pointer (some ⟨g3, 0, none⟩)))), (2, (.v (.pointer (some ⟨g4, 0, none⟩)))), (0, (.sl A1 (y1).length cp1 (RdS (Ty.int .u8) A1 y1)))] [Res.cells g3 23 [.ints .u64 y2 25], Res.cells g4 29 [.ints .u8 [0, 0, 0, 0, 0, 0, 0, 0, 0, 0, 0, 0, 0, 0, 0, 0, 0, 0, 0, 0, 0, 0, 0, 0, 0, 0, 0, 0, 0, 0, 0, 0] 32]] a w → keccak_Sum.j1 k y1 y2 = some r → K1 a w := by
    intro m g3 g4 A1 cp1 y1 y2 a w S h0
    delta keccak_Sum.j1 at h0
    refine hK1 a w ?_
    refine c_region ?_
    refine s_alloc S Z40 rfl ⟨rfl, trivial⟩ rfl ?_; clear S a w; intro g5 a w S
    refine c_end ?_
    refine c_region ?_
    refine s_sliceA S (i := 0) (j := 136) (o' := 0) (len := 136) (cap := 136) rfl Tryd.underlying40 T5 (.inl ⟨rfl, rfl⟩) (.inl ⟨rfl, rfl⟩) (by decide) rfl rfl rfl rfl ?_; clear S a; intro a S
    refine s_move S rfl rfl ?_; clear S a; intro a S
    refine s_copyA S (N := min (y1).length 136) (lo := 0) rfl .here rfl rfl (RdS.srcI (S.get 18 (.sl A1 (y1).length cp1 (RdS (Ty.int .u8) A1 y1)) rfl).2.2.2.1 S.frz) rfl .here (.inl rfl) (by decide) Tryd.underlying27 T5 rfl ?_; clear S a w; intro a w S
    refine s_assign S rfl rfl ?_; clear S a; intro a S
    refine c_end ?_
    refine c_region ?_
    refine s_move S rfl rfl ?_; clear S a; intro a S
    obtain ⟨c1, h1⟩ := chk_of h0; clear h0
    refine s_iaddr S rfl rfl Tryd.underlying40 T5 c1.1 c1.2 (mul1 _ _) rfl ?_; clear S a; intro a S
    refine s_storei S (i := ((min (y1).length 136 : Nat) : Int)) rfl rfl .here T5 .here rfl c1.1 c1.2 ?_; clear S w; intro w S
    refine c_end ?_
    refine c_region ?_
    refine s_iaddr S (o' := 135) rfl rfl Tryd.underlying40 T5 (by decide) (by decide) rfl rfl ?_; clear S a; intro a S
    refine s_loadi S (i := 135) rfl .here T5 .here rfl (by decide) (by decide) rfl ?_; clear S a; intro a S
    refine s_bin S rfl rfl rfl rfl ?_; clear S a; intro a S
    refine s_iaddr S (o' := 135) rfl rfl Tryd.underlying40 T5 (by decide) (by decide) rfl rfl ?_; clear S a; intro a S
    refine s_storei S (i := 135) rfl rfl .here T5 .here rfl (by decide) (by decide) ?_; clear S w; intro w S
    refine c_end ?_
    refine wp_seq (c_heldS S (.take 0 (.take 1 (.alts (.run 2 true (.alts (.run 3 false .done .nil)) .nil)))) 3 [Res.cells g3 23 [.ints .u64 y2 25], Res.cells g4 29 [.ints .u8 [0, 0, 0, 0, 0, 0, 0, 0, 0, 0, 0, 0, 0, 0, 0, 0, 0, 0, 0, 0, 0, 0, 0, 0, 0, 0, 0, 0, 0, 0, 0, 0] 32]] (.cons (.there .here) (.cons (.there .here) .nil)) ⟨Res.stay_cells, Res.stay_cells, trivial⟩ [(4, (.v (.pointer (some ⟨g5, 0, none⟩)))), (3, (.v (.pointer (some ⟨g3, 0, none⟩))))] ⟨rfl, rfl, trivial⟩ (by kernel_rfl) (by kernel_rfl) ?_); clear S; intro w S CL hw le
    refine h_loada S CL hw le ⟨rfl, rfl, trivial⟩ rfl .here T23 (s' := [.ints .u64 y2 25]) rfl rfl rfl trivial ?_; clear S CL a; intro a S CL
    refine h_sliceA S CL hw le ⟨rfl, rfl, rfl, trivial⟩ (i := 0) (j := 136) (o' := 0) (len := 136) (cap := 136) rfl Tryd.underlying40 T5 (.inl ⟨rfl, rfl⟩) (.inl ⟨rfl, rfl⟩) (by decide) rfl rfl rfl rfl rfl trivial ?_; clear S CL a; intro a S CL
    refine h_run' S rfl trivial ?_
    replace S := S.freeze .here
    obtain ⟨m, le1, S⟩ := S
    replace le := le.trans le1
    replace S := (S.slup' (u := 27) (lo := 0) (c := 136) (ys := ((((cpy (List.replicate 136 0) 0 y1 (min (y1).length 136)).set (Int.toNat ((min (y1).length 136 : Nat) : Int)) 1).set (Int.toNat 135) (bits .or .u8 (rd ((cpy (List.replicate 136 0) 0 y1 (min (y1).length 136)).set (Int.toNat ((min (y1).length 136 : Nat) : Int)) 1) 135) 128)).drop 0).take 136) rfl (Pull.mem .here).1 .here (.inl rfl) (by decide) (by decide) rfl).2
    obtain ⟨t1, et1, h2⟩ := bind_of h1; clear h1
    refine s_call S (ds := [(.agg [.ints .u64 y2 25]), (.sl (some ⟨g5, 0, none⟩) (((((cpy (List.replicate 136 0) 0 y1 (min (y1).length 136)).set (Int.toNat ((min (y1).length 136 : Nat) : Int)) 1).set (Int.toNat 135) (bits .or .u8 (rd ((cpy (List.replicate 136 0) 0 y1 (min (y1).length 136)).set (Int.toNat ((min (y1).length 136 : Nat) : Int)) 1) 135) 128)).drop 0).take 136).length 136 (RdS (Ty.int .u8) (some ⟨g5, 0, none⟩) (((((cpy (List.replicate 136 0) 0 y1 (min (y1).length 136)).set (Int.toNat ((min (y1).length 136 : Nat) : Int)) 1).set (Int.toNat 135) (bits .or .u8 (rd ((cpy (List.replicate 136 0) 0 y1 (min (y1).length 136)).set (Int.toNat ((min (y1).length 136 : Nat) : Int)) 1) 135) 128)).drop 0).take 136)))]) (d := (.agg [.ints .u64 t1 25])) N16 rfl rfl (keccak_absorb.ok k y2 (((((cpy (List.replicate 136 0) 0 y1 (min (y1).length 136)).set (Int.toNat ((min (y1).length 136 : Nat) : Int)) 1).set (Int.toNat 135) (bits .or .u8 (rd ((cpy (List.replicate 136 0) 0 y1 (min (y1).length 136)).set (Int.toNat ((min (y1).length 136 : Nat) : Int)) 1) 135) 128)).drop 0).take 136) ((some ⟨g5, 0, none⟩), 136) t1 et1 _ _ (G.mono S.le)) ?_; clear S a; intro a w S
    replace hw := CL.again hw S (.cons (.there .here) (.cons (.there .here) .nil)) le
    refine h_back ⟨fun _ => hw, ?_⟩
    refine h_run' S rfl trivial ?_
    refine s_store S rfl rfl rfl (s' := [.ints .u64 t1 25]) (.there .here) T23 rfl rfl ?_; clear S; intro w S
    refine h_back ⟨fun h => (nomatch h), ?_⟩
    refine h_done ?_; clear CL hw le
    refine x_thenN ?_
    refine c_region ?_
    refine s_alloc S Z29 rfl ⟨rfl, trivial⟩ rfl ?_; clear S a w; intro g6 a w S
    refine c_end ?_
    refine wp_seq_k ?_
    intro K2 hK2
    have j2 : ∀ (m : Mem) (g7 : Nat) (g8 : Nat) (y3 : List Int) (a : Act) (w : World), St 45 m (B0 mi w0) [(6, (.v (.pointer (some ⟨g7, 0, none⟩)))), (2, (.v (.pointer (some ⟨g8, 0, none⟩))))] [Res.cells g7 29 [.ints .u8 y3 32], Res.cells g8 29 [.ints .u8 [0, 0, 0, 0, 0, 0, 0, 0, 0, 0, 0, 0, 0, 0, 0, 0, 0, 0, 0, 0, 0, 0, 0, 0, 0, 0, 0, 0, 0, 0, 0, 0] 32]] a w → keccak_Sum.j2 y3 = some r → K2 a w := by
      intro m g7 g8 y3 a w S h0
      delta keccak_Sum.j2 at h0
      refine hK2 a w ?_
      refine c_region ?_
      refine s_loada S rfl .here T29 (s' := [.ints .u8 y3 32]) rfl rfl ?_; clear S a; intro a S
      refine s_store S rfl rfl rfl (s' := [.ints .u8 y3 32]) (.there .here) T29 rfl rfl ?_; clear S w; intro w S
      refine c_end ?_
      refine wp_ret ?_
      obtain rfl := Option.some.inj h0
      exact b_ret1 (d := (.agg [.ints .u8 y3 32])) S rfl (resD_cell rfl (.there .here) T29 rfl rfl) fun ok => ⟨rfl, ok, S.below0⟩
    refine c_region ?_
    refine s_move S rfl rfl ?_; clear S a; intro a S
    refine c_end ?_
    refine wp_block ?_
    refine c_loop (fun q1 a w => ∃ (m : Mem) (y6 : Int) (g15 : Nat) (g16 : Nat) (g17 : Nat) (y7 : List Int), St 45 m (B0 mi w0) [(29, (.v (.int .i64 y6))), (6, (.v (.pointer (some ⟨g15, 0, none⟩)))), (3, (.v (.pointer (some ⟨g16, 0, none⟩)))), (2, (.v (.pointer (some ⟨g17, 0, none⟩))))] [Res.cells g15 29 [.ints .u8 y7 32], Res.cells g16 23 [.ints .u64 t1 25], Res.cells g17 29 [.ints .u8 [0, 0, 0, 0, 0, 0, 0, 0, 0, 0, 0, 0, 0, 0, 0, 0, 0, 0, 0, 0, 0, 0, 0, 0, 0, 0, 0, 0, 0, 0, 0, 0] 32]] a w ∧ keccak_Sum.l1 t1 q1 y6 y7 = some r) ?_ ?_ (k := k) ⟨_, 0, g6, g3, g4, [0, 0, 0, 0, 0, 0, 0, 0, 0, 0, 0, 0, 0, 0, 0, 0, 0, 0, 0, 0, 0, 0, 0, 0, 0, 0, 0, 0, 0, 0, 0, 0], (S.sub ⟨rfl, rfl, rfl, rfl, trivial⟩ (.cons .here (.cons (.there .here) (.cons (.there .here) .nil)))), h2⟩
    · rintro a w ⟨m, y6, g15, g16, g17, y7, S, h0⟩
      exact (nomatch (show (none : Option (List Int)) = some r from h0))
    · clear S h2
      rintro q1 a w ⟨m, y6, g15, g16, g17, y7, S, h0⟩
      replace h0 : keccak_Sum.b1 t1 (keccak_Sum.l1 t1 q1) y6 y7 = some r := h0
      delta keccak_Sum.b1 at h0
      refine c_region ?_
      refine s_bin S rfl rfl rfl rfl ?_; clear S a; intro a S
      refine c_end ?_
      refine wp_seq ?_
      rcases ite_of h0 with ⟨c2, h1⟩ | ⟨c2, h1⟩ <;> clear h0
      · refine c_condT S rfl c2 ?_
        refine wp_skip ?_
        refine x_thenN ?_
        refine wp_seq ?_
        refine wp_block ?_
        refine c_region ?_
        refine s_move S rfl rfl ?_; clear S a; intro a S
        refine s_assign S rfl rfl ?_; clear S a; intro a S
        refine c_end ?_
        refine c_region' ?_
        refine s_move S rfl rfl ?_; clear S a; intro a S
        refine s_move S rfl rfl ?_; clear S a; intro a S
        refine s_quo S rfl rfl (by decide) rfl ?_; clear S a; intro a S
        obtain ⟨c3, h2⟩ := chk_of h1; clear h1
        refine s_iaddr S rfl rfl Tryd.underlying23 T22 c3.1 c3.2 (mul1 _ _) rfl ?_; clear S a; intro a S
        refine s_loadi S (i := (wr .i64 (Int.tdiv y6 8))) rfl (.there .here) T22 .here rfl c3.1 c3.2 rfl ?_; clear S a; intro a S
        refine s_move S rfl rfl ?_; clear S a; intro a S
        refine s_rem S rfl rfl (by decide) rfl ?_; clear S a; intro a S
        refine s_bin S rfl rfl rfl rfl ?_; clear S a; intro a S
        obtain ⟨c4, h3⟩ := chk_of h2; clear h2
        refine s_shr S (e := (min (Int.toNat (wr .i64 ((Int.tmod y6 8) * 8))) 64)) rfl rfl c4 rfl rfl ?_; clear S a; intro a S
        refine s_conv S rfl rfl Tryd.underlying5 rfl ?_; clear S a; intro a S
        obtain ⟨c5, h4⟩ := chk_of h3; clear h3
        refine s_iaddr S rfl rfl Tryd.underlying29 T5 c5.1 c5.2 (mul1 _ _) rfl ?_; clear S a; intro a S
        refine s_storei S (i := y6) rfl rfl .here T5 .here rfl c5.1 c5.2 ?_; clear S w; intro w S
        refine c_end' ?_
        refine x_blockN ?_
        refine x_thenN ?_
        refine c_region' ?_
        refine s_bin S rfl rfl rfl rfl ?_; clear S a; intro a S
        refine s_move S rfl rfl ?_; clear S a; intro a S
        refine c_end' ?_
        refine x_thenN ?_
        exact ⟨_, (wr .i64 (y6 + 1)), g15, g16, g17, (y7.set (Int.toNat y6) (wr .u8 (shr (rd t1 (wr .i64 (Int.tdiv y6 8))) (min (Int.toNat (wr .i64 ((Int.tmod y6 8) * 8))) 64)))), (S.sub ⟨rfl, rfl, rfl, rfl, trivial⟩ (.cons .here (.cons .here (.cons .here .nil)))), h4⟩
      · refine c_condF S rfl c2 ?_
        refine wp_exit ?_
        refine x_thenX ?_
        refine x_thenX ?_
        refine x_blockX ?_
        refine x_thenN ?_
        exact j2 _ g15 g17 y7 a w (S.sub ⟨rfl, rfl, trivial⟩ (.cons .here (.cons (.there .here) .nil))) h1
  refine wp_block ?_
  refine c_loop (fun q2 a w => ∃ (m : Mem) (g22 : Nat) (g23 : Nat) (A2 : Option Addr) (cp7 : Nat) (y10 : List Int) (y11 : List Int), St 45 m (B0 mi w0) [(3, (.v (.pointer (some ⟨g22, 0, none⟩)))), (2, (.v (.pointer (some ⟨g23, 0, none⟩)))), (0, (.sl A2 (y10).length cp7 (RdS (Ty.int .u8) A2 y10)))] [Res.cells g22 23 [.ints .u64 y11 25], Res.cells g23 29 [.ints .u8 [0, 0, 0, 0, 0, 0, 0, 0, 0, 0, 0, 0, 0, 0, 0, 0, 0, 0, 0, 0, 0, 0, 0, 0, 0, 0, 0, 0, 0, 0, 0, 0] 32]] a w ∧ keccak_Sum.l2 k q2 y10 y11 = some r) ?_ ?_ (k := k) ⟨_, g2, g1, ch_x1.1, ch_x1.2, x1, [0, 0, 0, 0, 0, 0, 0, 0, 0, 0, 0, 0, 0, 0, 0, 0, 0, 0, 0, 0, 0, 0, 0, 0, 0], (S.sub ⟨rfl, rfl, rfl, trivial⟩ (.cons .here (.cons .here .nil))), h0⟩
  · rintro a w ⟨m, g22, g23, A2, cp7, y10, y11, S, h0⟩
    exact (nomatch (show (none : Option (List Int)) = some r from h0))
  · clear S h0
    rintro q2 a w ⟨m, g22, g23, A2, cp7, y10, y11, S, h0⟩
    replace h0 : keccak_Sum.b2 k (keccak_Sum.l2 k q2) y10 y11 = some r := h0
    delta keccak_Sum.b2 at h0
    refine wp_seq ?_
    refine c_region ?_
    refine s_move S rfl rfl ?_; clear S a; intro a S
    refine s_lenS S rfl Tryd.underlying27 rfl ?_; clear S a; intro a S
    refine s_bin S rfl rfl rfl rfl ?_; clear S a; intro a S
    refine c_end ?_
    rcases ite_of h0 with ⟨c6, h1⟩ | ⟨c6, h1⟩ <;> clear h0
    · refine c_condT S rfl c6 ?_
      refine wp_skip ?_
      refine x_thenN ?_
      refine wp_block ?_
      refine wp_seq (c_heldS S (.take 0 (.take 1 (.take 2 (.alts (.run 3 true (.alts (.run 4 false .done .nil)) .nil))))) 4 [Res.cells g22 23 [.ints .u64 y11 25], Res.cells g23 29 [.ints .u8 [0, 0, 0, 0, 0, 0, 0, 0, 0, 0, 0, 0, 0, 0, 0, 0, 0, 0, 0, 0, 0, 0, 0, 0, 0, 0, 0, 0, 0, 0, 0, 0] 32]] (.cons .here (.cons .here .nil)) ⟨Res.stay_cells, Res.stay_cells, trivial⟩ [(3, (.v (.pointer (some ⟨g22, 0, none⟩)))), (0, (.sl A2 (y10).length cp7 (RdS (Ty.int .u8) A2 y10)))] ⟨rfl, rfl, trivial⟩ (by kernel_rfl) (by kernel_rfl) ?_); clear S; intro w S CL hw le
      refine h_loada S CL hw le ⟨rfl, rfl, trivial⟩ rfl .here T23 (s' := [.ints .u64 y11 25]) rfl rfl rfl trivial ?_; clear S CL a; intro a S CL
      refine h_move S CL hw le ⟨rfl, rfl, rfl, trivial⟩ rfl rfl rfl trivial ?_; clear S CL a; intro a S CL
      obtain ⟨c7, h2⟩ := chk_of h1; clear h1
      refine h_cutS S CL hw le ⟨rfl, rfl, rfl, rfl, trivial⟩ (i := 0) (j := 136) (ys := y10.take (Int.toNat 136)) rfl rfl Tryd.underlying27 T5 (.inl ⟨rfl, rfl⟩) (.inr ⟨_, _, rfl, rfl⟩) c7 rfl (by simp) rfl trivial ?_; clear S CL a; intro A3 cp8 a S CL
      refine h_run' S rfl trivial ?_
      obtain ⟨t4, et4, h3⟩ := bind_of h2; clear h2
      refine s_call S (ds := [(.agg [.ints .u64 y11 25]), (.sl A3 (y10.take (Int.toNat 136)).length cp8 (RdS (Ty.int .u8) A3 (y10.take (Int.toNat 136))))]) (d := (.agg [.ints .u64 t4 25])) N16 rfl rfl (keccak_absorb.ok k y11 (y10.take (Int.toNat 136)) (A3, cp8) t4 et4 _ _ (G.mono S.le)) ?_; clear S a; intro a w S
      replace hw := CL.again hw S (.cons .here (.cons .here .nil)) le
      refine h_back ⟨fun _ => hw, ?_⟩
      refine h_run' S rfl trivial ?_
      refine s_store S rfl rfl rfl (s' := [.ints .u64 t4 25]) .here T23 rfl rfl ?_; clear S; intro w S
      refine h_back ⟨fun h => (nomatch h), ?_⟩
      refine h_done ?_; clear CL hw le
      refine x_thenN ?_
      refine c_region' ?_
      refine s_move S rfl rfl ?_; clear S a; intro a S
      obtain ⟨c8, h4⟩ := chk_of h3; clear h3
      refine s_cutS S (i := 136) (j := ((y10).length : Int)) (ys := y10.drop (Int.toNat 136)) rfl rfl Tryd.underlying27 T5 (.inr ⟨_, _, rfl, rfl⟩) (.inl ⟨rfl, rfl⟩) c8 rfl (by simp) ?_; clear S a; intro A4 cp9 a S
      refine s_assign S rfl rfl ?_; clear S a; intro a S
      refine c_end' ?_
      refine x_blockN ?_
      refine x_thenN ?_
      exact ⟨_, g22, g23, A4, cp9, (y10.drop (Int.toNat 136)), t4, (S.sub ⟨rfl, rfl, rfl, trivial⟩ (.cons .here (.cons .here .nil))), h4⟩
    · refine c_condF S rfl c6 ?_
      refine wp_exit ?_
      refine x_thenX ?_
      refine x_thenX ?_
      refine x_blockX ?_
      refine x_thenN ?_
      exact j1 _ g22 g23 A2 cp7 y10 y11 a w (S.sub ⟨rfl, rfl, rfl, trivial⟩ (.cons .here (.cons .here .nil))) h1
/-! smithy/smithylaw05.fixed -/
def smithylaw05_fixed.f (k : Nat) : Option Bool := (keccak_Sum.f k ([] : List Int)).bind fun t1 => (if ((rd t1 0) == 197) = true then (if ((rd t1 1) == 210) = true then (if ((rd t1 2) == 70) = true then (if ((rd t1 30) == 164) = true then (some ((rd t1 31) == 112)) else (some false)) else (some false)) else (some false)) else (some false))
theorem smithylaw05_fixed.ok (k : Nat) (r : Bool) (h0 : smithylaw05_fixed.f k = some r) (mi : Mem) (w0 : World) (G : Glob mi) : okL mi [] → Frz mi w0 → Calls Tryd.prog 6 (([] : List D).map D.val).toArray w0 (Ret mi (.v (.bool r)) w0) := by
  intro ok hm
  delta smithylaw05_fixed.f at h0
  refine c_enter (n := 26) [] (l := []) Tryd.func6 rfl rfl rfl rfl ok hm ?_
  clear ok hm
  intro a S
  refine c_region ?_
  refine s_assign S rfl rfl ?_; clear S a; intro a S
  refine c_end ?_
  refine c_region ?_
  obtain ⟨t1, et1, h1⟩ := bind_of h0; clear h0
  refine s_call' S (ds' := [(.v (.slice none 0 0))]) (ds := [(.sl none (([] : List Int)).length 0 (RdS (Ty.int .u8) none ([] : List Int)))]) (d := (.agg [.ints .u8 t1 32])) N9 rfl rfl (fun ok => ⟨ok_nil, trivial⟩) rfl (keccak_Sum.ok k ([] : List Int) (none, 0) t1 et1 _ _ (G.mono S.le)) ?_; clear S a; intro a w S
  refine s_alloc S Z29 rfl ⟨rfl, trivial⟩ rfl ?_; clear S a w; intro g1 a w S
  refine s_store S rfl rfl rfl (s' := [.ints .u8 t1 32]) .here T29 rfl rfl ?_; clear S w; intro w S
  refine c_end ?_
  refine c_region ?_
  refine s_iaddr S (o' := 0) rfl rfl Tryd.underlying29 T5 (by decide) (by decide) rfl rfl ?_; clear S a; intro a S
  refine s_loadi S (i := 0) rfl .here T5 .here rfl (by decide) (by decide) rfl ?_; clear S a; intro a S
  refine s_bin S rfl rfl rfl rfl ?_; clear S a; intro a S
  refine s_move S rfl rfl ?_; clear S a; intro a S
  rcases ite_of h1 with ⟨c1, h2⟩ | ⟨c1, h2⟩ <;> clear h1
  · refine s_gT S (b := ((rd t1 0) == 197)) rfl rfl c1 ?_
    refine s_iaddr S (o' := 1) rfl rfl Tryd.underlying29 T5 (by decide) (by decide) rfl rfl ?_; clear S a; intro a S
    refine s_gT S (b := ((rd t1 0) == 197)) rfl rfl c1 ?_
    refine s_loadi S (i := 1) rfl .here T5 .here rfl (by decide) (by decide) rfl ?_; clear S a; intro a S
    refine s_gT S (b := ((rd t1 0) == 197)) rfl rfl c1 ?_
    refine s_bin S rfl rfl rfl rfl ?_; clear S a; intro a S
    refine s_pick S (b := true) (hc_of rfl c1) rfl rfl ?_; clear S a; intro a S
    refine s_move S rfl rfl ?_; clear S a; intro a S
    rcases ite_of h2 with ⟨c2, h3⟩ | ⟨c2, h3⟩ <;> clear h2
    · refine s_gT S (b := ((rd t1 1) == 210)) rfl rfl c2 ?_
      refine s_iaddr S (o' := 2) rfl rfl Tryd.underlying29 T5 (by decide) (by decide) rfl rfl ?_; clear S a; intro a S
      refine s_gT S (b := ((rd t1 1) == 210)) rfl rfl c2 ?_
      refine s_loadi S (i := 2) rfl .here T5 .here rfl (by decide) (by decide) rfl ?_; clear S a; intro a S
      refine s_gT S (b := ((rd t1 1) == 210)) rfl rfl c2 ?_
      refine s_bin S rfl rfl rfl rfl ?_; clear S a; intro a S
      refine s_pick S (b := true) (hc_of rfl c2) rfl rfl ?_; clear S a; intro a S
      refine s_move S rfl rfl ?_; clear S a; intro a S
      rcases ite_of h3 with ⟨c3, h4⟩ | ⟨c3, h4⟩ <;> clear h3
      · refine s_gT S (b := ((rd t1 2) == 70)) rfl rfl c3 ?_
        refine s_iaddr S (o' := 30) rfl rfl Tryd.underlying29 T5 (by decide) (by decide) rfl rfl ?_; clear S a; intro a S
        refine s_gT S (b := ((rd t1 2) == 70)) rfl rfl c3 ?_
        refine s_loadi S (i := 30) rfl .here T5 .here rfl (by decide) (by decide) rfl ?_; clear S a; intro a S
        refine s_gT S (b := ((rd t1 2) == 70)) rfl rfl c3 ?_
        refine s_bin S rfl rfl rfl rfl ?_; clear S a; intro a S
        refine s_pick S (b := true) (hc_of rfl c3) rfl rfl ?_; clear S a; intro a S
        refine s_move S rfl rfl ?_; clear S a; intro a S
        rcases ite_of h4 with ⟨c4, h5⟩ | ⟨c4, h5⟩ <;> clear h4
        · refine s_gT S (b := ((rd t1 30) == 164)) rfl rfl c4 ?_
          refine s_iaddr S (o' := 31) rfl rfl Tryd.underlying29 T5 (by decide) (by decide) rfl rfl ?_; clear S a; intro a S
          refine s_gT S (b := ((rd t1 30) == 164)) rfl rfl c4 ?_
          refine s_loadi S (i := 31) rfl .here T5 .here rfl (by decide) (by decide) rfl ?_; clear S a; intro a S
          refine s_gT S (b := ((rd t1 30) == 164)) rfl rfl c4 ?_
          refine s_bin S rfl rfl rfl rfl ?_; clear S a; intro a S
          refine s_pick S (b := true) (hc_of rfl c4) rfl rfl ?_; clear S a; intro a S
          refine s_assign S rfl rfl ?_; clear S a; intro a S
          refine c_end ?_
          refine wp_ret ?_
          obtain rfl := Option.some.inj h5
          exact b_ret1 (d := (.v (.bool ((rd t1 31) == 112)))) S rfl rfl fun ok => ⟨rfl, ok, S.below0⟩
        · refine s_gF S (b := ((rd t1 30) == 164)) rfl rfl c4 rfl ?_; clear S a; intro a S
          refine s_gF S (b := ((rd t1 30) == 164)) rfl rfl c4 rfl ?_; clear S a; intro a S
          refine s_gF S (b := ((rd t1 30) == 164)) rfl rfl c4 rfl ?_; clear S a; intro a S
          refine s_pick S (b := false) (hc_of rfl c4) rfl rfl ?_; clear S a; intro a S
          refine s_assign S rfl rfl ?_; clear S a; intro a S
          refine c_end ?_
          refine wp_ret ?_
          obtain rfl := Option.some.inj h5
          exact b_ret1 (d := (.v (.bool false))) S rfl rfl fun ok => ⟨rfl, ok, S.below0⟩
      · refine s_gF S (b := ((rd t1 2) == 70)) rfl rfl c3 rfl ?_; clear S a; intro a S
        refine s_gF S (b := ((rd t1 2) == 70)) rfl rfl c3 rfl ?_; clear S a; intro a S
        refine s_gF S (b := ((rd t1 2) == 70)) rfl rfl c3 rfl ?_; clear S a; intro a S
        refine s_pick S (b := false) (hc_of rfl c3) rfl rfl ?_; clear S a; intro a S
        refine s_move S rfl rfl ?_; clear S a; intro a S
        refine s_gF S (b := false) rfl rfl rfl rfl ?_; clear S a; intro a S
        refine s_gF S (b := false) rfl rfl rfl rfl ?_; clear S a; intro a S
        refine s_gF S (b := false) rfl rfl rfl rfl ?_; clear S a; intro a S
        refine s_pick S (b := false) (hc_of rfl rfl) rfl rfl ?_; clear S a; intro a S
        refine s_assign S rfl rfl ?_; clear S a; intro a S
        refine c_end ?_
        refine wp_ret ?_
        obtain rfl := Option.some.inj h4
        exact b_ret1 (d := (.v (.bool false))) S rfl rfl fun ok => ⟨rfl, ok, S.below0⟩
    · refine s_gF S (b := ((rd t1 1) == 210)) rfl rfl c2 rfl ?_; clear S a; intro a S
      refine s_gF S (b := ((rd t1 1) == 210)) rfl rfl c2 rfl ?_; clear S a; intro a S
      refine s_gF S (b := ((rd t1 1) == 210)) rfl rfl c2 rfl ?_; clear S a; intro a S
      refine s_pick S (b := false) (hc_of rfl c2) rfl rfl ?_; clear S a; intro a S
      refine s_move S rfl rfl ?_; clear S a; intro a S
      refine s_gF S (b := false) rfl rfl rfl rfl ?_; clear S a; intro a S
      refine s_gF S (b := false) rfl rfl rfl rfl ?_; clear S a; intro a S
      refine s_gF S (b := false) rfl rfl rfl rfl ?_; clear S a; intro a S
      refine s_pick S (b := false) (hc_of rfl rfl) rfl rfl ?_; clear S a; intro a S
      refine s_move S rfl rfl ?_; clear S a; intro a S
      refine s_gF S (b := false) rfl rfl rfl rfl ?_; clear S a; intro a S
      refine s_gF S (b := false) rfl rfl rfl rfl ?_; clear S a; intro a S
      refine s_gF S (b := false) rfl rfl rfl rfl ?_; clear S a; intro a S
      refine s_pick S (b := false) (hc_of rfl rfl) rfl rfl ?_; clear S a; intro a S
      refine s_assign S rfl rfl ?_; clear S a; intro a S
      refine c_end ?_
      refine wp_ret ?_
      obtain rfl := Option.some.inj h3
      exact b_ret1 (d := (.v (.bool false))) S rfl rfl fun ok => ⟨rfl, ok, S.below0⟩
  · refine s_gF S (b := ((rd t1 0) == 197)) rfl rfl c1 rfl ?_; clear S a; intro a S
    refine s_gF S (b := ((rd t1 0) == 197)) rfl rfl c1 rfl ?_; clear S a; intro a S
    refine s_gF S (b := ((rd t1 0) == 197)) rfl rfl c1 rfl ?_; clear S a; intro a S
    refine s_pick S (b := false) (hc_of rfl c1) rfl rfl ?_; clear S a; intro a S
    refine s_move S rfl rfl ?_; clear S a; intro a S
    refine s_gF S (b := false) rfl rfl rfl rfl ?_; clear S a; intro a S
    refine s_gF S (b := false) rfl rfl rfl rfl ?_; clear S a; intro a S
    refine s_gF S (b := false) rfl rfl rfl rfl ?_; clear S a; intro a S
    refine s_pick S (b := false) (hc_of rfl rfl) rfl rfl ?_; clear S a; intro a S
    refine s_move S rfl rfl ?_; clear S a; intro a S
    refine s_gF S (b := false) rfl rfl rfl rfl ?_; clear S a; intro a S
    refine s_gF S (b := false) rfl rfl rfl rfl ?_; clear S a; intro a S
    refine s_gF S (b := false) rfl rfl rfl rfl ?_; clear S a; intro a S
    refine s_pick S (b := false) (hc_of rfl rfl) rfl rfl ?_; clear S a; intro a S
    refine s_move S rfl rfl ?_; clear S a; intro a S
    refine s_gF S (b := false) rfl rfl rfl rfl ?_; clear S a; intro a S
    refine s_gF S (b := false) rfl rfl rfl rfl ?_; clear S a; intro a S
    refine s_gF S (b := false) rfl rfl rfl rfl ?_; clear S a; intro a S
    refine s_pick S (b := false) (hc_of rfl rfl) rfl rfl ?_; clear S a; intro a S
    refine s_assign S rfl rfl ?_; clear S a; intro a S
    refine c_end ?_
    refine wp_ret ?_
    obtain rfl := Option.some.inj h2
    exact b_ret1 (d := (.v (.bool false))) S rfl rfl fun ok => ⟨rfl, ok, S.below0⟩
/-! smithy/smithyref05.Constants -/
def smithyref05_Constants.j1 (y1 : List Int) : Option (List Int) := some y1
def smithyref05_Constants.j2 (y9 : Int) (rec1 : Int → Int → (List Int) → Option (List Int)) (y12 : Int) (y13 : List Int) : Option (List Int) := rec1 (wr .i64 (y9 + 1)) y12 y13
def smithyref05_Constants.j3 (y21 : Int) (rec2 : Int → Int → (List Int) → Option (List Int)) (y24 : Int) (y25 : List Int) : Option (List Int) := rec2 (wr .i64 (y21 + 1)) y24 y25
def smithyref05_Constants.j4 (y21 : Int) (y22 : Int) (rec2 : Int → Int → (List Int) → Option (List Int)) (y26 : List Int) : Option (List Int) := if (decide (256 ≤ (wr .i64 (y22 * 2)))) = true then (smithyref05_Constants.j3 y21 rec2 (bits .xor .i64 (wr .i64 (y22 * 2)) 369) y26) else (smithyref05_Constants.j3 y21 rec2 (wr .i64 (y22 * 2)) y26)
def smithyref05_Constants.b2 (y9 : Int) (rec1 : Int → Int → (List Int) → Option (List Int)) (rec2 : Int → Int → (List Int) → Option (List Int)) (y21 : Int) (y22 : Int) (y23 : List Int) : Option (List Int) := if (decide (y21 < 7)) = true then (if ((Int.tmod y22 2) == 1) = true then (if 0 ≤ y9 ∧ y9 < 24 then (if 0 ≤ y21 then (if 0 ≤ (wr .u64 ((shl .u64 1 (min (Int.toNat y21) 64)) - 1)) then (smithyref05_Constants.j4 y21 y22 rec2 (y23.set (Int.toNat y9) (bits .or .u64 (rd y23 y9) (shl .u64 1 (min (Int.toNat (wr .u64 ((shl .u64 1 (min (Int.toNat y21) 64)) - 1))) 64))))) else none) else none) else none) else (smithyref05_Constants.j4 y21 y22 rec2 y23)) else (smithyref05_Constants.j2 y9 rec1 y22 y23)
def smithyref05_Constants.l2 (y9 : Int) (rec1 : Int → Int → (List Int) → Option (List Int)) : Nat → Int → Int → (List Int) → Option (List Int)
  | 0, _, _, _ => none
  | q + 1, y21, y22, y23 => smithyref05_Constants.b2 y9 rec1 (smithyref05_Constants.l2 y9 rec1 q) y21 y22 y23
def smithyref05_Constants.b1 (k : Nat) (rec1 : Int → Int → (List Int) → Option (List Int)) (y9 : Int) (y10 : Int) (y11 : List Int) : Option (List Int) := if (decide (y9 < 24)) = true then (smithyref05_Constants.l2 y9 rec1 k 0 y10 y11) else (smithyref05_Constants.j1 y11)
def smithyref05_Constants.l1 (k : Nat) : Nat → Int → Int → (List Int) → Option (List Int)
  | 0, _, _, _ => none
  | q + 1, y9, y10, y11 => smithyref05_Constants.b1 k (smithyref05_Constants.l1 k q) y9 y10 y11
def smithyref05_Constants.f (k : Nat) : Option (List Int) := smithyref05_Constants.l1 k k 0 1 [0, 0, 0, 0, 0, 0, 0, 0, 0, 0, 0, 0, 0, 0, 0, 0, 0, 0, 0, 0, 0, 0, 0, 0]
theorem smithyref05_Constants.ok (k : Nat) (r : List Int) (h0 : smithyref05_Constants.f k = some r) (mi : Mem) (w0 : World) : okL mi [] → Frz mi w0 → Calls Tryd.prog 14 (([] : List D).map D.val).toArray w0 (Ret mi (.agg [.ints .u64 r 24]) w0) := by
  intro ok hm
  delta smithyref05_Constants.f at h0
  refine c_enter (n := 34) [] (l := []) Tryd.func14 rfl rfl rfl rfl ok hm ?_
  clear ok hm
  intro a S
  refine c_region ?_
  refine s_alloc S Z36 rfl ⟨rfl, trivial⟩ rfl ?_; clear S a; intro g1 a w S
  refine c_end ?_
  refine c_region ?_
  refine s_build S (ds := []) (dv := (.agg [.ints .u64 [0, 0, 0, 0, 0, 0, 0, 0, 0, 0, 0, 0, 0, 0, 0, 0, 0, 0, 0, 0, 0, 0, 0, 0] 24])) rfl (fun _ => by kernel_rfl) ⟨rfl, trivial⟩ rfl ?_; clear S a; intro a S
  refine s_alloc S Z36 rfl ⟨rfl, trivial⟩ rfl ?_; clear S a w; intro g2 a w S
  refine s_store S rfl rfl rfl (s' := [.ints .u64 [0, 0, 0, 0, 0, 0, 0, 0, 0, 0, 0, 0, 0, 0, 0, 0, 0, 0, 0, 0, 0, 0, 0, 0] 24]) .here T36 rfl rfl ?_; clear S w; intro w S
  refine c_end ?_
  refine c_region ?_
  refine s_assign S rfl rfl ?_; clear S a; intro a S
  refine c_end ?_
  refine wp_seq_k ?_
  intro K1 hK1
  have j1 : ∀ (m : Mem) (g3 : Nat) (g4 : Nat) (y1 : List Int) (a : Act) (w : World), St 34 m (B0 mi w0) [(1, (.v (.pointer (some ⟨g3, 0, none⟩)))), (0, (.v (.pointer (some ⟨g4, 0, none⟩))))] [Res.cells g3 36 [.ints .u64 y1 24], Res.cells g4 36 [.ints .u64 [0, 0, 0, 0, 0, 0, 0, 0, 0, 0, 0, 0, 0, 0, 0, 0, 0, 0, 0, 0, 0, 0, 0, 0] 24]] a w → smithyref05_Constants.j1 y1 = some r → K1 a w := by
    intro m g3 g4 y1 a w S h0
    delta smithyref05_Constants.j1 at h0
    refine hK1 a w ?_
    refine c_region ?_
    refine s_loada S rfl .here T36 (s' := [.ints .u64 y1 24]) rfl rfl ?_; clear S a; intro a S
    refine s_store S rfl rfl rfl (s' := [.ints .u64 y1 24]) (.there .here) T36 rfl rfl ?_; clear S w; intro w S
    refine c_end ?_
    refine wp_ret ?_
    obtain rfl := Option.some.inj h0
    exact b_ret1 (d := (.agg [.ints .u64 y1 24])) S rfl (resD_cell rfl (.there .here) T36 rfl rfl) fun ok => ⟨rfl, ok, S.below0⟩
  refine c_region ?_
  refine s_assign S rfl rfl ?_; clear S a; intro a S
  refine c_end ?_
  refine wp_block ?_
  refine c_loop (fun q1 a w => ∃ (m : Mem) (y9 : Int) (y10 : Int) (g13 : Nat) (g14 : Nat) (y11 : List Int), St 34 m (B0 mi w0) [(3, (.v (.int .i64 y9))), (2, (.v (.int .i64 y10))), (1, (.v (.pointer (some ⟨g13, 0, none⟩)))), (0, (.v (.pointer (some ⟨g14, 0, none⟩))))] [Res.cells g13 36 [.ints .u64 y11 24], Res.cells g14 36 [.ints .u64 [0, 0, 0, 0, 0, 0, 0, 0, 0, 0, 0, 0, 0, 0, 0, 0, 0, 0, 0, 0, 0, 0, 0, 0] 24]] a w ∧ smithyref05_Constants.l1 k q1 y9 y10 y11 = some r) ?_ ?_ (k := k) ⟨_, 0, 1, g2, g1, [0, 0, 0, 0, 0, 0, 0, 0, 0, 0, 0, 0, 0, 0, 0, 0, 0, 0, 0, 0, 0, 0, 0, 0], (S.sub ⟨rfl, rfl, rfl, rfl, trivial⟩ (.cons .here (.cons .here .nil))), h0⟩
  · rintro a w ⟨m, y9, y10, g13, g14, y11, S, h0⟩
    exact (nomatch (show (none : Option (List Int)) = some r from h0))
  · clear S h0
    rintro q1 a w ⟨m, y9, y10, g13, g14, y11, S, h0⟩
    replace h0 : smithyref05_Constants.b1 k (smithyref05_Constants.l1 k q1) y9 y10 y11 = some r := h0
    delta smithyref05_Constants.b1 at h0
    refine wp_seq ?_
    refine c_region ?_
    refine s_move S rfl rfl ?_; clear S a; intro a S
    refine s_bin S rfl rfl rfl rfl ?_; clear S a; intro a S
    refine c_end ?_
    rcases ite_of h0 with ⟨c1, h1⟩ | ⟨c1, h1⟩ <;> clear h0
    · refine c_condT S rfl c1 ?_
      refine wp_skip ?_
      refine x_thenN ?_
      refine wp_seq_k ?_
      intro K2 hK2
      have j2 : ∀ (m : Mem) (y12 : Int) (g15 : Nat) (g16 : Nat) (y13 : List Int) (a : Act) (w : World), St 34 m (B0 mi w0) [(3, (.v (.int .i64 y9))), (2, (.v (.int .i64 y12))), (1, (.v (.pointer (some ⟨g15, 0, none⟩)))), (0, (.v (.pointer (some ⟨g16, 0, none⟩))))] [Res.cells g15 36 [.ints .u64 y13 24], Res.cells g16 36 [.ints .u64 [0, 0, 0, 0, 0, 0, 0, 0, 0, 0, 0, 0, 0, 0, 0, 0, 0, 0, 0, 0, 0, 0, 0, 0] 24]] a w → smithyref05_Constants.j2 y9 (smithyref05_Constants.l1 k q1) y12 y13 = some r → K2 a w := by
        intro m y12 g15 g16 y13 a w S h0
        delta smithyref05_Constants.j2 at h0
        refine hK2 a w ?_
        refine c_region' ?_
        refine s_move S rfl rfl ?_; clear S a; intro a S
        refine s_bin S rfl rfl rfl rfl ?_; clear S a; intro a S
        refine s_assign S rfl rfl ?_; clear S a; intro a S
        refine c_end' ?_
        refine x_thenN ?_
        exact ⟨_, (wr .i64 (y9 + 1)), y12, g15, g16, y13, (S.sub ⟨rfl, rfl, rfl, rfl, trivial⟩ (.cons .here (.cons .here .nil))), h0⟩
      refine wp_block ?_
      refine c_region ?_
      refine s_assign S rfl rfl ?_; clear S a; intro a S
      refine c_end ?_
      refine wp_block ?_
      refine c_loop (fun q2 a w => ∃ (m : Mem) (y21 : Int) (y22 : Int) (g25 : Nat) (g26 : Nat) (y23 : List Int), St 34 m (B0 mi w0) [(4, (.v (.int .i64 y21))), (3, (.v (.int .i64 y9))), (2, (.v (.int .i64 y22))), (1, (.v (.pointer (some ⟨g25, 0, none⟩)))), (0, (.v (.pointer (some ⟨g26, 0, none⟩))))] [Res.cells g25 36 [.ints .u64 y23 24], Res.cells g26 36 [.ints .u64 [0, 0, 0, 0, 0, 0, 0, 0, 0, 0, 0, 0, 0, 0, 0, 0, 0, 0, 0, 0, 0, 0, 0, 0] 24]] a w ∧ smithyref05_Constants.l2 y9 (smithyref05_Constants.l1 k q1) q2 y21 y22 y23 = some r) ?_ ?_ (k := k) ⟨_, 0, y10, g13, g14, y11, (S.sub ⟨rfl, rfl, rfl, rfl, rfl, trivial⟩ (.cons .here (.cons .here .nil))), h1⟩
      · rintro a w ⟨m, y21, y22, g25, g26, y23, S, h0⟩
        exact (nomatch (show (none : Option (List Int)) = some r from h0))
      · clear S h1
        rintro q2 a w ⟨m, y21, y22, g25, g26, y23, S, h0⟩
        replace h0 : smithyref05_Constants.b2 y9 (smithyref05_Constants.l1 k q1) (smithyref05_Constants.l2 y9 (smithyref05_Constants.l1 k q1) q2) y21 y22 y23 = some r := h0
        delta smithyref05_Constants.b2 at h0
        refine wp_seq ?_
        refine c_region ?_
        refine s_move S rfl rfl ?_; clear S a; intro a S
        refine s_bin S rfl rfl rfl rfl ?_; clear S a; intro a S
        refine c_end ?_
        rcases ite_of h0 with ⟨c2, h1⟩ | ⟨c2, h1⟩ <;> clear h0
        · refine c_condT S rfl c2 ?_
          refine wp_skip ?_
          refine x_thenN ?_
          refine wp_seq_k ?_
          intro K3 hK3
          have j3 : ∀ (m : Mem) (y24 : Int) (g27 : Nat) (g28 : Nat) (y25 : List Int) (a : Act) (w : World), St 34 m (B0 mi w0) [(2, (.v (.int .i64 y24))), (4, (.v (.int .i64 y21))), (3, (.v (.int .i64 y9))), (1, (.v (.pointer (some ⟨g27, 0, none⟩)))), (0, (.v (.pointer (some ⟨g28, 0, none⟩))))] [Res.cells g27 36 [.ints .u64 y25 24], Res.cells g28 36 [.ints .u64 [0, 0, 0, 0, 0, 0, 0, 0, 0, 0, 0, 0, 0, 0, 0, 0, 0, 0, 0, 0, 0, 0, 0, 0] 24]] a w → smithyref05_Constants.j3 y21 (smithyref05_Constants.l2 y9 (smithyref05_Constants.l1 k q1) q2) y24 y25 = some r → K3 a w := by
            intro m y24 g27 g28 y25 a w S h0
            delta smithyref05_Constants.j3 at h0
            refine hK3 a w ?_
            refine c_region' ?_
            refine s_move S rfl rfl ?_; clear S a; intro a S
            refine s_bin S rfl rfl rfl rfl ?_; clear S a; intro a S
            refine s_assign S rfl rfl ?_; clear S a; intro a S
            refine c_end' ?_
            refine x_thenN ?_
            exact ⟨_, (wr .i64 (y21 + 1)), y24, g27, g28, y25, (S.sub ⟨rfl, rfl, rfl, rfl, rfl, trivial⟩ (.cons .here (.cons .here .nil))), h0⟩
          refine wp_block ?_
          refine wp_seq_k ?_
          intro K4 hK4
          have j4 : ∀ (m : Mem) (g29 : Nat) (g30 : Nat) (y26 : List Int) (a : Act) (w : World), St 34 m (B0 mi w0) [(4, (.v (.int .i64 y21))), (3, (.v (.int .i64 y9))), (2, (.v (.int .i64 y22))), (1, (.v (.pointer (some ⟨g29, 0, none⟩)))), (0, (.v (.pointer (some ⟨g30, 0, none⟩))))] [Res.cells g29 36 [.ints .u64 y26 24], Res.cells g30 36 [.ints .u64 [0, 0, 0, 0, 0, 0, 0, 0, 0, 0, 0, 0, 0, 0, 0, 0, 0, 0, 0, 0, 0, 0, 0, 0] 24]] a w → smithyref05_Constants.j4 y21 y22 (smithyref05_Constants.l2 y9 (smithyref05_Constants.l1 k q1) q2) y26 = some r → K4 a w := by
            intro m g29 g30 y26 a w S h0
            delta smithyref05_Constants.j4 at h0
            refine hK4 a w ?_
            refine c_region ?_
            refine s_move S rfl rfl ?_; clear S a; intro a S
            refine s_bin S rfl rfl rfl rfl ?_; clear S a; intro a S
            refine s_assign S rfl rfl ?_; clear S a; intro a S
            refine c_end ?_
            refine c_region ?_
            refine s_move S rfl rfl ?_; clear S a; intro a S
            refine s_bin S rfl rfl rfl rfl ?_; clear S a; intro a S
            refine c_end ?_
            rcases ite_of h0 with ⟨c3, h1⟩ | ⟨c3, h1⟩ <;> clear h0
            · refine c_condT S rfl c3 ?_
              refine c_region' ?_
              refine s_move S rfl rfl ?_; clear S a; intro a S
              refine s_bin S rfl rfl rfl rfl ?_; clear S a; intro a S
              refine s_assign S rfl rfl ?_; clear S a; intro a S
              refine c_end' ?_
              refine x_blockN ?_
              refine x_thenN ?_
              exact j3 _ (bits .xor .i64 (wr .i64 (y22 * 2)) 369) g29 g30 y26 a w (S.sub ⟨rfl, rfl, rfl, rfl, rfl, trivial⟩ (.cons .here (.cons .here .nil))) h1
            · refine c_condF S rfl c3 ?_
              refine wp_skip ?_
              refine x_blockN ?_
              refine x_thenN ?_
              exact j3 _ (wr .i64 (y22 * 2)) g29 g30 y26 a w (S.sub ⟨rfl, rfl, rfl, rfl, rfl, trivial⟩ (.cons .here (.cons .here .nil))) h1
          refine c_region ?_
          refine s_move S rfl rfl ?_; clear S a; intro a S
          refine s_rem S rfl rfl (by decide) rfl ?_; clear S a; intro a S
          refine s_bin S rfl rfl rfl rfl ?_; clear S a; intro a S
          refine c_end ?_
          rcases ite_of h1 with ⟨c4, h2⟩ | ⟨c4, h2⟩ <;> clear h1
          · refine c_condT S rfl c4 ?_
            refine c_heldS S (.take 0 (.take 1 (.take 2 (.take 3 (.take 4 (.take 5 (.take 6 (.take 7 (.take 8 (.take 9 (.alts (.run 10 false .done .nil)))))))))))) 10 [Res.cells g25 36 [.ints .u64 y23 24], Res.cells g26 36 [.ints .u64 [0, 0, 0, 0, 0, 0, 0, 0, 0, 0, 0, 0, 0, 0, 0, 0, 0, 0, 0, 0, 0, 0, 0, 0] 24]] (.cons .here (.cons .here .nil)) ⟨Res.stay_cells, Res.stay_cells, trivial⟩ [(4, (.v (.int .i64 y21))), (3, (.v (.int .i64 y9))), (1, (.v (.pointer (some ⟨g25, 0, none⟩))))] ⟨rfl, rfl, rfl, trivial⟩ (by kernel_rfl) (by kernel_rfl) ?_; clear S; intro w S CL hw le
            refine h_move S CL hw le ⟨rfl, rfl, rfl, trivial⟩ rfl rfl rfl trivial ?_; clear S CL a; intro a S CL
            refine h_move S CL hw le ⟨rfl, rfl, rfl, rfl, trivial⟩ rfl rfl rfl trivial ?_; clear S CL a; intro a S CL
            obtain ⟨c5, h3⟩ := chk_of h2; clear h2
            refine h_iaddr S CL hw le ⟨rfl, rfl, rfl, rfl, rfl, trivial⟩ rfl rfl Tryd.underlying36 T22 c5.1 c5.2 (mul1 _ _) rfl rfl trivial ?_; clear S CL a; intro a S CL
            refine h_loadi S CL hw le ⟨rfl, rfl, rfl, rfl, rfl, rfl, trivial⟩ (i := y9) rfl .here T22 .here rfl c5.1 c5.2 rfl rfl trivial ?_; clear S CL a; intro a S CL
            refine h_move S CL hw le ⟨rfl, rfl, rfl, rfl, rfl, rfl, rfl, trivial⟩ rfl rfl rfl trivial ?_; clear S CL a; intro a S CL
            obtain ⟨c6, h4⟩ := chk_of h3; clear h3
            refine h_shl S CL hw le ⟨rfl, rfl, rfl, rfl, rfl, rfl, rfl, rfl, trivial⟩ (e := (min (Int.toNat y21) 64)) rfl rfl c6 rfl rfl rfl trivial ?_; clear S CL a; intro a S CL
            refine h_bin S CL hw le ⟨rfl, rfl, rfl, rfl, rfl, rfl, rfl, rfl, rfl, trivial⟩ rfl rfl rfl rfl rfl trivial ?_; clear S CL a; intro a S CL
            obtain ⟨c7, h5⟩ := chk_of h4; clear h4
            refine h_shl S CL hw le ⟨rfl, rfl, rfl, rfl, rfl, rfl, rfl, rfl, rfl, rfl, trivial⟩ (e := (min (Int.toNat (wr .u64 ((shl .u64 1 (min (Int.toNat y21) 64)) - 1))) 64)) rfl rfl c7 rfl rfl rfl trivial ?_; clear S CL a; intro a S CL
            refine h_bin S CL hw le ⟨rfl, rfl, rfl, rfl, rfl, rfl, rfl, rfl, rfl, rfl, rfl, trivial⟩ rfl rfl rfl rfl rfl trivial ?_; clear S CL a; intro a S CL
            refine h_iaddr S CL hw le ⟨rfl, rfl, rfl, rfl, rfl, rfl, rfl, rfl, rfl, rfl, rfl, rfl, trivial⟩ rfl rfl Tryd.underlying36 T22 c5.1 c5.2 (mul1 _ _) rfl rfl trivial ?_; clear S CL a; intro a S CL
            refine h_run' S rfl trivial ?_
            refine s_storei S (i := y9) rfl rfl .here T22 .here rfl c5.1 c5.2 ?_; clear S; intro w S
            refine h_back ⟨fun h => (nomatch h), ?_⟩
            refine h_done ?_; clear CL hw le
            refine x_thenN ?_
            exact j4 _ g25 g26 (y23.set (Int.toNat y9) (bits .or .u64 (rd y23 y9) (shl .u64 1 (min (Int.toNat (wr .u64 ((shl .u64 1 (min (Int.toNat y21) 64)) - 1))) 64)))) a w (S.sub ⟨rfl, rfl, rfl, rfl, rfl, trivial⟩ (.cons .here (.cons .here .nil))) h5
          · refine c_condF S rfl c4 ?_
            refine wp_skip ?_
            refine x_thenN ?_
            exact j4 _ g25 g26 y23 a w (S.sub ⟨rfl, rfl, rfl, rfl, rfl, trivial⟩ (.cons .here (.cons .here .nil))) h2
        · refine c_condF S rfl c2 ?_
          refine wp_exit ?_
          refine x_thenX ?_
          refine x_thenX ?_
          refine x_blockX ?_
          refine x_blockN ?_
          refine x_thenN ?_
          exact j2 _ y22 g25 g26 y23 a w (S.sub ⟨rfl, rfl, rfl, rfl, trivial⟩ (.cons .here (.cons .here .nil))) h1
    · refine c_condF S rfl c1 ?_
      refine wp_exit ?_
      refine x_thenX ?_
      refine x_thenX ?_
      refine x_blockX ?_
      refine x_thenN ?_
      exact j1 _ g13 g14 y11 a w (S.sub ⟨rfl, rfl, trivial⟩ (.cons .here (.cons .here .nil))) h1
/-! smithy/smithyref05.up -/
def smithyref05_up.f (x1 : Int) (x2 : Int) : Option Int := if ((Int.tmod x2 64) == 0) = true then (some x1) else (if 0 ≤ (Int.tmod x2 64) then (if 0 ≤ (wr .i64 (64 - (Int.tmod x2 64))) then (some (bits .or .u64 (shl .u64 x1 (min (Int.toNat (Int.tmod x2 64)) 64)) (shr x1 (min (Int.toNat (wr .i64 (64 - (Int.tmod x2 64)))) 64)))) else none) else none)
theorem smithyref05_up.ok (x1 : Int) (x2 : Int) (r : Int) (h0 : smithyref05_up.f x1 x2 = some r) (mi : Mem) (w0 : World) : okL mi [(.v (.int .u64 x1)), (.v (.int .i64 x2))] → Frz mi w0 → Calls Tryd.prog 21 (([(.v (.int .u64 x1)), (.v (.int .i64 x2))] : List D).map D.val).toArray w0 (Ret mi (.v (.int .u64 r)) w0) := by
  intro ok hm
  delta smithyref05_up.f at h0
  refine c_enter (n := 18) [(.v (.int .u64 x1)), (.v (.int .i64 x2))] (l := [(0, (.v (.int .u64 x1))), (1, (.v (.int .i64 x2)))]) Tryd.func21 rfl rfl rfl rfl ok hm ?_
  clear ok hm
  intro a S
  refine c_region ?_
  refine s_assign S rfl rfl ?_; clear S a; intro a S
  refine c_end ?_
  refine c_region ?_
  refine s_move S rfl rfl ?_; clear S a; intro a S
  refine s_rem S rfl rfl (by decide) rfl ?_; clear S a; intro a S
  refine s_assign S rfl rfl ?_; clear S a; intro a S
  refine c_end ?_
  refine wp_seq ?_
  refine c_region ?_
  refine s_move S rfl rfl ?_; clear S a; intro a S
  refine s_bin S rfl rfl rfl rfl ?_; clear S a; intro a S
  refine c_end ?_
  rcases ite_of h0 with ⟨c1, h1⟩ | ⟨c1, h1⟩ <;> clear h0
  · refine c_condT S rfl c1 ?_
    refine c_region ?_
    refine s_move S rfl rfl ?_; clear S a; intro a S
    refine s_assign S rfl rfl ?_; clear S a; intro a S
    refine c_end ?_
    refine wp_ret ?_
    refine x_thenR ?_
    obtain rfl := Option.some.inj h1
    exact b_ret1 (d := (.v (.int .u64 x1))) S rfl rfl fun ok => ⟨rfl, ok, S.below0⟩
  · refine c_condF S rfl c1 ?_
    refine wp_skip ?_
    refine x_thenN ?_
    refine wp_seq (c_heldS S (.take 0 (.take 1 (.take 2 (.take 3 (.take 4 (.take 5 (.take 6 (.take 7 (.take 8 .done))))))))) 9 [] .nil trivial [(1, (.v (.int .i64 (Int.tmod x2 64)))), (0, (.v (.int .u64 x1)))] ⟨rfl, rfl, trivial⟩ (by kernel_rfl) (by kernel_rfl) ?_); clear S; intro w S CL hw le
    refine h_move S CL hw le ⟨rfl, rfl, trivial⟩ rfl rfl rfl trivial ?_; clear S CL a; intro a S CL
    refine h_move S CL hw le ⟨rfl, rfl, rfl, trivial⟩ rfl rfl rfl trivial ?_; clear S CL a; intro a S CL
    obtain ⟨c2, h2⟩ := chk_of h1; clear h1
    refine h_shl S CL hw le ⟨rfl, rfl, rfl, rfl, trivial⟩ (e := (min (Int.toNat (Int.tmod x2 64)) 64)) rfl rfl c2 rfl rfl rfl trivial ?_; clear S CL a; intro a S CL
    refine h_move S CL hw le ⟨rfl, rfl, rfl, rfl, rfl, trivial⟩ rfl rfl rfl trivial ?_; clear S CL a; intro a S CL
    refine h_move S CL hw le ⟨rfl, rfl, rfl, rfl, rfl, rfl, trivial⟩ rfl rfl rfl trivial ?_; clear S CL a; intro a S CL
    refine h_bin S CL hw le ⟨rfl, rfl, rfl, rfl, rfl, rfl, rfl, trivial⟩ rfl rfl rfl rfl rfl trivial ?_; clear S CL a; intro a S CL
    obtain ⟨c3, h3⟩ := chk_of h2; clear h2
    refine h_shr S CL hw le ⟨rfl, rfl, rfl, rfl, rfl, rfl, rfl, rfl, trivial⟩ (e := (min (Int.toNat (wr .i64 (64 - (Int.tmod x2 64)))) 64)) rfl rfl c3 rfl rfl rfl trivial ?_; clear S CL a; intro a S CL
    refine h_bin S CL hw le ⟨rfl, rfl, rfl, rfl, rfl, rfl, rfl, rfl, rfl, trivial⟩ rfl rfl rfl rfl rfl trivial ?_; clear S CL a; intro a S CL
    refine h_assign S CL hw le ⟨rfl, rfl, rfl, rfl, rfl, rfl, rfl, rfl, rfl, rfl, trivial⟩ rfl rfl rfl trivial ?_; clear S CL a; intro a S CL
    refine h_done ?_; clear CL hw le
    refine x_thenN ?_
    refine wp_ret ?_
    obtain rfl := Option.some.inj h3
    exact b_ret1 (d := (.v (.int .u64 (bits .or .u64 (shl .u64 x1 (min (Int.toNat (Int.tmod x2 64)) 64)) (shr x1 (min (Int.toNat (wr .i64 (64 - (Int.tmod x2 64)))) 64)))))) S rfl rfl fun ok => ⟨rfl, ok, S.below0⟩
/-! smithy/smithyref05.Round -/
def smithyref05_Round.j4 (x2 : Int) (y4 : List Int) : Option (List Int) := some (y4.set (Int.toNat 0) (bits .xor .u64 (rd y4 0) x2))
def smithyref05_Round.j5 (y9 : Int) (rec1 : Int → (List Int) → Option (List Int)) (y11 : List Int) : Option (List Int) := rec1 (wr .i64 (y9 + 1)) y11
def smithyref05_Round.b2 (y3 : List Int) (y9 : Int) (rec1 : Int → (List Int) → Option (List Int)) (rec2 : Int → (List Int) → Option (List Int)) (y14 : Int) (y15 : List Int) : Option (List Int) := if (decide (y14 < 5)) = true then (if 0 ≤ (wr .i64 (y9 + (wr .i64 (5 * y14)))) ∧ (wr .i64 (y9 + (wr .i64 (5 * y14)))) < 25 then (if 0 ≤ (wr .i64 ((Int.tmod (wr .i64 (y9 + 1)) 5) + (wr .i64 (5 * y14)))) ∧ (wr .i64 ((Int.tmod (wr .i64 (y9 + 1)) 5) + (wr .i64 (5 * y14)))) < 25 then (if 0 ≤ (wr .i64 ((Int.tmod (wr .i64 (y9 + 2)) 5) + (wr .i64 (5 * y14)))) ∧ (wr .i64 ((Int.tmod (wr .i64 (y9 + 2)) 5) + (wr .i64 (5 * y14)))) < 25 then (rec2 (wr .i64 (y14 + 1)) (y15.set (Int.toNat (wr .i64 (y9 + (wr .i64 (5 * y14))))) (bits .xor .u64 (rd y3 (wr .i64 (y9 + (wr .i64 (5 * y14))))) (bits .and .u64 (wr .u64 (18446744073709551615 - (rd y3 (wr .i64 ((Int.tmod (wr .i64 (y9 + 1)) 5) + (wr .i64 (5 * y14))))))) (rd y3 (wr .i64 ((Int.tmod (wr .i64 (y9 + 2)) 5) + (wr .i64 (5 * y14))))))))) else none) else none) else none) else (smithyref05_Round.j5 y9 rec1 y15)
def smithyref05_Round.l2 (y3 : List Int) (y9 : Int) (rec1 : Int → (List Int) → Option (List Int)) : Nat → Int → (List Int) → Option (List Int)
  | 0, _, _ => none
  | q + 1, y14, y15 => smithyref05_Round.b2 y3 y9 rec1 (smithyref05_Round.l2 y3 y9 rec1 q) y14 y15
def smithyref05_Round.b1 (k : Nat) (x2 : Int) (y3 : List Int) (rec1 : Int → (List Int) → Option (List Int)) (y9 : Int) (y10 : List Int) : Option (List Int) := if (decide (y9 < 5)) = true then (smithyref05_Round.l2 y3 y9 rec1 k 0 y10) else (smithyref05_Round.j4 x2 y10)
def smithyref05_Round.l1 (k : Nat) (x2 : Int) (y3 : List Int) : Nat → Int → (List Int) → Option (List Int)
  | 0, _, _ => none
  | q + 1, y9, y10 => smithyref05_Round.b1 k x2 y3 (smithyref05_Round.l1 k x2 y3 q) y9 y10
def smithyref05_Round.j3 (k : Nat) (x2 : Int) (y3 : List Int) : Option (List Int) := smithyref05_Round.l1 k x2 y3 k 0 [0, 0, 0, 0, 0, 0, 0, 0, 0, 0, 0, 0, 0, 0, 0, 0, 0, 0, 0, 0, 0, 0, 0, 0, 0]
def smithyref05_Round.b3 (k : Nat) (x2 : Int) (y2 : List Int) (rec3 : Int → Int → Int → (List Int) → Option (List Int)) (y20 : Int) (y21 : Int) (y22 : Int) (y23 : List Int) : Option (List Int) := if (decide (y20 < 24)) = true then (if 0 ≤ (wr .i64 (y22 + (wr .i64 (5 * y21)))) ∧ (wr .i64 (y22 + (wr .i64 (5 * y21)))) < 25 then ((smithyref05_up.f (rd y2 (wr .i64 (y22 + (wr .i64 (5 * y21))))) (wr .i64 (Int.tdiv (wr .i64 ((wr .i64 (y20 + 1)) * (wr .i64 (y20 + 2)))) 2))).bind fun t1 => (if 0 ≤ (wr .i64 (y21 + (wr .i64 (5 * (Int.tmod (wr .i64 ((wr .i64 (2 * y22)) + (wr .i64 (3 * y21)))) 5))))) ∧ (wr .i64 (y21 + (wr .i64 (5 * (Int.tmod (wr .i64 ((wr .i64 (2 * y22)) + (wr .i64 (3 * y21)))) 5))))) < 25 then (rec3 (wr .i64 (y20 + 1)) (Int.tmod (wr .i64 ((wr .i64 (2 * y22)) + (wr .i64 (3 * y21)))) 5) y21 (y23.set (Int.toNat (wr .i64 (y21 + (wr .i64 (5 * (Int.tmod (wr .i64 ((wr .i64 (2 * y22)) + (wr .i64 (3 * y21)))) 5)))))) t1)) else none)) else none) else (smithyref05_Round.j3 k x2 y23)
def smithyref05_Round.l3 (k : Nat) (x2 : Int) (y2 : List Int) : Nat → Int → Int → Int → (List Int) → Option (List Int)
  | 0, _, _, _, _ => none
  | q + 1, y20, y21, y22, y23 => smithyref05_Round.b3 k x2 y2 (smithyref05_Round.l3 k x2 y2 q) y20 y21 y22 y23
def smithyref05_Round.j2 (k : Nat) (x2 : Int) (y2 : List Int) : Option (List Int) := smithyref05_Round.l3 k x2 y2 k 0 0 1 ([0, 0, 0, 0, 0, 0, 0, 0, 0, 0, 0, 0, 0, 0, 0, 0, 0, 0, 0, 0, 0, 0, 0, 0, 0].set (Int.toNat 0) (rd y2 0))
def smithyref05_Round.j6 (y28 : Int) (rec4 : Int → (List Int) → Option (List Int)) (y30 : List Int) : Option (List Int) := rec4 (wr .i64 (y28 + 1)) y30
def smithyref05_Round.b5 (x1 : List Int) (y1 : List Int) (y28 : Int) (rec4 : Int → (List Int) → Option (List Int)) (rec5 : Int → (List Int) → Option (List Int)) (y33 : Int) (y34 : List Int) : Option (List Int) := if (decide (y33 < 5)) = true then (if 0 ≤ (wr .i64 (y28 + (wr .i64 (5 * y33)))) ∧ (wr .i64 (y28 + (wr .i64 (5 * y33)))) < 25 then (if 0 ≤ (Int.tmod (wr .i64 (y28 + 4)) 5) ∧ (Int.tmod (wr .i64 (y28 + 4)) 5) < 5 then (if 0 ≤ (Int.tmod (wr .i64 (y28 + 1)) 5) ∧ (Int.tmod (wr .i64 (y28 + 1)) 5) < 5 then ((smithyref05_up.f (rd y1 (Int.tmod (wr .i64 (y28 + 1)) 5)) 1).bind fun t4 => (rec5 (wr .i64 (y33 + 1)) (y34.set (Int.toNat (wr .i64 (y28 + (wr .i64 (5 * y33))))) (bits .xor .u64 (bits .xor .u64 (rd x1 (wr .i64 (y28 + (wr .i64 (5 * y33))))) (rd y1 (Int.tmod (wr .i64 (y28 + 4)) 5))) t4)))) else none) else none) else none) else (smithyref05_Round.j6 y28 rec4 y34)
def smithyref05_Round.l5 (x1 : List Int) (y1 : List Int) (y28 : Int) (rec4 : Int → (List Int) → Option (List Int)) : Nat → Int → (List Int) → Option (List Int)
  | 0, _, _ => none
  | q + 1, y33, y34 => smithyref05_Round.b5 x1 y1 y28 rec4 (smithyref05_Round.l5 x1 y1 y28 rec4 q) y33 y34
def smithyref05_Round.b4 (k : Nat) (x1 : List Int) (x2 : Int) (y1 : List Int) (rec4 : Int → (List Int) → Option (List Int)) (y28 : Int) (y29 : List Int) : Option (List Int) := if (decide (y28 < 5)) = true then (smithyref05_Round.l5 x1 y1 y28 rec4 k 0 y29) else (smithyref05_Round.j2 k x2 y29)
def smithyref05_Round.l4 (k : Nat) (x1 : List Int) (x2 : Int) (y1 : List Int) : Nat → Int → (List Int) → Option (List Int)
  | 0, _, _ => none
  | q + 1, y28, y29 => smithyref05_Round.b4 k x1 x2 y1 (smithyref05_Round.l4 k x1 x2 y1 q) y28 y29
def smithyref05_Round.j1 (k : Nat) (x1 : List Int) (x2 : Int) (y1 : List Int) : Option (List Int) := smithyref05_Round.l4 k x1 x2 y1 k 0 [0, 0, 0, 0, 0, 0, 0, 0, 0, 0, 0, 0, 0, 0, 0, 0, 0, 0, 0, 0, 0, 0, 0, 0, 0]
def smithyref05_Round.j7 (y39 : Int) (rec6 : Int → (List Int) → Option (List Int)) (y41 : List Int) : Option (List Int) := rec6 (wr .i64 (y39 + 1)) y41
def smithyref05_Round.b7 (x1 : List Int) (y39 : Int) (rec6 : Int → (List Int) → Option (List Int)) (rec7 : Int → (List Int) → Option (List Int)) (y44 : Int) (y45 : List Int) : Option (List Int) := if (decide (y44 < 5)) = true then (if 0 ≤ y39 ∧ y39 < 5 then (if 0 ≤ (wr .i64 (y39 + (wr .i64 (5 * y44)))) ∧ (wr .i64 (y39 + (wr .i64 (5 * y44)))) < 25 then (rec7 (wr .i64 (y44 + 1)) (y45.set (Int.toNat y39) (bits .xor .u64 (rd y45 y39) (rd x1 (wr .i64 (y39 + (wr .i64 (5 * y44)))))))) else none) else none) else (smithyref05_Round.j7 y39 rec6 y45)
def smithyref05_Round.l7 (x1 : List Int) (y39 : Int) (rec6 : Int → (List Int) → Option (List Int)) : Nat → Int → (List Int) → Option (List Int)
  | 0, _, _ => none
  | q + 1, y44, y45 => smithyref05_Round.b7 x1 y39 rec6 (smithyref05_Round.l7 x1 y39 rec6 q) y44 y45
def smithyref05_Round.b6 (k : Nat) (x1 : List Int) (x2 : Int) (rec6 : Int → (List Int) → Option (List Int)) (y39 : Int) (y40 : List Int) : Option (List Int) := if (decide (y39 < 5)) = true then (smithyref05_Round.l7 x1 y39 rec6 k 0 y40) else (smithyref05_Round.j1 k x1 x2 y40)
def smithyref05_Round.l6 (k : Nat) (x1 : List Int) (x2 : Int) : Nat → Int → (List Int) → Option (List Int)
  | 0, _, _ => none
  | q + 1, y39, y40 => smithyref05_Round.b6 k x1 x2 (smithyref05_Round.l6 k x1 x2 q) y39 y40
def smithyref05_Round.f (k : Nat) (x1 : List Int) (x2 : Int) : Option (List Int) := smithyref05_Round.l6 k x1 x2 k 0 [0, 0, 0, 0, 0]
theorem smithyref05_Round.ok (k : Nat) (x1 : List Int) (x2 : Int) (r : List Int) (h0 : smithyref05_Round.f k x1 x2 = some r) (mi : Mem) (w0 : World) : okL mi [(.agg [.ints .u64 x1 25]), (.v (.int .u64 x2))] → Frz mi w0 → Calls Tryd.prog 15 (([(.agg [.ints .u64 x1 25]), (.v (.int .u64 x2))] : List D).map D.val).toArray w0 (Ret mi (.agg [.ints .u64 r 25]) w0) := by
  intro ok hm
  delta smithyref05_Round.f at h0
  refine c_enter (n := 157) [(.agg [.ints .u64 x1 25]), (.v (.int .u64 x2))] (l := [(0, (.agg [.ints .u64 x1 25])), (1, (.v (.int .u64 x2)))]) Tryd.func15 rfl rfl rfl rfl ok hm ?_
  clear ok hm
  intro a S
  refine c_region ?_
  refine s_box S rfl rfl rfl ?_; clear S a; intro g1 a w S
  refine s_alloc S Z23 rfl ⟨rfl, trivial⟩ rfl ?_; clear S a w; intro g2 a w S
  refine c_end ?_
  refine c_region ?_
  refine s_build S (ds := []) (dv := (.agg [.ints .u64 [0, 0, 0, 0, 0] 5])) rfl (fun _ => by kernel_rfl) ⟨rfl, trivial⟩ rfl ?_; clear S a; intro a S
  refine s_alloc S Z45 rfl ⟨rfl, trivial⟩ rfl ?_; clear S a w; intro g3 a w S
  refine s_store S rfl rfl rfl (s' := [.ints .u64 [0, 0, 0, 0, 0] 5]) .here T45 rfl rfl ?_; clear S w; intro w S
  refine c_end ?_
  refine wp_seq_k ?_
  intro K1 hK1
  have j1 : ∀ (m : Mem) (g4 : Nat) (g5 : Nat) (g6 : Nat) (y1 : List Int) (a : Act) (w : World), St 157 m (B0 mi w0) [(5, (.v (.pointer (some ⟨g4, 0, none⟩)))), (4, (.v (.pointer (some ⟨g5, 0, none⟩)))), (2, (.v (.pointer (some ⟨g6, 0, none⟩)))), (1, (.v (.int .u64 x2)))] [Res.cells g4 45 [.ints .u64 y1 5], Res.cells g5 23 [.ints .u64 [0, 0, 0, 0, 0, 0, 0, 0, 0, 0, 0, 0, 0, 0, 0, 0, 0, 0, 0, 0, 0, 0, 0, 0, 0] 25], Res.cells g6 23 [.ints .u64 x1 25]] a w → smithyref05_Round.j1 k x1 x2 y1 = some r → K1 a w := by
    intro m g4 g5 g6 y1 a w S h0
    delta smithyref05_Round.j1 at h0
    refine hK1 a w ?_
    refine c_region ?_
    refine s_build S (ds := []) (dv := (.agg [.ints .u64 [0, 0, 0, 0, 0, 0, 0, 0, 0, 0, 0, 0, 0, 0, 0, 0, 0, 0, 0, 0, 0, 0, 0, 0, 0] 25])) rfl (fun _ => by kernel_rfl) ⟨rfl, trivial⟩ rfl ?_; clear S a; intro a S
    refine s_alloc S Z23 rfl ⟨rfl, trivial⟩ rfl ?_; clear S a w; intro g7 a w S
    refine s_store S rfl rfl rfl (s' := [.ints .u64 [0, 0, 0, 0, 0, 0, 0, 0, 0, 0, 0, 0, 0, 0, 0, 0, 0, 0, 0, 0, 0, 0, 0, 0, 0] 25]) .here T23 rfl rfl ?_; clear S w; intro w S
    refine c_end ?_
    refine wp_seq_k ?_
    intro K2 hK2
    have j2 : ∀ (m : Mem) (g8 : Nat) (g9 : Nat) (y2 : List Int) (a : Act) (w : World), St 157 m (B0 mi w0) [(8, (.v (.pointer (some ⟨g8, 0, none⟩)))), (4, (.v (.pointer (some ⟨g9, 0, none⟩)))), (1, (.v (.int .u64 x2)))] [Res.cells g8 23 [.ints .u64 y2 25], Res.cells g9 23 [.ints .u64 [0, 0, 0, 0, 0, 0, 0, 0, 0, 0, 0, 0, 0, 0, 0, 0, 0, 0, 0, 0, 0, 0, 0, 0, 0] 25]] a w → smithyref05_Round.j2 k x2 y2 = some r → K2 a w := by
      intro m g8 g9 y2 a w S h0
      delta smithyref05_Round.j2 at h0
      refine hK2 a w ?_
      refine c_region ?_
      refine s_build S (ds := []) (dv := (.agg [.ints .u64 [0, 0, 0, 0, 0, 0, 0, 0, 0, 0, 0, 0, 0, 0, 0, 0, 0, 0, 0, 0, 0, 0, 0, 0, 0] 25])) rfl (fun _ => by kernel_rfl) ⟨rfl, trivial⟩ rfl ?_; clear S a; intro a S
      refine s_alloc S Z23 rfl ⟨rfl, trivial⟩ rfl ?_; clear S a w; intro g10 a w S
      refine s_store S rfl rfl rfl (s' := [.ints .u64 [0, 0, 0, 0, 0, 0, 0, 0, 0, 0, 0, 0, 0, 0, 0, 0, 0, 0, 0, 0, 0, 0, 0, 0, 0] 25]) .here T23 rfl rfl ?_; clear S w; intro w S
      refine c_end ?_
      refine c_region ?_
      refine s_iaddr S (o' := 0) rfl rfl Tryd.underlying23 T22 (by decide) (by decide) rfl rfl ?_; clear S a; intro a S
      refine s_loadi S (i := 0) rfl (.there .here) T22 .here rfl (by decide) (by decide) rfl ?_; clear S a; intro a S
      refine s_iaddr S (o' := 0) rfl rfl Tryd.underlying23 T22 (by decide) (by decide) rfl rfl ?_; clear S a; intro a S
      refine s_storei S (i := 0) rfl rfl .here T22 .here rfl (by decide) (by decide) ?_; clear S w; intro w S
      refine c_end ?_
      refine c_region ?_
      refine s_assign S rfl rfl ?_; clear S a; intro a S
      refine c_end ?_
      refine c_region ?_
      refine s_assign S rfl rfl ?_; clear S a; intro a S
      refine c_end ?_
      refine wp_seq_k ?_
      intro K3 hK3
      have j3 : ∀ (m : Mem) (g11 : Nat) (g12 : Nat) (y3 : List Int) (a : Act) (w : World), St 157 m (B0 mi w0) [(11, (.v (.pointer (some ⟨g11, 0, none⟩)))), (4, (.v (.pointer (some ⟨g12, 0, none⟩)))), (1, (.v (.int .u64 x2)))] [Res.cells g11 23 [.ints .u64 y3 25], Res.cells g12 23 [.ints .u64 [0, 0, 0, 0, 0, 0, 0, 0, 0, 0, 0, 0, 0, 0, 0, 0, 0, 0, 0, 0, 0, 0, 0, 0, 0] 25]] a w → smithyref05_Round.j3 k x2 y3 = some r → K3 a w := by
        intro m g11 g12 y3 a w S h0
        delta smithyref05_Round.j3 at h0
        refine hK3 a w ?_
        refine c_region ?_
        refine s_build S (ds := []) (dv := (.agg [.ints .u64 [0, 0, 0, 0, 0, 0, 0, 0, 0, 0, 0, 0, 0, 0, 0, 0, 0, 0, 0, 0, 0, 0, 0, 0, 0] 25])) rfl (fun _ => by kernel_rfl) ⟨rfl, trivial⟩ rfl ?_; clear S a; intro a S
        refine s_alloc S Z23 rfl ⟨rfl, trivial⟩ rfl ?_; clear S a w; intro g13 a w S
        refine s_store S rfl rfl rfl (s' := [.ints .u64 [0, 0, 0, 0, 0, 0, 0, 0, 0, 0, 0, 0, 0, 0, 0, 0, 0, 0, 0, 0, 0, 0, 0, 0, 0] 25]) .here T23 rfl rfl ?_; clear S w; intro w S
        refine c_end ?_
        refine wp_seq_k ?_
        intro K4 hK4
        have j4 : ∀ (m : Mem) (g14 : Nat) (g15 : Nat) (y4 : List Int) (a : Act) (w : World), St 157 m (B0 mi w0) [(16, (.v (.pointer (some ⟨g14, 0, none⟩)))), (4, (.v (.pointer (some ⟨g15, 0, none⟩)))), (1, (.v (.int .u64 x2)))] [Res.cells g14 23 [.ints .u64 y4 25], Res.cells g15 23 [.ints .u64 [0, 0, 0, 0, 0, 0, 0, 0, 0, 0, 0, 0, 0, 0, 0, 0, 0, 0, 0, 0, 0, 0, 0, 0, 0] 25]] a w → smithyref05_Round.j4 x2 y4 = some r → K4 a w := by
          intro m g14 g15 y4 a w S h0
          delta smithyref05_Round.j4 at h0
          refine hK4 a w ?_
          refine c_region ?_
          refine s_iaddr S (o' := 0) rfl rfl Tryd.underlying23 T22 (by decide) (by decide) rfl rfl ?_; clear S a; intro a S
          refine s_loadi S (i := 0) rfl .here T22 .here rfl (by decide) (by decide) rfl ?_; clear S a; intro a S
          refine s_move S rfl rfl ?_; clear S a; intro a S
          refine s_bin S rfl rfl rfl rfl ?_; clear S a; intro a S
          refine s_iaddr S (o' := 0) rfl rfl Tryd.underlying23 T22 (by decide) (by decide) rfl rfl ?_; clear S a; intro a S
          refine s_storei S (i := 0) rfl rfl .here T22 .here rfl (by decide) (by decide) ?_; clear S w; intro w S
          refine c_end ?_
          refine c_region ?_
          refine s_loada S rfl .here T23 (s' := [.ints .u64 (y4.set (Int.toNat 0) (bits .xor .u64 (rd y4 0) x2)) 25]) rfl rfl ?_; clear S a; intro a S
          refine s_store S rfl rfl rfl (s' := [.ints .u64 (y4.set (Int.toNat 0) (bits .xor .u64 (rd y4 0) x2)) 25]) (.there .here) T23 rfl rfl ?_; clear S w; intro w S
          refine c_end ?_
          refine wp_ret ?_
          obtain rfl := Option.some.inj h0
          exact b_ret1 (d := (.agg [.ints .u64 (y4.set (Int.toNat 0) (bits .xor .u64 (rd y4 0) x2)) 25])) S rfl (resD_cell rfl (.there .here) T23 rfl rfl) fun ok => ⟨rfl, ok, S.below0⟩
        refine c_region ?_
        refine s_assign S rfl rfl ?_; clear S a; intro a S
        refine c_end ?_
        refine wp_block ?_
        refine c_loop (fun q1 a w => ∃ (m : Mem) (y9 : Int) (g28 : Nat) (g29 : Nat) (g30 : Nat) (y10 : List Int), St 157 m (B0 mi w0) [(17, (.v (.int .i64 y9))), (16, (.v (.pointer (some ⟨g28, 0, none⟩)))), (11, (.v (.pointer (some ⟨g29, 0, none⟩)))), (4, (.v (.pointer (some ⟨g30, 0, none⟩)))), (1, (.v (.int .u64 x2)))] [Res.cells g28 23 [.ints .u64 y10 25], Res.cells g29 23 [.ints .u64 y3 25], Res.cells g30 23 [.ints .u64 [0, 0, 0, 0, 0, 0, 0, 0, 0, 0, 0, 0, 0, 0, 0, 0, 0, 0, 0, 0, 0, 0, 0, 0, 0] 25]] a w ∧ smithyref05_Round.l1 k x2 y3 q1 y9 y10 = some r) ?_ ?_ (k := k) ⟨_, 0, g13, g11, g12, [0, 0, 0, 0, 0, 0, 0, 0, 0, 0, 0, 0, 0, 0, 0, 0, 0, 0, 0, 0, 0, 0, 0, 0, 0], (S.sub ⟨rfl, rfl, rfl, rfl, rfl, trivial⟩ (.cons .here (.cons .here (.cons .here .nil)))), h0⟩
        · rintro a w ⟨m, y9, g28, g29, g30, y10, S, h0⟩
          exact (nomatch (show (none : Option (List Int)) = some r from h0))
        · clear S h0
          rintro q1 a w ⟨m, y9, g28, g29, g30, y10, S, h0⟩
          replace h0 : smithyref05_Round.b1 k x2 y3 (smithyref05_Round.l1 k x2 y3 q1) y9 y10 = some r := h0
          delta smithyref05_Round.b1 at h0
          refine wp_seq ?_
          refine c_region ?_
          refine s_move S rfl rfl ?_; clear S a; intro a S
          refine s_bin S rfl rfl rfl rfl ?_; clear S a; intro a S
          refine c_end ?_
          rcases ite_of h0 with ⟨c1, h1⟩ | ⟨c1, h1⟩ <;> clear h0
          · refine c_condT S rfl c1 ?_
            refine wp_skip ?_
            refine x_thenN ?_
            refine wp_seq_k ?_
            intro K5 hK5
            have j5 : ∀ (m : Mem) (g31 : Nat) (g32 : Nat) (g33 : Nat) (y11 : List Int) (a : Act) (w : World), St 157 m (B0 mi w0) [(17, (.v (.int .i64 y9))), (16, (.v (.pointer (some ⟨g31, 0, none⟩)))), (11, (.v (.pointer (some ⟨g32, 0, none⟩)))), (4, (.v (.pointer (some ⟨g33, 0, none⟩)))), (1, (.v (.int .u64 x2)))] [Res.cells g31 23 [.ints .u64 y11 25], Res.cells g32 23 [.ints .u64 y3 25], Res.cells g33 23 [.ints .u64 [0, 0, 0, 0, 0, 0, 0, 0, 0, 0, 0, 0, 0, 0, 0, 0, 0, 0, 0, 0, 0, 0, 0, 0, 0] 25]] a w → smithyref05_Round.j5 y9 (smithyref05_Round.l1 k x2 y3 q1) y11 = some r → K5 a w := by
              intro m g31 g32 g33 y11 a w S h0
              delta smithyref05_Round.j5 at h0
              refine hK5 a w ?_
              refine c_region' ?_
              refine s_move S rfl rfl ?_; clear S a; intro a S
              refine s_bin S rfl rfl rfl rfl ?_; clear S a; intro a S
              refine s_assign S rfl rfl ?_; clear S a; intro a S
              refine c_end' ?_
              refine x_thenN ?_
              exact ⟨_, (wr .i64 (y9 + 1)), g31, g32, g33, y11, (S.sub ⟨rfl, rfl, rfl, rfl, rfl, trivial⟩ (.cons .here (.cons .here (.cons .here .nil)))), h0⟩
            refine wp_block ?_
            refine c_region ?_
            refine s_assign S rfl rfl ?_; clear S a; intro a S
            refine c_end ?_
            refine wp_block ?_
            refine c_loop (fun q2 a w => ∃ (m : Mem) (y14 : Int) (g40 : Nat) (g41 : Nat) (g42 : Nat) (y15 : List Int), St 157 m (B0 mi w0) [(18, (.v (.int .i64 y14))), (17, (.v (.int .i64 y9))), (16, (.v (.pointer (some ⟨g40, 0, none⟩)))), (11, (.v (.pointer (some ⟨g41, 0, none⟩)))), (4, (.v (.pointer (some ⟨g42, 0, none⟩)))), (1, (.v (.int .u64 x2)))] [Res.cells g40 23 [.ints .u64 y15 25], Res.cells g41 23 [.ints .u64 y3 25], Res.cells g42 23 [.ints .u64 [0, 0, 0, 0, 0, 0, 0, 0, 0, 0, 0, 0, 0, 0, 0, 0, 0, 0, 0, 0, 0, 0, 0, 0, 0] 25]] a w ∧ smithyref05_Round.l2 y3 y9 (smithyref05_Round.l1 k x2 y3 q1) q2 y14 y15 = some r) ?_ ?_ (k := k) ⟨_, 0, g28, g29, g30, y10, (S.sub ⟨rfl, rfl, rfl, rfl, rfl, rfl, trivial⟩ (.cons .here (.cons .here (.cons .here .nil)))), h1⟩
            · rintro a w ⟨m, y14, g40, g41, g42, y15, S, h0⟩
              exact (nomatch (show (none : Option (List Int)) = some r from h0))
            · clear S h1
              rintro q2 a w ⟨m, y14, g40, g41, g42, y15, S, h0⟩
              replace h0 : smithyref05_Round.b2 y3 y9 (smithyref05_Round.l1 k x2 y3 q1) (smithyref05_Round.l2 y3 y9 (smithyref05_Round.l1 k x2 y3 q1) q2) y14 y15 = some r := h0
              delta smithyref05_Round.b2 at h0
              refine wp_seq ?_
              refine c_region ?_
              refine s_move S rfl rfl ?_; clear S a; intro a S
              refine s_bin S rfl rfl rfl rfl ?_; clear S a; intro a S
              refine c_end ?_
              rcases ite_of h0 with ⟨c2, h1⟩ | ⟨c2, h1⟩ <;> clear h0
              · refine c_condT S rfl c2 ?_
                refine wp_skip ?_
                refine x_thenN ?_
                refine wp_seq ?_
                refine wp_block ?_
                refine c_heldS S (.take 0 (.take 1 (.take 2 (.take 3 (.take 4 (.take 5 (.take 6 (.take 7 (.take 8 (.take 9 (.take 10 (.take 11 (.take 12 (.take 13 (.take 14 (.take 15 (.take 16 (.take 17 (.take 18 (.take 19 (.take 20 (.take 21 (.take 22 (.take 23 (.take 24 (.take 25 (.take 26 (.take 27 (.take 28 (.take 29 (.alts (.run 30 false .done .nil)))))))))))))))))))))))))))))))) 30 [Res.cells g40 23 [.ints .u64 y15 25], Res.cells g41 23 [.ints .u64 y3 25], Res.cells g42 23 [.ints .u64 [0, 0, 0, 0, 0, 0, 0, 0, 0, 0, 0, 0, 0, 0, 0, 0, 0, 0, 0, 0, 0, 0, 0, 0, 0] 25]] (.cons .here (.cons .here (.cons .here .nil))) ⟨Res.stay_cells, Res.stay_cells, Res.stay_cells, trivial⟩ [(18, (.v (.int .i64 y14))), (17, (.v (.int .i64 y9))), (16, (.v (.pointer (some ⟨g40, 0, none⟩)))), (11, (.v (.pointer (some ⟨g41, 0, none⟩))))] ⟨rfl, rfl, rfl, rfl, trivial⟩ (by kernel_rfl) (by kernel_rfl) ?_; clear S; intro w S CL hw le
                refine h_move S CL hw le ⟨rfl, rfl, rfl, rfl, trivial⟩ rfl rfl rfl trivial ?_; clear S CL a; intro a S CL
                refine h_move S CL hw le ⟨rfl, rfl, rfl, rfl, rfl, trivial⟩ rfl rfl rfl trivial ?_; clear S CL a; intro a S CL
                refine h_bin S CL hw le ⟨rfl, rfl, rfl, rfl, rfl, rfl, trivial⟩ rfl rfl rfl rfl rfl trivial ?_; clear S CL a; intro a S CL
                refine h_bin S CL hw le ⟨rfl, rfl, rfl, rfl, rfl, rfl, rfl, trivial⟩ rfl rfl rfl rfl rfl trivial ?_; clear S CL a; intro a S CL
                refine h_move S CL hw le ⟨rfl, rfl, rfl, rfl, rfl, rfl, rfl, rfl, trivial⟩ rfl rfl rfl trivial ?_; clear S CL a; intro a S CL
                refine h_move S CL hw le ⟨rfl, rfl, rfl, rfl, rfl, rfl, rfl, rfl, rfl, trivial⟩ rfl rfl rfl trivial ?_; clear S CL a; intro a S CL
                refine h_bin S CL hw le ⟨rfl, rfl, rfl, rfl, rfl, rfl, rfl, rfl, rfl, rfl, trivial⟩ rfl rfl rfl rfl rfl trivial ?_; clear S CL a; intro a S CL
                refine h_bin S CL hw le ⟨rfl, rfl, rfl, rfl, rfl, rfl, rfl, rfl, rfl, rfl, rfl, trivial⟩ rfl rfl rfl rfl rfl trivial ?_; clear S CL a; intro a S CL
                obtain ⟨c3, h2⟩ := chk_of h1; clear h1
                refine h_iaddr S CL hw le ⟨rfl, rfl, rfl, rfl, rfl, rfl, rfl, rfl, rfl, rfl, rfl, rfl, trivial⟩ rfl rfl Tryd.underlying23 T22 c3.1 c3.2 (mul1 _ _) rfl rfl trivial ?_; clear S CL a; intro a S CL
                refine h_loadi S CL hw le ⟨rfl, rfl, rfl, rfl, rfl, rfl, rfl, rfl, rfl, rfl, rfl, rfl, rfl, trivial⟩ (i := (wr .i64 (y9 + (wr .i64 (5 * y14))))) rfl (.there .here) T22 .here rfl c3.1 c3.2 rfl rfl trivial ?_; clear S CL a; intro a S CL
                refine h_move S CL hw le ⟨rfl, rfl, rfl, rfl, rfl, rfl, rfl, rfl, rfl, rfl, rfl, rfl, rfl, rfl, trivial⟩ rfl rfl rfl trivial ?_; clear S CL a; intro a S CL
                refine h_bin S CL hw le ⟨rfl, rfl, rfl, rfl, rfl, rfl, rfl, rfl, rfl, rfl, rfl, rfl, rfl, rfl, rfl, trivial⟩ rfl rfl rfl rfl rfl trivial ?_; clear S CL a; intro a S CL
                refine h_rem S CL hw le ⟨rfl, rfl, rfl, rfl, rfl, rfl, rfl, rfl, rfl, rfl, rfl, rfl, rfl, rfl, rfl, rfl, trivial⟩ rfl rfl (by decide) rfl rfl trivial ?_; clear S CL a; intro a S CL
                refine h_move S CL hw le ⟨rfl, rfl, rfl, rfl, rfl, rfl, rfl, rfl, rfl, rfl, rfl, rfl, rfl, rfl, rfl, rfl, rfl, trivial⟩ rfl rfl rfl trivial ?_; clear S CL a; intro a S CL
                refine h_bin S CL hw le ⟨rfl, rfl, rfl, rfl, rfl, rfl, rfl, rfl, rfl, rfl, rfl, rfl, rfl, rfl, rfl, rfl, rfl, rfl, trivial⟩ rfl rfl rfl rfl rfl trivial ?_; clear S CL a; intro a S CL
                refine h_bin S CL hw le ⟨rfl, rfl, rfl, rfl, rfl, rfl, rfl, rfl, rfl, rfl, rfl, rfl, rfl, rfl, rfl, rfl, rfl, rfl, rfl, trivial⟩ rfl rfl rfl rfl rfl trivial ?_; clear S CL a; intro a S CL
                obtain ⟨c4, h3⟩ := chk_of h2; clear h2
                refine h_iaddr S CL hw le ⟨rfl, rfl, rfl, rfl, rfl, rfl, rfl, rfl, rfl, rfl, rfl, rfl, rfl, rfl, rfl, rfl, rfl, rfl, rfl, rfl, trivial⟩ rfl rfl Tryd.underlying23 T22 c4.1 c4.2 (mul1 _ _) rfl rfl trivial ?_; clear S CL a; intro a S CL
                refine h_loadi S CL hw le ⟨rfl, rfl, rfl, rfl, rfl, rfl, rfl, rfl, rfl, rfl, rfl, rfl, rfl, rfl, rfl, rfl, rfl, rfl, rfl, rfl, rfl, trivial⟩ (i := (wr .i64 ((Int.tmod (wr .i64 (y9 + 1)) 5) + (wr .i64 (5 * y14))))) rfl (.there .here) T22 .here rfl c4.1 c4.2 rfl rfl trivial ?_; clear S CL a; intro a S CL
                refine h_bin S CL hw le ⟨rfl, rfl, rfl, rfl, rfl, rfl, rfl, rfl, rfl, rfl, rfl, rfl, rfl, rfl, rfl, rfl, rfl, rfl, rfl, rfl, rfl, rfl, trivial⟩ rfl rfl rfl rfl rfl trivial ?_; clear S CL a; intro a S CL
                refine h_move S CL hw le ⟨rfl, rfl, rfl, rfl, rfl, rfl, rfl, rfl, rfl, rfl, rfl, rfl, rfl, rfl, rfl, rfl, rfl, rfl, rfl, rfl, rfl, rfl, rfl, trivial⟩ rfl rfl rfl trivial ?_; clear S CL a; intro a S CL
                refine h_bin S CL hw le ⟨rfl, rfl, rfl, rfl, rfl, rfl, rfl, rfl, rfl, rfl, rfl, rfl, rfl, rfl, rfl, rfl, rfl, rfl, rfl, rfl, rfl, rfl, rfl, rfl, trivial⟩ rfl rfl rfl rfl rfl trivial ?_; clear S CL a; intro a S CL
                refine h_rem S CL hw le ⟨rfl, rfl, rfl, rfl, rfl, rfl, rfl, rfl, rfl, rfl, rfl, rfl, rfl, rfl, rfl, rfl, rfl, rfl, rfl, rfl, rfl, rfl, rfl, rfl, rfl, trivial⟩ rfl rfl (by decide) rfl rfl trivial ?_; clear S CL a; intro a S CL
                refine h_move S CL hw le ⟨rfl, rfl, rfl, rfl, rfl, rfl, rfl, rfl, rfl, rfl, rfl, rfl, rfl, rfl, rfl, rfl, rfl, rfl, rfl, rfl, rfl, rfl, rfl, rfl, rfl, rfl, trivial⟩ rfl rfl rfl trivial ?_; clear S CL a; intro a S CL
                refine h_bin S CL hw le ⟨rfl, rfl, rfl, rfl, rfl, rfl, rfl, rfl, rfl, rfl, rfl, rfl, rfl, rfl, rfl, rfl, rfl, rfl, rfl, rfl, rfl, rfl, rfl, rfl, rfl, rfl, rfl, trivial⟩ rfl rfl rfl rfl rfl trivial ?_; clear S CL a; intro a S CL
                refine h_bin S CL hw le ⟨rfl, rfl, rfl, rfl, rfl, rfl, rfl, rfl, rfl, rfl, rfl, rfl, rfl, rfl, rfl, rfl, rfl, rfl, rfl, rfl, rfl, rfl, rfl, rfl, rfl, rfl, rfl, rfl, trivial⟩ rfl rfl rfl rfl rfl trivial ?_; clear S CL a; intro a S CL
                obtain ⟨c5, h4⟩ := chk_of h3; clear h3
                refine h_iaddr S CL hw le ⟨rfl, rfl, rfl, rfl, rfl, rfl, rfl, rfl, rfl, rfl, rfl, rfl, rfl, rfl, rfl, rfl, rfl, rfl, rfl, rfl, rfl, rfl, rfl, rfl, rfl, rfl, rfl, rfl, rfl, trivial⟩ rfl rfl Tryd.underlying23 T22 c5.1 c5.2 (mul1 _ _) rfl rfl trivial ?_; clear S CL a; intro a S CL
                refine h_loadi S CL hw le ⟨rfl, rfl, rfl, rfl, rfl, rfl, rfl, rfl, rfl, rfl, rfl, rfl, rfl, rfl, rfl, rfl, rfl, rfl, rfl, rfl, rfl, rfl, rfl, rfl, rfl, rfl, rfl, rfl, rfl, rfl, trivial⟩ (i := (wr .i64 ((Int.tmod (wr .i64 (y9 + 2)) 5) + (wr .i64 (5 * y14))))) rfl (.there .here) T22 .here rfl c5.1 c5.2 rfl rfl trivial ?_; clear S CL a; intro a S CL
                refine h_bin S CL hw le ⟨rfl, rfl, rfl, rfl, rfl, rfl, rfl, rfl, rfl, rfl, rfl, rfl, rfl, rfl, rfl, rfl, rfl, rfl, rfl, rfl, rfl, rfl, rfl, rfl, rfl, rfl, rfl, rfl, rfl, rfl, rfl, trivial⟩ rfl rfl rfl rfl rfl trivial ?_; clear S CL a; intro a S CL
                refine h_bin S CL hw le ⟨rfl, rfl, rfl, rfl, rfl, rfl, rfl, rfl, rfl, rfl, rfl, rfl, rfl, rfl, rfl, rfl, rfl, rfl, rfl, rfl, rfl, rfl, rfl, rfl, rfl, rfl, rfl, rfl, rfl, rfl, rfl, rfl, trivial⟩ rfl rfl rfl rfl rfl trivial ?_; clear S CL a; intro a S CL
                refine h_iaddr S CL hw le ⟨rfl, rfl, rfl, rfl, rfl, rfl, rfl, rfl, rfl, rfl, rfl, rfl, rfl, rfl, rfl, rfl, rfl, rfl, rfl, rfl, rfl, rfl, rfl, rfl, rfl, rfl, rfl, rfl, rfl, rfl, rfl, rfl, rfl, trivial⟩ rfl rfl Tryd.underlying23 T22 c3.1 c3.2 (mul1 _ _) rfl rfl trivial ?_; clear S CL a; intro a S CL
                refine h_run' S rfl trivial ?_
                refine s_storei S (i := (wr .i64 (y9 + (wr .i64 (5 * y14))))) rfl rfl .here T22 .here rfl c3.1 c3.2 ?_; clear S; intro w S
                refine h_back ⟨fun h => (nomatch h), ?_⟩
                refine h_done ?_; clear CL hw le
                refine x_blockN ?_
                refine x_thenN ?_
                refine c_region' ?_
                refine s_move S rfl rfl ?_; clear S a; intro a S
                refine s_bin S rfl rfl rfl rfl ?_; clear S a; intro a S
                refine s_assign S rfl rfl ?_; clear S a; intro a S
                refine c_end' ?_
                refine x_thenN ?_
                exact ⟨_, (wr .i64 (y14 + 1)), g40, g41, g42, (y15.set (Int.toNat (wr .i64 (y9 + (wr .i64 (5 * y14))))) (bits .xor .u64 (rd y3 (wr .i64 (y9 + (wr .i64 (5 * y14))))) (bits .and .u64 (wr .u64 (18446744073709551615 - (rd y3 (wr .i64 ((Int.tmod (wr .i64 (y9 + 1)) 5) + (wr .i64 (5 * y14))))))) (rd y3 (wr .i64 ((Int.tmod (wr .i64 (y9 + 2)) 5) + (wr .i64 (5 * y14)))))))), (S.sub ⟨rfl, rfl, rfl, rfl, rfl, rfl, trivial⟩ (.cons .here (.cons .here (.cons .here .nil)))), h4⟩
              · refine c_condF S rfl c2 ?_
                refine wp_exit ?_
                refine x_thenX ?_
                refine x_thenX ?_
                refine x_blockX ?_
                refine x_blockN ?_
                refine x_thenN ?_
                exact j5 _ g40 g41 g42 y15 a w (S.sub ⟨rfl, rfl, rfl, rfl, rfl, trivial⟩ (.cons .here (.cons .here (.cons .here .nil)))) h1
          · refine c_condF S rfl c1 ?_
            refine wp_exit ?_
            refine x_thenX ?_
            refine x_thenX ?_
            refine x_blockX ?_
            refine x_thenN ?_
            exact j4 _ g28 g30 y10 a w (S.sub ⟨rfl, rfl, rfl, trivial⟩ (.cons .here (.cons (.there .here) .nil))) h1
      refine c_region ?_
      refine s_assign S rfl rfl ?_; clear S a; intro a S
      refine c_end ?_
      refine wp_block ?_
      refine c_loop (fun q3 a w => ∃ (m : Mem) (y20 : Int) (y21 : Int) (y22 : Int) (g49 : Nat) (g50 : Nat) (g51 : Nat) (y23 : List Int), St 157 m (B0 mi w0) [(14, (.v (.int .i64 y20))), (13, (.v (.int .i64 y21))), (12, (.v (.int .i64 y22))), (11, (.v (.pointer (some ⟨g49, 0, none⟩)))), (8, (.v (.pointer (some ⟨g50, 0, none⟩)))), (4, (.v (.pointer (some ⟨g51, 0, none⟩)))), (1, (.v (.int .u64 x2)))] [Res.cells g49 23 [.ints .u64 y23 25], Res.cells g50 23 [.ints .u64 y2 25], Res.cells g51 23 [.ints .u64 [0, 0, 0, 0, 0, 0, 0, 0, 0, 0, 0, 0, 0, 0, 0, 0, 0, 0, 0, 0, 0, 0, 0, 0, 0] 25]] a w ∧ smithyref05_Round.l3 k x2 y2 q3 y20 y21 y22 y23 = some r) ?_ ?_ (k := k) ⟨_, 0, 0, 1, g10, g8, g9, ([0, 0, 0, 0, 0, 0, 0, 0, 0, 0, 0, 0, 0, 0, 0, 0, 0, 0, 0, 0, 0, 0, 0, 0, 0].set (Int.toNat 0) (rd y2 0)), (S.sub ⟨rfl, rfl, rfl, rfl, rfl, rfl, rfl, trivial⟩ (.cons .here (.cons .here (.cons .here .nil)))), h0⟩
      · rintro a w ⟨m, y20, y21, y22, g49, g50, g51, y23, S, h0⟩
        exact (nomatch (show (none : Option (List Int)) = some r from h0))
      · clear S h0
        rintro q3 a w ⟨m, y20, y21, y22, g49, g50, g51, y23, S, h0⟩
        replace h0 : smithyref05_Round.b3 k x2 y2 (smithyref05_Round.l3 k x2 y2 q3) y20 y21 y22 y23 = some r := h0
        delta smithyref05_Round.b3 at h0
        refine wp_seq ?_
        refine c_region ?_
        refine s_move S rfl rfl ?_; clear S a; intro a S
        refine s_bin S rfl rfl rfl rfl ?_; clear S a; intro a S
        refine c_end ?_
        rcases ite_of h0 with ⟨c6, h1⟩ | ⟨c6, h1⟩ <;> clear h0
        · refine c_condT S rfl c6 ?_
          refine wp_skip ?_
          refine x_thenN ?_
          refine wp_seq ?_
          refine wp_block ?_
          refine c_region ?_
          refine s_move S rfl rfl ?_; clear S a; intro a S
          refine s_move S rfl rfl ?_; clear S a; intro a S
          refine s_bin S rfl rfl rfl rfl ?_; clear S a; intro a S
          refine s_move S rfl rfl ?_; clear S a; intro a S
          refine s_bin S rfl rfl rfl rfl ?_; clear S a; intro a S
          refine s_bin S rfl rfl rfl rfl ?_; clear S a; intro a S
          refine s_rem S rfl rfl (by decide) rfl ?_; clear S a; intro a S
          refine s_bin S rfl rfl rfl rfl ?_; clear S a; intro a S
          refine s_bin S rfl rfl rfl rfl ?_; clear S a; intro a S
          refine s_move S rfl rfl ?_; clear S a; intro a S
          refine s_move S rfl rfl ?_; clear S a; intro a S
          refine s_bin S rfl rfl rfl rfl ?_; clear S a; intro a S
          refine s_bin S rfl rfl rfl rfl ?_; clear S a; intro a S
          obtain ⟨c7, h2⟩ := chk_of h1; clear h1
          refine s_iaddr S rfl rfl Tryd.underlying23 T22 c7.1 c7.2 (mul1 _ _) rfl ?_; clear S a; intro a S
          refine s_loadi S (i := (wr .i64 (y22 + (wr .i64 (5 * y21))))) rfl (.there .here) T22 .here rfl c7.1 c7.2 rfl ?_; clear S a; intro a S
          refine s_move S rfl rfl ?_; clear S a; intro a S
          refine s_bin S rfl rfl rfl rfl ?_; clear S a; intro a S
          refine s_move S rfl rfl ?_; clear S a; intro a S
          refine s_bin S rfl rfl rfl rfl ?_; clear S a; intro a S
          refine s_bin S rfl rfl rfl rfl ?_; clear S a; intro a S
          refine s_quo S rfl rfl (by decide) rfl ?_; clear S a; intro a S
          obtain ⟨t1, et1, h3⟩ := bind_of h2; clear h2
          refine s_call S (ds := [(.v (.int .u64 (rd y2 (wr .i64 (y22 + (wr .i64 (5 * y21))))))), (.v (.int .i64 (wr .i64 (Int.tdiv (wr .i64 ((wr .i64 (y20 + 1)) * (wr .i64 (y20 + 2)))) 2))))]) (d := (.v (.int .u64 t1))) N21 rfl rfl (smithyref05_up.ok (rd y2 (wr .i64 (y22 + (wr .i64 (5 * y21))))) (wr .i64 (Int.tdiv (wr .i64 ((wr .i64 (y20 + 1)) * (wr .i64 (y20 + 2)))) 2)) t1 et1 _ _) ?_; clear S a w; intro a w S
          obtain ⟨c8, h4⟩ := chk_of h3; clear h3
          refine s_iaddr S rfl rfl Tryd.underlying23 T22 c8.1 c8.2 (mul1 _ _) rfl ?_; clear S a; intro a S
          refine s_storei S (i := (wr .i64 (y21 + (wr .i64 (5 * (Int.tmod (wr .i64 ((wr .i64 (2 * y22)) + (wr .i64 (3 * y21)))) 5)))))) rfl rfl .here T22 .here rfl c8.1 c8.2 ?_; clear S w; intro w S
          refine c_end ?_
          refine c_region ?_
          refine s_move S rfl rfl ?_; clear S a; intro a S
          refine s_bin S rfl rfl rfl rfl ?_; clear S a; intro a S
          refine s_move S rfl rfl ?_; clear S a; intro a S
          refine s_bin S rfl rfl rfl rfl ?_; clear S a; intro a S
          refine s_bin S rfl rfl rfl rfl ?_; clear S a; intro a S
          refine s_rem S rfl rfl (by decide) rfl ?_; clear S a; intro a S
          refine s_assign S rfl rfl ?_; clear S a; intro a S
          refine c_end ?_
          refine c_region ?_
          refine s_move S rfl rfl ?_; clear S a; intro a S
          refine s_assign S rfl rfl ?_; clear S a; intro a S
          refine c_end ?_
          refine c_region' ?_
          refine s_move S rfl rfl ?_; clear S a; intro a S
          refine s_assign S rfl rfl ?_; clear S a; intro a S
          refine c_end' ?_
          refine x_blockN ?_
          refine x_thenN ?_
          refine c_region' ?_
          refine s_move S rfl rfl ?_; clear S a; intro a S
          refine s_bin S rfl rfl rfl rfl ?_; clear S a; intro a S
          refine s_assign S rfl rfl ?_; clear S a; intro a S
          refine c_end' ?_
          refine x_thenN ?_
          exact ⟨_, (wr .i64 (y20 + 1)), (Int.tmod (wr .i64 ((wr .i64 (2 * y22)) + (wr .i64 (3 * y21)))) 5), y21, g49, g50, g51, (y23.set (Int.toNat (wr .i64 (y21 + (wr .i64 (5 * (Int.tmod (wr .i64 ((wr .i64 (2 * y22)) + (wr .i64 (3 * y21)))) 5)))))) t1), (S.sub ⟨rfl, rfl, rfl, rfl, rfl, rfl, rfl, trivial⟩ (.cons .here (.cons .here (.cons .here .nil)))), h4⟩
        · refine c_condF S rfl c6 ?_
          refine wp_exit ?_
          refine x_thenX ?_
          refine x_thenX ?_
          refine x_blockX ?_
          refine x_thenN ?_
          exact j3 _ g49 g51 y23 a w (S.sub ⟨rfl, rfl, rfl, trivial⟩ (.cons .here (.cons (.there .here) .nil))) h1
    refine c_region ?_
    refine s_assign S rfl rfl ?_; clear S a; intro a S
    refine c_end ?_
    refine wp_block ?_
    refine c_loop (fun q4 a w => ∃ (m : Mem) (y28 : Int) (g68 : Nat) (g69 : Nat) (g70 : Nat) (g71 : Nat) (y29 : List Int), St 157 m (B0 mi w0) [(9, (.v (.int .i64 y28))), (8, (.v (.pointer (some ⟨g68, 0, none⟩)))), (5, (.v (.pointer (some ⟨g69, 0, none⟩)))), (4, (.v (.pointer (some ⟨g70, 0, none⟩)))), (2, (.v (.pointer (some ⟨g71, 0, none⟩)))), (1, (.v (.int .u64 x2)))] [Res.cells g68 23 [.ints .u64 y29 25], Res.cells g69 45 [.ints .u64 y1 5], Res.cells g70 23 [.ints .u64 [0, 0, 0, 0, 0, 0, 0, 0, 0, 0, 0, 0, 0, 0, 0, 0, 0, 0, 0, 0, 0, 0, 0, 0, 0] 25], Res.cells g71 23 [.ints .u64 x1 25]] a w ∧ smithyref05_Round.l4 k x1 x2 y1 q4 y28 y29 = some r) ?_ ?_ (k := k) ⟨_, 0, g7, g4, g5, g6, [0, 0, 0, 0, 0, 0, 0, 0, 0, 0, 0, 0, 0, 0, 0, 0, 0, 0, 0, 0, 0, 0, 0, 0, 0], (S.sub ⟨rfl, rfl, rfl, rfl, rfl, rfl, trivial⟩ (.cons .here (.cons .here (.cons .here (.cons .here .nil))))), h0⟩
    · rintro a w ⟨m, y28, g68, g69, g70, g71, y29, S, h0⟩
      exact (nomatch (show (none : Option (List Int)) = some r from h0))
    · clear S h0
      rintro q4 a w ⟨m, y28, g68, g69, g70, g71, y29, S, h0⟩
      replace h0 : smithyref05_Round.b4 k x1 x2 y1 (smithyref05_Round.l4 k x1 x2 y1 q4) y28 y29 = some r := h0
      delta smithyref05_Round.b4 at h0
      refine wp_seq ?_
      refine c_region ?_
      refine s_move S rfl rfl ?_; clear S a; intro a S
      refine s_bin S rfl rfl rfl rfl ?_; clear S a; intro a S
      refine c_end ?_
      rcases ite_of h0 with ⟨c9, h1⟩ | ⟨c9, h1⟩ <;> clear h0
      · refine c_condT S rfl c9 ?_
        refine wp_skip ?_
        refine x_thenN ?_
        refine wp_seq_k ?_
        intro K6 hK6
        have j6 : ∀ (m : Mem) (g72 : Nat) (g73 : Nat) (g74 : Nat) (g75 : Nat) (y30 : List Int) (a : Act) (w : World), St 157 m (B0 mi w0) [(9, (.v (.int .i64 y28))), (8, (.v (.pointer (some ⟨g72, 0, none⟩)))), (5, (.v (.pointer (some ⟨g73, 0, none⟩)))), (4, (.v (.pointer (some ⟨g74, 0, none⟩)))), (2, (.v (.pointer (some ⟨g75, 0, none⟩)))), (1, (.v (.int .u64 x2)))] [Res.cells g72 23 [.ints .u64 y30 25], Res.cells g73 45 [.ints .u64 y1 5], Res.cells g74 23 [.ints .u64 [0, 0, 0, 0, 0, 0, 0, 0, 0, 0, 0, 0, 0, 0, 0, 0, 0, 0, 0, 0, 0, 0, 0, 0, 0] 25], Res.cells g75 23 [.ints .u64 x1 25]] a w → smithyref05_Round.j6 y28 (smithyref05_Round.l4 k x1 x2 y1 q4) y30 = some r → K6 a w := by
          intro m g72 g73 g74 g75 y30 a w S h0
          delta smithyref05_Round.j6 at h0
          refine hK6 a w ?_
          refine c_region' ?_
          refine s_move S rfl rfl ?_; clear S a; intro a S
          refine s_bin S rfl rfl rfl rfl ?_; clear S a; intro a S
          refine s_assign S rfl rfl ?_; clear S a; intro a S
          refine c_end' ?_
          refine x_thenN ?_
          exact ⟨_, (wr .i64 (y28 + 1)), g72, g73, g74, g75, y30, (S.sub ⟨rfl, rfl, rfl, rfl, rfl, rfl, trivial⟩ (.cons .here (.cons .here (.cons .here (.cons .here .nil))))), h0⟩
        refine wp_block ?_
        refine c_region ?_
        refine s_assign S rfl rfl ?_; clear S a; intro a S
        refine c_end ?_
        refine wp_block ?_
        refine c_loop (fun q5 a w => ∃ (m : Mem) (y33 : Int) (g84 : Nat) (g85 : Nat) (g86 : Nat) (g87 : Nat) (y34 : List Int), St 157 m (B0 mi w0) [(10, (.v (.int .i64 y33))), (9, (.v (.int .i64 y28))), (8, (.v (.pointer (some ⟨g84, 0, none⟩)))), (5, (.v (.pointer (some ⟨g85, 0, none⟩)))), (4, (.v (.pointer (some ⟨g86, 0, none⟩)))), (2, (.v (.pointer (some ⟨g87, 0, none⟩)))), (1, (.v (.int .u64 x2)))] [Res.cells g84 23 [.ints .u64 y34 25], Res.cells g85 45 [.ints .u64 y1 5], Res.cells g86 23 [.ints .u64 [0, 0, 0, 0, 0, 0, 0, 0, 0, 0, 0, 0, 0, 0, 0, 0, 0, 0, 0, 0, 0, 0, 0, 0, 0] 25], Res.cells g87 23 [.ints .u64 x1 25]] a w ∧ smithyref05_Round.l5 x1 y1 y28 (smithyref05_Round.l4 k x1 x2 y1 q4) q5 y33 y34 = some r) ?_ ?_ (k := k) ⟨_, 0, g68, g69, g70, g71, y29, (S.sub ⟨rfl, rfl, rfl, rfl, rfl, rfl, rfl, trivial⟩ (.cons .here (.cons .here (.cons .here (.cons .here .nil))))), h1⟩
        · rintro a w ⟨m, y33, g84, g85, g86, g87, y34, S, h0⟩
          exact (nomatch (show (none : Option (List Int)) = some r from h0))
        · clear S h1
          rintro q5 a w ⟨m, y33, g84, g85, g86, g87, y34, S, h0⟩
          replace h0 : smithyref05_Round.b5 x1 y1 y28 (smithyref05_Round.l4 k x1 x2 y1 q4) (smithyref05_Round.l5 x1 y1 y28 (smithyref05_Round.l4 k x1 x2 y1 q4) q5) y33 y34 = some r := h0
          delta smithyref05_Round.b5 at h0
          refine wp_seq ?_
          refine c_region ?_
          refine s_move S rfl rfl ?_; clear S a; intro a S
          refine s_bin S rfl rfl rfl rfl ?_; clear S a; intro a S
          refine c_end ?_
          rcases ite_of h0 with ⟨c10, h1⟩ | ⟨c10, h1⟩ <;> clear h0
          · refine c_condT S rfl c10 ?_
            refine wp_skip ?_
            refine x_thenN ?_
            refine wp_seq ?_
            refine wp_block ?_
            refine c_heldS S (.take 0 (.take 1 (.take 2 (.take 3 (.take 4 (.take 5 (.take 6 (.take 7 (.take 8 (.take 9 (.take 10 (.take 11 (.take 12 (.take 13 (.take 14 (.take 15 (.take 16 (.take 17 (.take 18 (.take 19 (.take 20 (.alts (.run 21 true (.take 22 (.take 23 (.alts (.run 24 false .done .nil)))) .nil))))))))))))))))))))))) 24 [Res.cells g84 23 [.ints .u64 y34 25], Res.cells g85 45 [.ints .u64 y1 5], Res.cells g86 23 [.ints .u64 [0, 0, 0, 0, 0, 0, 0, 0, 0, 0, 0, 0, 0, 0, 0, 0, 0, 0, 0, 0, 0, 0, 0, 0, 0] 25], Res.cells g87 23 [.ints .u64 x1 25]] (.cons .here (.cons .here (.cons .here (.cons .here .nil)))) ⟨Res.stay_cells, Res.stay_cells, Res.stay_cells, Res.stay_cells, trivial⟩ [(10, (.v (.int .i64 y33))), (9, (.v (.int .i64 y28))), (8, (.v (.pointer (some ⟨g84, 0, none⟩)))), (5, (.v (.pointer (some ⟨g85, 0, none⟩)))), (2, (.v (.pointer (some ⟨g87, 0, none⟩))))] ⟨rfl, rfl, rfl, rfl, rfl, trivial⟩ (by kernel_rfl) (by kernel_rfl) ?_; clear S; intro w S CL hw le
            refine h_move S CL hw le ⟨rfl, rfl, rfl, rfl, rfl, trivial⟩ rfl rfl rfl trivial ?_; clear S CL a; intro a S CL
            refine h_move S CL hw le ⟨rfl, rfl, rfl, rfl, rfl, rfl, trivial⟩ rfl rfl rfl trivial ?_; clear S CL a; intro a S CL
            refine h_bin S CL hw le ⟨rfl, rfl, rfl, rfl, rfl, rfl, rfl, trivial⟩ rfl rfl rfl rfl rfl trivial ?_; clear S CL a; intro a S CL
            refine h_bin S CL hw le ⟨rfl, rfl, rfl, rfl, rfl, rfl, rfl, rfl, trivial⟩ rfl rfl rfl rfl rfl trivial ?_; clear S CL a; intro a S CL
            refine h_move S CL hw le ⟨rfl, rfl, rfl, rfl, rfl, rfl, rfl, rfl, rfl, trivial⟩ rfl rfl rfl trivial ?_; clear S CL a; intro a S CL
            refine h_move S CL hw le ⟨rfl, rfl, rfl, rfl, rfl, rfl, rfl, rfl, rfl, rfl, trivial⟩ rfl rfl rfl trivial ?_; clear S CL a; intro a S CL
            refine h_bin S CL hw le ⟨rfl, rfl, rfl, rfl, rfl, rfl, rfl, rfl, rfl, rfl, rfl, trivial⟩ rfl rfl rfl rfl rfl trivial ?_; clear S CL a; intro a S CL
            refine h_bin S CL hw le ⟨rfl, rfl, rfl, rfl, rfl, rfl, rfl, rfl, rfl, rfl, rfl, rfl, trivial⟩ rfl rfl rfl rfl rfl trivial ?_; clear S CL a; intro a S CL
            obtain ⟨c11, h2⟩ := chk_of h1; clear h1
            refine h_iaddr S CL hw le ⟨rfl, rfl, rfl, rfl, rfl, rfl, rfl, rfl, rfl, rfl, rfl, rfl, rfl, trivial⟩ rfl rfl Tryd.underlying23 T22 c11.1 c11.2 (mul1 _ _) rfl rfl trivial ?_; clear S CL a; intro a S CL
            refine h_loadi S CL hw le ⟨rfl, rfl, rfl, rfl, rfl, rfl, rfl, rfl, rfl, rfl, rfl, rfl, rfl, rfl, trivial⟩ (i := (wr .i64 (y28 + (wr .i64 (5 * y33))))) rfl (.there (.there (.there .here))) T22 .here rfl c11.1 c11.2 rfl rfl trivial ?_; clear S CL a; intro a S CL
            refine h_move S CL hw le ⟨rfl, rfl, rfl, rfl, rfl, rfl, rfl, rfl, rfl, rfl, rfl, rfl, rfl, rfl, rfl, trivial⟩ rfl rfl rfl trivial ?_; clear S CL a; intro a S CL
            refine h_bin S CL hw le ⟨rfl, rfl, rfl, rfl, rfl, rfl, rfl, rfl, rfl, rfl, rfl, rfl, rfl, rfl, rfl, rfl, trivial⟩ rfl rfl rfl rfl rfl trivial ?_; clear S CL a; intro a S CL
            refine h_rem S CL hw le ⟨rfl, rfl, rfl, rfl, rfl, rfl, rfl, rfl, rfl, rfl, rfl, rfl, rfl, rfl, rfl, rfl, rfl, trivial⟩ rfl rfl (by decide) rfl rfl trivial ?_; clear S CL a; intro a S CL
            obtain ⟨c12, h3⟩ := chk_of h2; clear h2
            refine h_iaddr S CL hw le ⟨rfl, rfl, rfl, rfl, rfl, rfl, rfl, rfl, rfl, rfl, rfl, rfl, rfl, rfl, rfl, rfl, rfl, rfl, trivial⟩ rfl rfl Tryd.underlying45 T22 c12.1 c12.2 (mul1 _ _) rfl rfl trivial ?_; clear S CL a; intro a S CL
            refine h_loadi S CL hw le ⟨rfl, rfl, rfl, rfl, rfl, rfl, rfl, rfl, rfl, rfl, rfl, rfl, rfl, rfl, rfl, rfl, rfl, rfl, rfl, trivial⟩ (i := (Int.tmod (wr .i64 (y28 + 4)) 5)) rfl (.there .here) T22 .here rfl c12.1 c12.2 rfl rfl trivial ?_; clear S CL a; intro a S CL
            refine h_bin S CL hw le ⟨rfl, rfl, rfl, rfl, rfl, rfl, rfl, rfl, rfl, rfl, rfl, rfl, rfl, rfl, rfl, rfl, rfl, rfl, rfl, rfl, trivial⟩ rfl rfl rfl rfl rfl trivial ?_; clear S CL a; intro a S CL
            refine h_move S CL hw le ⟨rfl, rfl, rfl, rfl, rfl, rfl, rfl, rfl, rfl, rfl, rfl, rfl, rfl, rfl, rfl, rfl, rfl, rfl, rfl, rfl, rfl, trivial⟩ rfl rfl rfl trivial ?_; clear S CL a; intro a S CL
            refine h_bin S CL hw le ⟨rfl, rfl, rfl, rfl, rfl, rfl, rfl, rfl, rfl, rfl, rfl, rfl, rfl, rfl, rfl, rfl, rfl, rfl, rfl, rfl, rfl, rfl, trivial⟩ rfl rfl rfl rfl rfl trivial ?_; clear S CL a; intro a S CL
            refine h_rem S CL hw le ⟨rfl, rfl, rfl, rfl, rfl, rfl, rfl, rfl, rfl, rfl, rfl, rfl, rfl, rfl, rfl, rfl, rfl, rfl, rfl, rfl, rfl, rfl, rfl, trivial⟩ rfl rfl (by decide) rfl rfl trivial ?_; clear S CL a; intro a S CL
            obtain ⟨c13, h4⟩ := chk_of h3; clear h3
            refine h_iaddr S CL hw le ⟨rfl, rfl, rfl, rfl, rfl, rfl, rfl, rfl, rfl, rfl, rfl, rfl, rfl, rfl, rfl, rfl, rfl, rfl, rfl, rfl, rfl, rfl, rfl, rfl, trivial⟩ rfl rfl Tryd.underlying45 T22 c13.1 c13.2 (mul1 _ _) rfl rfl trivial ?_; clear S CL a; intro a S CL
            refine h_loadi S CL hw le ⟨rfl, rfl, rfl, rfl, rfl, rfl, rfl, rfl, rfl, rfl, rfl, rfl, rfl, rfl, rfl, rfl, rfl, rfl, rfl, rfl, rfl, rfl, rfl, rfl, rfl, trivial⟩ (i := (Int.tmod (wr .i64 (y28 + 1)) 5)) rfl (.there .here) T22 .here rfl c13.1 c13.2 rfl rfl trivial ?_; clear S CL a; intro a S CL
            refine h_run' S rfl trivial ?_
            obtain ⟨t4, et4, h5⟩ := bind_of h4; clear h4
            refine s_call S (ds := [(.v (.int .u64 (rd y1 (Int.tmod (wr .i64 (y28 + 1)) 5)))), (.v (.int .i64 1))]) (d := (.v (.int .u64 t4))) N21 rfl rfl (smithyref05_up.ok (rd y1 (Int.tmod (wr .i64 (y28 + 1)) 5)) 1 t4 et4 _ _) ?_; clear S a; intro a w S
            replace hw := CL.again hw S (.cons .here (.cons .here (.cons .here (.cons .here .nil)))) le
            refine h_back ⟨fun _ => hw, ?_⟩
            replace CL := CL.add (t := 70) (d := (.v (.int .u64 t4))) S rfl rfl
            refine h_bin S CL hw le ⟨rfl, rfl, rfl, rfl, rfl, rfl, rfl, rfl, rfl, rfl, rfl, rfl, rfl, rfl, rfl, rfl, rfl, rfl, rfl, rfl, rfl, rfl, rfl, rfl, rfl, rfl, rfl, trivial⟩ rfl rfl rfl rfl rfl trivial ?_; clear S CL a; intro a S CL
            refine h_iaddr S CL hw le ⟨rfl, rfl, rfl, rfl, rfl, rfl, rfl, rfl, rfl, rfl, rfl, rfl, rfl, rfl, rfl, rfl, rfl, rfl, rfl, rfl, rfl, rfl, rfl, rfl, rfl, rfl, rfl, rfl, trivial⟩ rfl rfl Tryd.underlying23 T22 c11.1 c11.2 (mul1 _ _) rfl rfl trivial ?_; clear S CL a; intro a S CL
            refine h_run' S rfl trivial ?_
            refine s_storei S (i := (wr .i64 (y28 + (wr .i64 (5 * y33))))) rfl rfl .here T22 .here rfl c11.1 c11.2 ?_; clear S; intro w S
            refine h_back ⟨fun h => (nomatch h), ?_⟩
            refine h_done ?_; clear CL hw le
            refine x_blockN ?_
            refine x_thenN ?_
            refine c_region' ?_
            refine s_move S rfl rfl ?_; clear S a; intro a S
            refine s_bin S rfl rfl rfl rfl ?_; clear S a; intro a S
            refine s_assign S rfl rfl ?_; clear S a; intro a S
            refine c_end' ?_
            refine x_thenN ?_
            exact ⟨_, (wr .i64 (y33 + 1)), g84, g85, g86, g87, (y34.set (Int.toNat (wr .i64 (y28 + (wr .i64 (5 * y33))))) (bits .xor .u64 (bits .xor .u64 (rd x1 (wr .i64 (y28 + (wr .i64 (5 * y33))))) (rd y1 (Int.tmod (wr .i64 (y28 + 4)) 5))) t4)), (S.sub ⟨rfl, rfl, rfl, rfl, rfl, rfl, rfl, trivial⟩ (.cons .here (.cons .here (.cons .here (.cons .here .nil))))), h5⟩
          · refine c_condF S rfl c10 ?_
            refine wp_exit ?_
            refine x_thenX ?_
            refine x_thenX ?_
            refine x_blockX ?_
            refine x_blockN ?_
            refine x_thenN ?_
            exact j6 _ g84 g85 g86 g87 y34 a w (S.sub ⟨rfl, rfl, rfl, rfl, rfl, rfl, trivial⟩ (.cons .here (.cons .here (.cons .here (.cons .here .nil))))) h1
      · refine c_condF S rfl c9 ?_
        refine wp_exit ?_
        refine x_thenX ?_
        refine x_thenX ?_
        refine x_blockX ?_
        refine x_thenN ?_
        exact j2 _ g68 g70 y29 a w (S.sub ⟨rfl, rfl, rfl, trivial⟩ (.cons .here (.cons (.there .here) .nil))) h1
  refine c_region ?_
  refine s_assign S rfl rfl ?_; clear S a; intro a S
  refine c_end ?_
  refine wp_block ?_
  refine c_loop (fun q6 a w => ∃ (m : Mem) (y39 : Int) (g100 : Nat) (g101 : Nat) (g102 : Nat) (y40 : List Int), St 157 m (B0 mi w0) [(6, (.v (.int .i64 y39))), (5, (.v (.pointer (some ⟨g100, 0, none⟩)))), (4, (.v (.pointer (some ⟨g101, 0, none⟩)))), (2, (.v (.pointer (some ⟨g102, 0, none⟩)))), (1, (.v (.int .u64 x2)))] [Res.cells g100 45 [.ints .u64 y40 5], Res.cells g101 23 [.ints .u64 [0, 0, 0, 0, 0, 0, 0, 0, 0, 0, 0, 0, 0, 0, 0, 0, 0, 0, 0, 0, 0, 0, 0, 0, 0] 25], Res.cells g102 23 [.ints .u64 x1 25]] a w ∧ smithyref05_Round.l6 k x1 x2 q6 y39 y40 = some r) ?_ ?_ (k := k) ⟨_, 0, g3, g2, g1, [0, 0, 0, 0, 0], (S.sub ⟨rfl, rfl, rfl, rfl, rfl, trivial⟩ (.cons .here (.cons .here (.cons .here .nil)))), h0⟩
  · rintro a w ⟨m, y39, g100, g101, g102, y40, S, h0⟩
    exact (nomatch (show (none : Option (List Int)) = some r from h0))
  · clear S h0
    rintro q6 a w ⟨m, y39, g100, g101, g102, y40, S, h0⟩
    replace h0 : smithyref05_Round.b6 k x1 x2 (smithyref05_Round.l6 k x1 x2 q6) y39 y40 = some r := h0
    delta smithyref05_Round.b6 at h0
    refine wp_seq ?_
    refine c_region ?_
    refine s_move S rfl rfl ?_; clear S a; intro a S
    refine s_bin S rfl rfl rfl rfl ?_; clear S a; intro a S
    refine c_end ?_
    rcases ite_of h0 with ⟨c14, h1⟩ | ⟨c14, h1⟩ <;> clear h0
    · refine c_condT S rfl c14 ?_
      refine wp_skip ?_
      refine x_thenN ?_
      refine wp_seq_k ?_
      intro K7 hK7
      have j7 : ∀ (m : Mem) (g103 : Nat) (g104 : Nat) (g105 : Nat) (y41 : List Int) (a : Act) (w : World), St 157 m (B0 mi w0) [(6, (.v (.int .i64 y39))), (5, (.v (.pointer (some ⟨g103, 0, none⟩)))), (4, (.v (.pointer (some ⟨g104, 0, none⟩)))), (2, (.v (.pointer (some ⟨g105, 0, none⟩)))), (1, (.v (.int .u64 x2)))] [Res.cells g103 45 [.ints .u64 y41 5], Res.cells g104 23 [.ints .u64 [0, 0, 0, 0, 0, 0, 0, 0, 0, 0, 0, 0, 0, 0, 0, 0, 0, 0, 0, 0, 0, 0, 0, 0, 0] 25], Res.cells g105 23 [.ints .u64 x1 25]] a w → smithyref05_Round.j7 y39 (smithyref05_Round.l6 k x1 x2 q6) y41 = some r → K7 a w := by
        intro m g103 g104 g105 y41 a w S h0
        delta smithyref05_Round.j7 at h0
        refine hK7 a w ?_
        refine c_region' ?_
        refine s_move S rfl rfl ?_; clear S a; intro a S
        refine s_bin S rfl rfl rfl rfl ?_; clear S a; intro a S
        refine s_assign S rfl rfl ?_; clear S a; intro a S
        refine c_end' ?_
        refine x_thenN ?_
        exact ⟨_, (wr .i64 (y39 + 1)), g103, g104, g105, y41, (S.sub ⟨rfl, rfl, rfl, rfl, rfl, trivial⟩ (.cons .here (.cons .here (.cons .here .nil)))), h0⟩
      refine wp_block ?_
      refine c_region ?_
      refine s_assign S rfl rfl ?_; clear S a; intro a S
      refine c_end ?_
      refine wp_block ?_
      refine c_loop (fun q7 a w => ∃ (m : Mem) (y44 : Int) (g112 : Nat) (g113 : Nat) (g114 : Nat) (y45 : List Int), St 157 m (B0 mi w0) [(7, (.v (.int .i64 y44))), (6, (.v (.int .i64 y39))), (5, (.v (.pointer (some ⟨g112, 0, none⟩)))), (4, (.v (.pointer (some ⟨g113, 0, none⟩)))), (2, (.v (.pointer (some ⟨g114, 0, none⟩)))), (1, (.v (.int .u64 x2)))] [Res.cells g112 45 [.ints .u64 y45 5], Res.cells g113 23 [.ints .u64 [0, 0, 0, 0, 0, 0, 0, 0, 0, 0, 0, 0, 0, 0, 0, 0, 0, 0, 0, 0, 0, 0, 0, 0, 0] 25], Res.cells g114 23 [.ints .u64 x1 25]] a w ∧ smithyref05_Round.l7 x1 y39 (smithyref05_Round.l6 k x1 x2 q6) q7 y44 y45 = some r) ?_ ?_ (k := k) ⟨_, 0, g100, g101, g102, y40, (S.sub ⟨rfl, rfl, rfl, rfl, rfl, rfl, trivial⟩ (.cons .here (.cons .here (.cons .here .nil)))), h1⟩
      · rintro a w ⟨m, y44, g112, g113, g114, y45, S, h0⟩
        exact (nomatch (show (none : Option (List Int)) = some r from h0))
      · clear S h1
        rintro q7 a w ⟨m, y44, g112, g113, g114, y45, S, h0⟩
        replace h0 : smithyref05_Round.b7 x1 y39 (smithyref05_Round.l6 k x1 x2 q6) (smithyref05_Round.l7 x1 y39 (smithyref05_Round.l6 k x1 x2 q6) q7) y44 y45 = some r := h0
        delta smithyref05_Round.b7 at h0
        refine wp_seq ?_
        refine c_region ?_
        refine s_move S rfl rfl ?_; clear S a; intro a S
        refine s_bin S rfl rfl rfl rfl ?_; clear S a; intro a S
        refine c_end ?_
        rcases ite_of h0 with ⟨c15, h1⟩ | ⟨c15, h1⟩ <;> clear h0
        · refine c_condT S rfl c15 ?_
          refine wp_skip ?_
          refine x_thenN ?_
          refine wp_seq ?_
          refine wp_block ?_
          refine c_heldS S (.take 0 (.take 1 (.take 2 (.take 3 (.take 4 (.take 5 (.take 6 (.take 7 (.take 8 (.take 9 (.take 10 (.take 11 (.alts (.run 12 false .done .nil)))))))))))))) 12 [Res.cells g112 45 [.ints .u64 y45 5], Res.cells g113 23 [.ints .u64 [0, 0, 0, 0, 0, 0, 0, 0, 0, 0, 0, 0, 0, 0, 0, 0, 0, 0, 0, 0, 0, 0, 0, 0, 0] 25], Res.cells g114 23 [.ints .u64 x1 25]] (.cons .here (.cons .here (.cons .here .nil))) ⟨Res.stay_cells, Res.stay_cells, Res.stay_cells, trivial⟩ [(7, (.v (.int .i64 y44))), (6, (.v (.int .i64 y39))), (5, (.v (.pointer (some ⟨g112, 0, none⟩)))), (2, (.v (.pointer (some ⟨g114, 0, none⟩))))] ⟨rfl, rfl, rfl, rfl, trivial⟩ (by kernel_rfl) (by kernel_rfl) ?_; clear S; intro w S CL hw le
          refine h_move S CL hw le ⟨rfl, rfl, rfl, rfl, trivial⟩ rfl rfl rfl trivial ?_; clear S CL a; intro a S CL
          refine h_move S CL hw le ⟨rfl, rfl, rfl, rfl, rfl, trivial⟩ rfl rfl rfl trivial ?_; clear S CL a; intro a S CL
          obtain ⟨c16, h2⟩ := chk_of h1; clear h1
          refine h_iaddr S CL hw le ⟨rfl, rfl, rfl, rfl, rfl, rfl, trivial⟩ rfl rfl Tryd.underlying45 T22 c16.1 c16.2 (mul1 _ _) rfl rfl trivial ?_; clear S CL a; intro a S CL
          refine h_loadi S CL hw le ⟨rfl, rfl, rfl, rfl, rfl, rfl, rfl, trivial⟩ (i := y39) rfl .here T22 .here rfl c16.1 c16.2 rfl rfl trivial ?_; clear S CL a; intro a S CL
          refine h_move S CL hw le ⟨rfl, rfl, rfl, rfl, rfl, rfl, rfl, rfl, trivial⟩ rfl rfl rfl trivial ?_; clear S CL a; intro a S CL
          refine h_move S CL hw le ⟨rfl, rfl, rfl, rfl, rfl, rfl, rfl, rfl, rfl, trivial⟩ rfl rfl rfl trivial ?_; clear S CL a; intro a S CL
          refine h_bin S CL hw le ⟨rfl, rfl, rfl, rfl, rfl, rfl, rfl, rfl, rfl, rfl, trivial⟩ rfl rfl rfl rfl rfl trivial ?_; clear S CL a; intro a S CL
          refine h_bin S CL hw le ⟨rfl, rfl, rfl, rfl, rfl, rfl, rfl, rfl, rfl, rfl, rfl, trivial⟩ rfl rfl rfl rfl rfl trivial ?_; clear S CL a; intro a S CL
          obtain ⟨c17, h3⟩ := chk_of h2; clear h2
          refine h_iaddr S CL hw le ⟨rfl, rfl, rfl, rfl, rfl, rfl, rfl, rfl, rfl, rfl, rfl, rfl, trivial⟩ rfl rfl Tryd.underlying23 T22 c17.1 c17.2 (mul1 _ _) rfl rfl trivial ?_; clear S CL a; intro a S CL
          refine h_loadi S CL hw le ⟨rfl, rfl, rfl, rfl, rfl, rfl, rfl, rfl, rfl, rfl, rfl, rfl, rfl, trivial⟩ (i := (wr .i64 (y39 + (wr .i64 (5 * y44))))) rfl (.there (.there .here)) T22 .here rfl c17.1 c17.2 rfl rfl trivial ?_; clear S CL a; intro a S CL
          refine h_bin S CL hw le ⟨rfl, rfl, rfl, rfl, rfl, rfl, rfl, rfl, rfl, rfl, rfl, rfl, rfl, rfl, trivial⟩ rfl rfl rfl rfl rfl trivial ?_; clear S CL a; intro a S CL
          refine h_iaddr S CL hw le ⟨rfl, rfl, rfl, rfl, rfl, rfl, rfl, rfl, rfl, rfl, rfl, rfl, rfl, rfl, rfl, trivial⟩ rfl rfl Tryd.underlying45 T22 c16.1 c16.2 (mul1 _ _) rfl rfl trivial ?_; clear S CL a; intro a S CL
          refine h_run' S rfl trivial ?_
          refine s_storei S (i := y39) rfl rfl .here T22 .here rfl c16.1 c16.2 ?_; clear S; intro w S
          refine h_back ⟨fun h => (nomatch h), ?_⟩
          refine h_done ?_; clear CL hw le
          refine x_blockN ?_
          refine x_thenN ?_
          refine c_region' ?_
          refine s_move S rfl rfl ?_; clear S a; intro a S
          refine s_bin S rfl rfl rfl rfl ?_; clear S a; intro a S
          refine s_assign S rfl rfl ?_; clear S a; intro a S
          refine c_end' ?_
          refine x_thenN ?_
          exact ⟨_, (wr .i64 (y44 + 1)), g112, g113, g114, (y45.set (Int.toNat y39) (bits .xor .u64 (rd y45 y39) (rd x1 (wr .i64 (y39 + (wr .i64 (5 * y44))))))), (S.sub ⟨rfl, rfl, rfl, rfl, rfl, rfl, trivial⟩ (.cons .here (.cons .here (.cons .here .nil)))), h3⟩
        · refine c_condF S rfl c15 ?_
          refine wp_exit ?_
          refine x_thenX ?_
          refine x_thenX ?_
          refine x_blockX ?_
          refine x_blockN ?_
          refine x_thenN ?_
          exact j7 _ g112 g113 g114 y45 a w (S.sub ⟨rfl, rfl, rfl, rfl, rfl, trivial⟩ (.cons .here (.cons .here (.cons .here .nil)))) h1
    · refine c_condF S rfl c14 ?_
      refine wp_exit ?_
      refine x_thenX ?_
      refine x_thenX ?_
      refine x_blockX ?_
      refine x_thenN ?_
      exact j1 _ g100 g101 g102 y40 a w (S.sub ⟨rfl, rfl, rfl, rfl, trivial⟩ (.cons .here (.cons .here (.cons .here .nil)))) h1
/-! smithy/smithyref05.Turn -/
def smithyref05_Turn.j1 (y1 : List Int) : Option (List Int) := some y1
def smithyref05_Turn.b1 (k : Nat) (t1 : List Int) (rec1 : Int → (List Int) → Option (List Int)) (y4 : Int) (y5 : List Int) : Option (List Int) := if (decide (y4 < 24)) = true then (if 0 ≤ y4 ∧ y4 < 24 then ((smithyref05_Round.f k y5 (rd t1 y4)).bind fun t4 => (rec1 (wr .i64 (y4 + 1)) t4)) else none) else (smithyref05_Turn.j1 y5)
def smithyref05_Turn.l1 (k : Nat) (t1 : List Int) : Nat → Int → (List Int) → Option (List Int)
  | 0, _, _ => none
  | q + 1, y4, y5 => smithyref05_Turn.b1 k t1 (smithyref05_Turn.l1 k t1 q) y4 y5
def smithyref05_Turn.f (k : Nat) (x1 : List Int) : Option (List Int) := (smithyref05_Constants.f k).bind fun t1 => (smithyref05_Turn.l1 k t1 k 0 x1)
theorem smithyref05_Turn.ok (k : Nat) (x1 : List Int) (r : List Int) (h0 : smithyref05_Turn.f k x1 = some r) (mi : Mem) (w0 : World) : okL mi [(.agg [.ints .u64 x1 25])] → Frz mi w0 → Calls Tryd.prog 8 (([(.agg [.ints .u64 x1 25])] : List D).map D.val).toArray w0 (Ret mi (.agg [.ints .u64 r 25]) w0) := by
  intro ok hm
  delta smithyref05_Turn.f at h0
  refine c_enter (n := 16) [(.agg [.ints .u64 x1 25])] (l := [(0, (.agg [.ints .u64 x1 25]))]) Tryd.func8 rfl rfl rfl rfl ok hm ?_
  clear ok hm
  intro a S
  refine c_region ?_
  refine s_box S rfl rfl rfl ?_; clear S a; intro g1 a w S
  refine s_alloc S Z23 rfl ⟨rfl, trivial⟩ rfl ?_; clear S a w; intro g2 a w S
  refine c_end ?_
  refine c_region ?_
  obtain ⟨t1, et1, h1⟩ := bind_of h0; clear h0
  refine s_call S (ds := []) (d := (.agg [.ints .u64 t1 24])) N14 rfl rfl (smithyref05_Constants.ok k t1 et1 _ _) ?_; clear S a w; intro a w S
  refine s_alloc S Z36 rfl ⟨rfl, trivial⟩ rfl ?_; clear S a w; intro g3 a w S
  refine s_store S rfl rfl rfl (s' := [.ints .u64 t1 24]) .here T36 rfl rfl ?_; clear S w; intro w S
  refine c_end ?_
  refine wp_seq_k ?_
  intro K1 hK1
  have j1 : ∀ (m : Mem) (g4 : Nat) (g5 : Nat) (y1 : List Int) (a : Act) (w : World), St 16 m (B0 mi w0) [(2, (.v (.pointer (some ⟨g4, 0, none⟩)))), (1, (.v (.pointer (some ⟨g5, 0, none⟩))))] [Res.cells g4 23 [.ints .u64 [0, 0, 0, 0, 0, 0, 0, 0, 0, 0, 0, 0, 0, 0, 0, 0, 0, 0, 0, 0, 0, 0, 0, 0, 0] 25], Res.cells g5 23 [.ints .u64 y1 25]] a w → smithyref05_Turn.j1 y1 = some r → K1 a w := by
    intro m g4 g5 y1 a w S h0
    delta smithyref05_Turn.j1 at h0
    refine hK1 a w ?_
    refine c_region ?_
    refine s_loada S rfl (.there .here) T23 (s' := [.ints .u64 y1 25]) rfl rfl ?_; clear S a; intro a S
    refine s_store S rfl rfl rfl (s' := [.ints .u64 y1 25]) .here T23 rfl rfl ?_; clear S w; intro w S
    refine c_end ?_
    refine wp_ret ?_
    obtain rfl := Option.some.inj h0
    exact b_ret1 (d := (.agg [.ints .u64 y1 25])) S rfl (resD_cell rfl .here T23 rfl rfl) fun ok => ⟨rfl, ok, S.below0⟩
  refine c_region ?_
  refine s_assign S rfl rfl ?_; clear S a; intro a S
  refine c_end ?_
  refine wp_block ?_
  refine c_loop (fun q1 a w => ∃ (m : Mem) (y4 : Int) (g12 : Nat) (g13 : Nat) (g14 : Nat) (y5 : List Int), St 16 m (B0 mi w0) [(4, (.v (.int .i64 y4))), (3, (.v (.pointer (some ⟨g12, 0, none⟩)))), (2, (.v (.pointer (some ⟨g13, 0, none⟩)))), (1, (.v (.pointer (some ⟨g14, 0, none⟩))))] [Res.cells g12 36 [.ints .u64 t1 24], Res.cells g13 23 [.ints .u64 [0, 0, 0, 0, 0, 0, 0, 0, 0, 0, 0, 0, 0, 0, 0, 0, 0, 0, 0, 0, 0, 0, 0, 0, 0] 25], Res.cells g14 23 [.ints .u64 y5 25]] a w ∧ smithyref05_Turn.l1 k t1 q1 y4 y5 = some r) ?_ ?_ (k := k) ⟨_, 0, g3, g2, g1, x1, (S.sub ⟨rfl, rfl, rfl, rfl, trivial⟩ (.cons .here (.cons .here (.cons .here .nil)))), h1⟩
  · rintro a w ⟨m, y4, g12, g13, g14, y5, S, h0⟩
    exact (nomatch (show (none : Option (List Int)) = some r from h0))
  · clear S h1
    rintro q1 a w ⟨m, y4, g12, g13, g14, y5, S, h0⟩
    replace h0 : smithyref05_Turn.b1 k t1 (smithyref05_Turn.l1 k t1 q1) y4 y5 = some r := h0
    delta smithyref05_Turn.b1 at h0
    refine wp_seq ?_
    refine c_region ?_
    refine s_move S rfl rfl ?_; clear S a; intro a S
    refine s_bin S rfl rfl rfl rfl ?_; clear S a; intro a S
    refine c_end ?_
    rcases ite_of h0 with ⟨c1, h1⟩ | ⟨c1, h1⟩ <;> clear h0
    · refine c_condT S rfl c1 ?_
      refine wp_skip ?_
      refine x_thenN ?_
      refine wp_seq ?_
      refine wp_block ?_
      refine c_heldS S (.take 0 (.take 1 (.take 2 (.take 3 (.alts (.run 4 true (.alts (.run 5 false .done .nil)) .nil)))))) 5 [Res.cells g12 36 [.ints .u64 t1 24], Res.cells g13 23 [.ints .u64 [0, 0, 0, 0, 0, 0, 0, 0, 0, 0, 0, 0, 0, 0, 0, 0, 0, 0, 0, 0, 0, 0, 0, 0, 0] 25], Res.cells g14 23 [.ints .u64 y5 25]] (.cons .here (.cons .here (.cons .here .nil))) ⟨Res.stay_cells, Res.stay_cells, Res.stay_cells, trivial⟩ [(4, (.v (.int .i64 y4))), (3, (.v (.pointer (some ⟨g12, 0, none⟩)))), (1, (.v (.pointer (some ⟨g14, 0, none⟩))))] ⟨rfl, rfl, rfl, trivial⟩ (by kernel_rfl) (by kernel_rfl) ?_; clear S; intro w S CL hw le
      refine h_loada S CL hw le ⟨rfl, rfl, rfl, trivial⟩ rfl (.there (.there .here)) T23 (s' := [.ints .u64 y5 25]) rfl rfl rfl trivial ?_; clear S CL a; intro a S CL
      refine h_move S CL hw le ⟨rfl, rfl, rfl, rfl, trivial⟩ rfl rfl rfl trivial ?_; clear S CL a; intro a S CL
      obtain ⟨c2, h2⟩ := chk_of h1; clear h1
      refine h_iaddr S CL hw le ⟨rfl, rfl, rfl, rfl, rfl, trivial⟩ rfl rfl Tryd.underlying36 T22 c2.1 c2.2 (mul1 _ _) rfl rfl trivial ?_; clear S CL a; intro a S CL
      refine h_loadi S CL hw le ⟨rfl, rfl, rfl, rfl, rfl, rfl, trivial⟩ (i := y4) rfl .here T22 .here rfl c2.1 c2.2 rfl rfl trivial ?_; clear S CL a; intro a S CL
      refine h_run' S rfl trivial ?_
      obtain ⟨t4, et4, h3⟩ := bind_of h2; clear h2
      refine s_call S (ds := [(.agg [.ints .u64 y5 25]), (.v (.int .u64 (rd t1 y4)))]) (d := (.agg [.ints .u64 t4 25])) N15 rfl rfl (smithyref05_Round.ok k y5 (rd t1 y4) t4 et4 _ _) ?_; clear S a; intro a w S
      replace hw := CL.again hw S (.cons .here (.cons .here (.cons .here .nil))) le
      refine h_back ⟨fun _ => hw, ?_⟩
      refine h_run' S rfl trivial ?_
      refine s_store S rfl rfl rfl (s' := [.ints .u64 t4 25]) (.there (.there .here)) T23 rfl rfl ?_; clear S; intro w S
      refine h_back ⟨fun h => (nomatch h), ?_⟩
      refine h_done ?_; clear CL hw le
      refine x_blockN ?_
      refine x_thenN ?_
      refine c_region' ?_
      refine s_move S rfl rfl ?_; clear S a; intro a S
      refine s_bin S rfl rfl rfl rfl ?_; clear S a; intro a S
      refine s_assign S rfl rfl ?_; clear S a; intro a S
      refine c_end' ?_
      refine x_thenN ?_
      exact ⟨_, (wr .i64 (y4 + 1)), g12, g13, g14, t4, (S.sub ⟨rfl, rfl, rfl, rfl, trivial⟩ (.cons .here (.cons .here (.cons .here .nil)))), h3⟩
    · refine c_condF S rfl c1 ?_
      refine wp_exit ?_
      refine x_thenX ?_
      refine x_thenX ?_
      refine x_blockX ?_
      refine x_thenN ?_
      exact j1 _ g13 g14 y5 a w (S.sub ⟨rfl, rfl, trivial⟩ (.cons (.there .here) (.cons (.there .here) .nil))) h1
/-! smithy/smithylaw05.KeccakTurns -/
def smithylaw05_KeccakTurns.f (k : Nat) (x1 : List Int) : Option Bool := (smithylaw05_fixed.f k).bind fun t1 => (if t1 = true then ((keccak_Turn.f k x1).bind fun t2 => ((smithyref05_Turn.f k x1).bind fun t3 => (some (decide (t2 = t3))))) else (some false))
theorem smithylaw05_KeccakTurns.ok (k : Nat) (x1 : List Int) (r : Bool) (h0 : smithylaw05_KeccakTurns.f k x1 = some r) (mi : Mem) (w0 : World) (G : Glob mi) : okL mi [(.agg [.ints .u64 x1 25])] → Frz mi w0 → Calls Tryd.prog 3 (([(.agg [.ints .u64 x1 25])] : List D).map D.val).toArray w0 (Ret mi (.v (.bool r)) w0) := by
  intro ok hm
  delta smithylaw05_KeccakTurns.f at h0
  refine c_enter (n := 11) [(.agg [.ints .u64 x1 25])] (l := [(0, (.agg [.ints .u64 x1 25]))]) Tryd.func3 rfl rfl rfl rfl ok hm ?_
  clear ok hm
  intro a S
  refine c_region ?_
  refine s_box S rfl rfl rfl ?_; clear S a; intro g1 a w S
  refine s_assign S rfl rfl ?_; clear S a; intro a S
  refine c_end ?_
  refine wp_seq (c_heldS S (.alts (.run 0 true (.take 1 (.take 2 (.take 4 (.alts (.run 3 true (.alts (.run 5 true (.take 6 (.take 7 (.take 8 .done))) .nil)) .nil))))) .nil)) 9 [Res.cells g1 23 [.ints .u64 x1 25]] (.cons .here .nil) ⟨Res.stay_cells, trivial⟩ [(1, (.v (.pointer (some ⟨g1, 0, none⟩))))] ⟨rfl, trivial⟩ (by kernel_rfl) (by kernel_rfl) ?_); clear S; intro w S CL hw le
  refine h_run' S rfl trivial ?_
  obtain ⟨t1, et1, h1⟩ := bind_of h0; clear h0
  refine s_call S (ds := []) (d := (.v (.bool t1))) N6 rfl rfl (smithylaw05_fixed.ok k t1 et1 _ _ (G.mono S.le)) ?_; clear S a; intro a w S
  replace hw := CL.again hw S (.cons .here .nil) le
  refine h_back ⟨fun _ => hw, ?_⟩
  replace CL := CL.add (t := 3) (d := (.v (.bool t1))) S rfl rfl
  refine h_move S CL hw le ⟨rfl, rfl, trivial⟩ rfl rfl rfl trivial ?_; clear S CL a; intro a S CL
  rcases ite_of h1 with ⟨c1, h2⟩ | ⟨c1, h2⟩ <;> clear h1
  · refine h_loada S CL hw le ⟨rfl, rfl, rfl, trivial⟩ rfl .here T23 (s' := [.ints .u64 x1 25]) rfl rfl rfl ⟨_, _, rfl, rfl, c1⟩ ?_; clear S CL a; intro a S CL
    refine h_loada S CL hw le ⟨rfl, rfl, rfl, rfl, trivial⟩ rfl .here T23 (s' := [.ints .u64 x1 25]) rfl rfl rfl ⟨_, _, rfl, rfl, c1⟩ ?_; clear S CL a; intro a S CL
    refine h_run' S rfl ⟨_, _, rfl, rfl, c1⟩ ?_
    obtain ⟨t2, et2, h3⟩ := bind_of h2; clear h2
    refine s_call S (ds := [(.agg [.ints .u64 x1 25])]) (d := (.agg [.ints .u64 t2 25])) N7 rfl rfl (keccak_Turn.ok k x1 t2 et2 _ _ (G.mono S.le)) ?_; clear S a; intro a w S
    replace hw := CL.again hw S (.cons .here .nil) le
    refine h_back ⟨fun _ => hw, ?_⟩
    replace CL := CL.add (t := 6) (d := (.agg [.ints .u64 t2 25])) S rfl rfl
    refine h_run' S rfl ⟨_, _, rfl, rfl, c1⟩ ?_
    obtain ⟨t3, et3, h4⟩ := bind_of h3; clear h3
    refine s_call S (ds := [(.agg [.ints .u64 x1 25])]) (d := (.agg [.ints .u64 t3 25])) N8 rfl rfl (smithyref05_Turn.ok k x1 t3 et3 _ _) ?_; clear S a; intro a w S
    replace hw := CL.again hw S (.cons .here .nil) le
    refine h_back ⟨fun _ => hw, ?_⟩
    replace CL := CL.add (t := 8) (d := (.agg [.ints .u64 t3 25])) S rfl rfl
    refine h_eqa S CL hw le ⟨rfl, rfl, rfl, rfl, rfl, rfl, rfl, trivial⟩ rfl rfl Tryd.underlying23 Tryd.underlying22 T22 Q23 rfl rfl ⟨_, _, rfl, rfl, c1⟩ ?_; clear S CL a; intro a S CL
    refine h_pick S CL hw le ⟨rfl, rfl, rfl, rfl, rfl, rfl, rfl, rfl, trivial⟩ (b := true) (hc_of rfl c1) rfl rfl rfl trivial ?_; clear S CL a; intro a S CL
    refine h_assign S CL hw le ⟨rfl, rfl, rfl, rfl, rfl, rfl, rfl, rfl, rfl, trivial⟩ rfl rfl rfl trivial ?_; clear S CL a; intro a S CL
    refine h_done ?_; clear CL hw le
    refine x_thenN ?_
    refine wp_ret ?_
    obtain rfl := Option.some.inj h4
    exact b_ret1 (d := (.v (.bool (decide (t2 = t3))))) S rfl rfl fun ok => ⟨rfl, ok, S.below0⟩
  · refine h_skip S CL rfl rfl rfl (ne_bool c1) rfl ?_; clear S CL a; intro a S CL
    refine h_skip S CL rfl rfl rfl (ne_bool c1) rfl ?_; clear S CL a; intro a S CL
    refine h_skipRt S rfl rfl rfl (ne_bool c1) rfl ?_; clear S a; intro a S
    replace hw := CL.again hw S (.cons .here .nil) le
    refine h_back ⟨fun _ => hw, ?_⟩
    replace CL := CL.add (t := 6) (d := .u) S rfl rfl
    refine h_skipRt S rfl rfl rfl (ne_bool c1) rfl ?_; clear S a; intro a S
    replace hw := CL.again hw S (.cons .here .nil) le
    refine h_back ⟨fun _ => hw, ?_⟩
    replace CL := CL.add (t := 8) (d := .u) S rfl rfl
    refine h_skip S CL rfl rfl rfl (ne_bool c1) rfl ?_; clear S CL a; intro a S CL
    refine h_pick S CL hw le ⟨rfl, rfl, rfl, rfl, rfl, rfl, rfl, rfl, trivial⟩ (b := false) (hc_of rfl c1) rfl rfl rfl trivial ?_; clear S CL a; intro a S CL
    refine h_assign S CL hw le ⟨rfl, rfl, rfl, rfl, rfl, rfl, rfl, rfl, rfl, trivial⟩ rfl rfl rfl trivial ?_; clear S CL a; intro a S CL
    refine h_done ?_; clear CL hw le
    refine x_thenN ?_
    refine wp_ret ?_
    obtain rfl := Option.some.inj h2
    exact b_ret1 (d := (.v (.bool false))) S rfl rfl fun ok => ⟨rfl, ok, S.below0⟩
/-! smithy/smithyref05.Sum -/
def smithyref05_Sum.j3 (y3 : List Int) : Option (List Int) := some y3
def smithyref05_Sum.b1 (y2 : List Int) (rec1 : Int → (List Int) → Option (List Int)) (y6 : Int) (y7 : List Int) : Option (List Int) := if (decide (y6 < 32)) = true then (if 0 ≤ (wr .i64 (Int.tdiv y6 8)) ∧ (wr .i64 (Int.tdiv y6 8)) < 25 then (if 0 ≤ (wr .i64 (8 * (Int.tmod y6 8))) then (if 0 ≤ y6 ∧ y6 < 32 then (rec1 (wr .i64 (y6 + 1)) (y7.set (Int.toNat y6) (wr .u8 (Int.tmod (shr (rd y2 (wr .i64 (Int.tdiv y6 8))) (min (Int.toNat (wr .i64 (8 * (Int.tmod y6 8)))) 64)) 256)))) else none) else none) else none) else (smithyref05_Sum.j3 y7)
def smithyref05_Sum.l1 (y2 : List Int) : Nat → Int → (List Int) → Option (List Int)
  | 0, _, _ => none
  | q + 1, y6, y7 => smithyref05_Sum.b1 y2 (smithyref05_Sum.l1 y2 q) y6 y7
def smithyref05_Sum.j2 (k : Nat) (y2 : List Int) : Option (List Int) := smithyref05_Sum.l1 y2 k 0 [0, 0, 0, 0, 0, 0, 0, 0, 0, 0, 0, 0, 0, 0, 0, 0, 0, 0, 0, 0, 0, 0, 0, 0, 0, 0, 0, 0, 0, 0, 0, 0]
def smithyref05_Sum.j4 (y12 : Int) (rec2 : Int → (List Int) → Option (List Int)) (y14 : List Int) : Option (List Int) := rec2 (wr .i64 (y12 + 1)) y14
def smithyref05_Sum.b2 (k : Nat) (y1 : List Int) (rec2 : Int → (List Int) → Option (List Int)) (y12 : Int) (y13 : List Int) : Option (List Int) := if (decide (y12 < ((y1.set (Int.toNat (wr .i64 (((y1).length : Int) - 1))) (bits .or .u8 (rd y1 (wr .i64 (((y1).length : Int) - 1))) 128)).length : Int))) = true then (if 0 ≤ (wr .i64 (Int.tdiv (Int.tmod y12 136) 8)) ∧ (wr .i64 (Int.tdiv (Int.tmod y12 136) 8)) < 25 then (if 0 ≤ y12 ∧ y12 < ((y1.set (Int.toNat (wr .i64 (((y1).length : Int) - 1))) (bits .or .u8 (rd y1 (wr .i64 (((y1).length : Int) - 1))) 128)).length : Int) then (if 0 ≤ (wr .i64 (8 * (Int.tmod (Int.tmod y12 136) 8))) then (if ((Int.tmod y12 136) == 135) = true then ((smithyref05_Turn.f k (y13.set (Int.toNat (wr .i64 (Int.tdiv (Int.tmod y12 136) 8))) (bits .xor .u64 (rd y13 (wr .i64 (Int.tdiv (Int.tmod y12 136) 8))) (shl .u64 (wr .u64 (rd (y1.set (Int.toNat (wr .i64 (((y1).length : Int) - 1))) (bits .or .u8 (rd y1 (wr .i64 (((y1).length : Int) - 1))) 128)) y12)) (min (Int.toNat (wr .i64 (8 * (Int.tmod (Int.tmod y12 136) 8)))) 64))))).bind fun t1 => (smithyref05_Sum.j4 y12 rec2 t1)) else (smithyref05_Sum.j4 y12 rec2 (y13.set (Int.toNat (wr .i64 (Int.tdiv (Int.tmod y12 136) 8))) (bits .xor .u64 (rd y13 (wr .i64 (Int.tdiv (Int.tmod y12 136) 8))) (shl .u64 (wr .u64 (rd (y1.set (Int.toNat (wr .i64 (((y1).length : Int) - 1))) (bits .or .u8 (rd y1 (wr .i64 (((y1).length : Int) - 1))) 128)) y12)) (min (Int.toNat (wr .i64 (8 * (Int.tmod (Int.tmod y12 136) 8)))) 64)))))) else none) else none) else none) else (smithyref05_Sum.j2 k y13)
def smithyref05_Sum.l2 (k : Nat) (y1 : List Int) : Nat → Int → (List Int) → Option (List Int)
  | 0, _, _ => none
  | q + 1, y12, y13 => smithyref05_Sum.b2 k y1 (smithyref05_Sum.l2 k y1 q) y12 y13
def smithyref05_Sum.j1 (k : Nat) (y1 : List Int) : Option (List Int) := if 0 ≤ (wr .i64 (((y1).length : Int) - 1)) ∧ (wr .i64 (((y1).length : Int) - 1)) < ((y1).length : Int) then (smithyref05_Sum.l2 k y1 k 0 [0, 0, 0, 0, 0, 0, 0, 0, 0, 0, 0, 0, 0, 0, 0, 0, 0, 0, 0, 0, 0, 0, 0, 0, 0]) else none
def smithyref05_Sum.b3 (k : Nat) (rec3 : (List Int) → Option (List Int)) (y16 : List Int) : Option (List Int) := if ((Int.tmod ((y16).length : Int) 136) != 0) = true then (if ((y16).length + ([0]).length) * 1 ≤ 140737488355328 then (rec3 (y16 ++ [0])) else none) else (smithyref05_Sum.j1 k y16)
def smithyref05_Sum.l3 (k : Nat) : Nat → (List Int) → Option (List Int)
  | 0, _ => none
  | q + 1, y16 => smithyref05_Sum.b3 k (smithyref05_Sum.l3 k q) y16
def smithyref05_Sum.f (k : Nat) (x1 : List Int) : Option (List Int) := if ((([] : List Int)).length + (x1).length) * 1 ≤ 140737488355328 then (if ((([] : List Int) ++ x1).length + ([1]).length) * 1 ≤ 140737488355328 then (smithyref05_Sum.l3 k k ((([] : List Int) ++ x1) ++ [1])) else none) else none
theorem smithyref05_Sum.ok (k : Nat) (x1 : List Int) (ch_x1 : Option Addr × Nat) (r : List Int) (h0 : smithyref05_Sum.f k x1 = some r) (mi : Mem) (w0 : World) : okL mi [(.sl ch_x1.1 (x1).length ch_x1.2 (RdS (Ty.int .u8) ch_x1.1 x1))] → Frz mi w0 → Calls Tryd.prog 10 (([(.sl ch_x1.1 (x1).length ch_x1.2 (RdS (Ty.int .u8) ch_x1.1 x1))] : List D).map D.val).toArray w0 (Ret mi (.agg [.ints .u8 r 32]) w0) := by
  intro ok hm
  delta smithyref05_Sum.f at h0
  refine c_enter (n := 83) [(.sl ch_x1.1 (x1).length ch_x1.2 (RdS (Ty.int .u8) ch_x1.1 x1))] (l := [(0, (.sl ch_x1.1 (x1).length ch_x1.2 (RdS (Ty.int .u8) ch_x1.1 x1)))]) Tryd.func10 rfl rfl rfl rfl ok hm ?_
  clear ok hm
  intro a S
  refine c_region ?_
  refine s_alloc S Z29 rfl ⟨rfl, trivial⟩ rfl ?_; clear S a; intro g1 a w S
  refine c_end ?_
  refine c_region ?_
  refine s_bldSl S (ty' := (Ty.int .u8)) (ds := []) (z := 0) (c0 := ()) (ys := ([] : List Int)) (cs := []) rfl Tryd.underlying27 J5 Z5 rfl ⟨rfl, trivial⟩ rfl rfl rfl rfl rfl rfl ?_; clear S a w; intro g2 a w S
  refine s_assign S rfl rfl ?_; clear S a; intro a S
  refine c_end ?_
  refine c_region ?_
  refine s_move S rfl rfl ?_; clear S a; intro a S
  refine s_move S rfl rfl ?_; clear S a; intro a S
  obtain ⟨c1, h1⟩ := chk_of h0; clear h0
  refine s_app S (k2 := ((x1).length)) (ys := x1) rfl (fun _ _ => .here) rfl rfl rfl (RdS.src (S.get 11 (.sl ch_x1.1 (x1).length ch_x1.2 (RdS (Ty.int .u8) ch_x1.1 x1)) rfl).2.2.2.1 (by decide) S.frz) Tryd.underlying27 J5 c1 rfl ?_; clear S a w; intro A1 cp1 a w S
  refine s_assign S rfl rfl ?_; clear S a; intro a S
  refine c_end ?_
  refine c_region ?_
  refine s_move S rfl rfl ?_; clear S a; intro a S
  refine s_bldSl S (ty' := (Ty.int .u8)) (ds := [(0, (.v (.int .u8 1)))]) (z := 0) (c0 := ()) (ys := [1]) (cs := [()]) rfl Tryd.underlying27 J5 Z5 rfl ⟨rfl, trivial⟩ rfl rfl rfl rfl rfl rfl ?_; clear S a w; intro g3 a w S
  obtain ⟨c2, h2⟩ := chk_of h1; clear h1
  refine s_app S (k2 := 1) (ys := [1]) rfl (fun _ _ => (.there .here)) rfl rfl (S.holds _ (Pull.mem .here).1).1 (Res.row.src (S.holds _ (Pull.mem .here).1)) Tryd.underlying27 J5 c2 rfl ?_; clear S a w; intro A2 cp2 a w S
  refine s_assign S rfl rfl ?_; clear S a; intro a S
  refine c_end ?_
  refine wp_seq_k ?_
  intro K1 hK1
  have j1 : ∀ (m : Mem) (A3 : Option Addr) (nn1 : Nat) (cp3 : Nat) (y1 : List Int) (g4 : Nat) (a : Act) (w : World), St 83 m (B0 mi w0) [(3, (.v (.slice A3 nn1 cp3))), (2, (.v (.pointer (some ⟨g4, 0, none⟩))))] [Res.row (Ty.int .u8) 5 A3 nn1 cp3 y1, Res.cells g4 29 [.ints .u8 [0, 0, 0, 0, 0, 0, 0, 0, 0, 0, 0, 0, 0, 0, 0, 0, 0, 0, 0, 0, 0, 0, 0, 0, 0, 0, 0, 0, 0, 0, 0, 0] 32]] a w → smithyref05_Sum.j1 k y1 = some r → K1 a w := by
    intro m A3 nn1 cp3 y1 g4 a w S h0
    delta smithyref05_Sum.j1 at h0
    refine hK1 a w ?_
    refine c_region ?_
    refine s_move S rfl rfl ?_; clear S a; intro a S
    refine s_move S rfl rfl ?_; clear S a; intro a S
    refine s_lenO S rfl .here Tryd.underlying27 rfl ?_; clear S a; intro a S
    refine s_bin S rfl rfl rfl rfl ?_; clear S a; intro a S
    refine s_move S rfl rfl ?_; clear S a; intro a S
    refine s_move S rfl rfl ?_; clear S a; intro a S
    refine s_lenO S rfl .here Tryd.underlying27 rfl ?_; clear S a; intro a S
    refine s_bin S rfl rfl rfl rfl ?_; clear S a; intro a S
    obtain ⟨c3, h1⟩ := chk_of h0; clear h0
    refine s_iaddrO S (ty' := (Ty.int .u8)) rfl .here rfl Tryd.underlying27 T5 c3.1 c3.2 rfl ?_; clear S a; intro g5 a hA1 S
    refine s_ldR1 S (ty' := (Ty.int .u8)) (i := (wr .i64 (((y1).length : Int) - 1))) (off := 0) (v := (.int .u8 (rd y1 (wr .i64 (((y1).length : Int) - 1))))) rfl hA1 .here T5 c3.1 c3.2 rfl (fun _ => rfl) rfl ?_; clear S a; intro a S
    refine s_bin S rfl rfl rfl rfl ?_; clear S a; intro a S
    refine s_iaddrO S (ty' := (Ty.int .u8)) rfl .here rfl Tryd.underlying27 T5 c3.1 c3.2 rfl ?_; clear S a; intro g6 a hA2 S
    refine s_stR S (ty' := (Ty.int .u8)) (i := (wr .i64 (((y1).length : Int) - 1))) (off := 0) (u := bits .or .u8 (rd y1 (wr .i64 (((y1).length : Int) - 1))) 128) (fun c => ()) rfl rfl rfl hA2 .here T5 c3.1 c3.2 rfl (by decide) rfl (fun _ => rfl) ?_; clear S w; intro w S
    refine c_end ?_
    refine c_region ?_
    refine s_build S (ds := []) (dv := (.agg [.ints .u64 [0, 0, 0, 0, 0, 0, 0, 0, 0, 0, 0, 0, 0, 0, 0, 0, 0, 0, 0, 0, 0, 0, 0, 0, 0] 25])) rfl (fun _ => by kernel_rfl) ⟨rfl, trivial⟩ rfl ?_; clear S a; intro a S
    refine s_alloc S Z23 rfl ⟨rfl, trivial⟩ rfl ?_; clear S a w; intro g7 a w S
    refine s_store S rfl rfl rfl (s' := [.ints .u64 [0, 0, 0, 0, 0, 0, 0, 0, 0, 0, 0, 0, 0, 0, 0, 0, 0, 0, 0, 0, 0, 0, 0, 0, 0] 25]) .here T23 rfl rfl ?_; clear S w; intro w S
    refine c_end ?_
    refine wp_seq_k ?_
    intro K2 hK2
    have j2 : ∀ (m : Mem) (g8 : Nat) (g9 : Nat) (y2 : List Int) (a : Act) (w : World), St 83 m (B0 mi w0) [(4, (.v (.pointer (some ⟨g8, 0, none⟩)))), (2, (.v (.pointer (some ⟨g9, 0, none⟩))))] [Res.cells g8 23 [.ints .u64 y2 25], Res.cells g9 29 [.ints .u8 [0, 0, 0, 0, 0, 0, 0, 0, 0, 0, 0, 0, 0, 0, 0, 0, 0, 0, 0, 0, 0, 0, 0, 0, 0, 0, 0, 0, 0, 0, 0, 0] 32]] a w → smithyref05_Sum.j2 k y2 = some r → K2 a w := by
      intro m g8 g9 y2 a w S h0
      delta smithyref05_Sum.j2 at h0
      refine hK2 a w ?_
      refine c_region ?_
      refine s_build S (ds := []) (dv := (.agg [.ints .u8 [0, 0, 0, 0, 0, 0, 0, 0, 0, 0, 0, 0, 0, 0, 0, 0, 0, 0, 0, 0, 0, 0, 0, 0, 0, 0, 0, 0, 0, 0, 0, 0] 32])) rfl (fun _ => by kernel_rfl) ⟨rfl, trivial⟩ rfl ?_; clear S a; intro a S
      refine s_alloc S Z29 rfl ⟨rfl, trivial⟩ rfl ?_; clear S a w; intro g10 a w S
      refine s_store S rfl rfl rfl (s' := [.ints .u8 [0, 0, 0, 0, 0, 0, 0, 0, 0, 0, 0, 0, 0, 0, 0, 0, 0, 0, 0, 0, 0, 0, 0, 0, 0, 0, 0, 0, 0, 0, 0, 0] 32]) .here T29 rfl rfl ?_; clear S w; intro w S
      refine c_end ?_
      refine wp_seq_k ?_
      intro K3 hK3
      have j3 : ∀ (m : Mem) (g11 : Nat) (g12 : Nat) (y3 : List Int) (a : Act) (w : World), St 83 m (B0 mi w0) [(7, (.v (.pointer (some ⟨g11, 0, none⟩)))), (2, (.v (.pointer (some ⟨g12, 0, none⟩))))] [Res.cells g11 29 [.ints .u8 y3 32], Res.cells g12 29 [.ints .u8 [0, 0, 0, 0, 0, 0, 0, 0, 0, 0, 0, 0, 0, 0, 0, 0, 0, 0, 0, 0, 0, 0, 0, 0, 0, 0, 0, 0, 0, 0, 0, 0] 32]] a w → smithyref05_Sum.j3 y3 = some r → K3 a w := by
        intro m g11 g12 y3 a w S h0
        delta smithyref05_Sum.j3 at h0
        refine hK3 a w ?_
        refine c_region ?_
        refine s_loada S rfl .here T29 (s' := [.ints .u8 y3 32]) rfl rfl ?_; clear S a; intro a S
        refine s_store S rfl rfl rfl (s' := [.ints .u8 y3 32]) (.there .here) T29 rfl rfl ?_; clear S w; intro w S
        refine c_end ?_
        refine wp_ret ?_
        obtain rfl := Option.some.inj h0
        exact b_ret1 (d := (.agg [.ints .u8 y3 32])) S rfl (resD_cell rfl (.there .here) T29 rfl rfl) fun ok => ⟨rfl, ok, S.below0⟩
      refine c_region ?_
      refine s_assign S rfl rfl ?_; clear S a; intro a S
      refine c_end ?_
      refine wp_block ?_
      refine c_loop (fun q1 a w => ∃ (m : Mem) (y6 : Int) (g19 : Nat) (g20 : Nat) (g21 : Nat) (y7 : List Int), St 83 m (B0 mi w0) [(8, (.v (.int .i64 y6))), (7, (.v (.pointer (some ⟨g19, 0, none⟩)))), (4, (.v (.pointer (some ⟨g20, 0, none⟩)))), (2, (.v (.pointer (some ⟨g21, 0, none⟩))))] [Res.cells g19 29 [.ints .u8 y7 32], Res.cells g20 23 [.ints .u64 y2 25], Res.cells g21 29 [.ints .u8 [0, 0, 0, 0, 0, 0, 0, 0, 0, 0, 0, 0, 0, 0, 0, 0, 0, 0, 0, 0, 0, 0, 0, 0, 0, 0, 0, 0, 0, 0, 0, 0] 32]] a w ∧ smithyref05_Sum.l1 y2 q1 y6 y7 = some r) ?_ ?_ (k := k) ⟨_, 0, g10, g8, g9, [0, 0, 0, 0, 0, 0, 0, 0, 0, 0, 0, 0, 0, 0, 0, 0, 0, 0, 0, 0, 0, 0, 0, 0, 0, 0, 0, 0, 0, 0, 0, 0], (S.sub ⟨rfl, rfl, rfl, rfl, trivial⟩ (.cons .here (.cons .here (.cons .here .nil)))), h0⟩
      · rintro a w ⟨m, y6, g19, g20, g21, y7, S, h0⟩
        exact (nomatch (show (none : Option (List Int)) = some r from h0))
      · clear S h0
        rintro q1 a w ⟨m, y6, g19, g20, g21, y7, S, h0⟩
        replace h0 : smithyref05_Sum.b1 y2 (smithyref05_Sum.l1 y2 q1) y6 y7 = some r := h0
        delta smithyref05_Sum.b1 at h0
        refine wp_seq ?_
        refine c_region ?_
        refine s_move S rfl rfl ?_; clear S a; intro a S
        refine s_bin S rfl rfl rfl rfl ?_; clear S a; intro a S
        refine c_end ?_
        rcases ite_of h0 with ⟨c4, h1⟩ | ⟨c4, h1⟩ <;> clear h0
        · refine c_condT S rfl c4 ?_
          refine wp_skip ?_
          refine x_thenN ?_
          refine wp_seq ?_
          refine wp_block ?_
          refine c_region' ?_
          refine s_move S rfl rfl ?_; clear S a; intro a S
          refine s_move S rfl rfl ?_; clear S a; intro a S
          refine s_quo S rfl rfl (by decide) rfl ?_; clear S a; intro a S
          obtain ⟨c5, h2⟩ := chk_of h1; clear h1
          refine s_iaddr S rfl rfl Tryd.underlying23 T22 c5.1 c5.2 (mul1 _ _) rfl ?_; clear S a; intro a S
          refine s_loadi S (i := (wr .i64 (Int.tdiv y6 8))) rfl (.there .here) T22 .here rfl c5.1 c5.2 rfl ?_; clear S a; intro a S
          refine s_move S rfl rfl ?_; clear S a; intro a S
          refine s_rem S rfl rfl (by decide) rfl ?_; clear S a; intro a S
          refine s_bin S rfl rfl rfl rfl ?_; clear S a; intro a S
          obtain ⟨c6, h3⟩ := chk_of h2; clear h2
          refine s_shr S (e := (min (Int.toNat (wr .i64 (8 * (Int.tmod y6 8)))) 64)) rfl rfl c6 rfl rfl ?_; clear S a; intro a S
          refine s_rem S rfl rfl (by decide) rfl ?_; clear S a; intro a S
          refine s_conv S rfl rfl Tryd.underlying5 rfl ?_; clear S a; intro a S
          obtain ⟨c7, h4⟩ := chk_of h3; clear h3
          refine s_iaddr S rfl rfl Tryd.underlying29 T5 c7.1 c7.2 (mul1 _ _) rfl ?_; clear S a; intro a S
          refine s_storei S (i := y6) rfl rfl .here T5 .here rfl c7.1 c7.2 ?_; clear S w; intro w S
          refine c_end' ?_
          refine x_blockN ?_
          refine x_thenN ?_
          refine c_region' ?_
          refine s_move S rfl rfl ?_; clear S a; intro a S
          refine s_bin S rfl rfl rfl rfl ?_; clear S a; intro a S
          refine s_assign S rfl rfl ?_; clear S a; intro a S
          refine c_end' ?_
          refine x_thenN ?_
          exact ⟨_, (wr .i64 (y6 + 1)), g19, g20, g21, (y7.set (Int.toNat y6) (wr .u8 (Int.tmod (shr (rd y2 (wr .i64 (Int.tdiv y6 8))) (min (Int.toNat (wr .i64 (8 * (Int.tmod y6 8)))) 64)) 256))), (S.sub ⟨rfl, rfl, rfl, rfl, trivial⟩ (.cons .here (.cons .here (.cons .here .nil)))), h4⟩
        · refine c_condF S rfl c4 ?_
          refine wp_exit ?_
          refine x_thenX ?_
          refine x_thenX ?_
          refine x_blockX ?_
          refine x_thenN ?_
          exact j3 _ g19 g21 y7 a w (S.sub ⟨rfl, rfl, trivial⟩ (.cons .here (.cons (.there .here) .nil))) h1
    refine c_region ?_
    refine s_assign S rfl rfl ?_; clear S a; intro a S
    refine c_end ?_
    refine wp_block ?_
    refine c_loop (fun q2 a w => ∃ (m : Mem) (y12 : Int) (g30 : Nat) (g31 : Nat) (y13 : List Int), St 83 m (B0 mi w0) [(5, (.v (.int .i64 y12))), (4, (.v (.pointer (some ⟨g30, 0, none⟩)))), (3, (.v (.slice A3 nn1 cp3))), (2, (.v (.pointer (some ⟨g31, 0, none⟩))))] [Res.cells g30 23 [.ints .u64 y13 25], Res.row (Ty.int .u8) 5 A3 nn1 cp3 (y1.set (Int.toNat (wr .i64 (((y1).length : Int) - 1))) (bits .or .u8 (rd y1 (wr .i64 (((y1).length : Int) - 1))) 128)), Res.cells g31 29 [.ints .u8 [0, 0, 0, 0, 0, 0, 0, 0, 0, 0, 0, 0, 0, 0, 0, 0, 0, 0, 0, 0, 0, 0, 0, 0, 0, 0, 0, 0, 0, 0, 0, 0] 32]] a w ∧ smithyref05_Sum.l2 k y1 q2 y12 y13 = some r) ?_ ?_ (k := k) ⟨_, 0, g7, g4, [0, 0, 0, 0, 0, 0, 0, 0, 0, 0, 0, 0, 0, 0, 0, 0, 0, 0, 0, 0, 0, 0, 0, 0, 0], (S.sub ⟨rfl, rfl, rfl, rfl, trivial⟩ (.cons .here (.cons .here (.cons .here .nil)))), h1⟩
    · rintro a w ⟨m, y12, g30, g31, y13, S, h0⟩
      exact (nomatch (show (none : Option (List Int)) = some r from h0))
    · clear S h1
      rintro q2 a w ⟨m, y12, g30, g31, y13, S, h0⟩
      replace h0 : smithyref05_Sum.b2 k y1 (smithyref05_Sum.l2 k y1 q2) y12 y13 = some r := h0
      delta smithyref05_Sum.b2 at h0
      refine wp_seq ?_
      refine c_region ?_
      refine s_move S rfl rfl ?_; clear S a; intro a S
      refine s_move S rfl rfl ?_; clear S a; intro a S
      refine s_lenO S rfl (.there .here) Tryd.underlying27 rfl ?_; clear S a; intro a S
      refine s_bin S rfl rfl rfl rfl ?_; clear S a; intro a S
      refine c_end ?_
      rcases ite_of h0 with ⟨c8, h1⟩ | ⟨c8, h1⟩ <;> clear h0
      · refine c_condT S rfl c8 ?_
        refine wp_skip ?_
        refine x_thenN ?_
        refine wp_seq_k ?_
        intro K4 hK4
        have j4 : ∀ (m : Mem) (g32 : Nat) (g33 : Nat) (y14 : List Int) (a : Act) (w : World), St 83 m (B0 mi w0) [(5, (.v (.int .i64 y12))), (4, (.v (.pointer (some ⟨g32, 0, none⟩)))), (3, (.v (.slice A3 nn1 cp3))), (2, (.v (.pointer (some ⟨g33, 0, none⟩))))] [Res.cells g32 23 [.ints .u64 y14 25], Res.row (Ty.int .u8) 5 A3 nn1 cp3 (y1.set (Int.toNat (wr .i64 (((y1).length : Int) - 1))) (bits .or .u8 (rd y1 (wr .i64 (((y1).length : Int) - 1))) 128)), Res.cells g33 29 [.ints .u8 [0, 0, 0, 0, 0, 0, 0, 0, 0, 0, 0, 0, 0, 0, 0, 0, 0, 0, 0, 0, 0, 0, 0, 0, 0, 0, 0, 0, 0, 0, 0, 0] 32]] a w → smithyref05_Sum.j4 y12 (smithyref05_Sum.l2 k y1 q2) y14 = some r → K4 a w := by
          intro m g32 g33 y14 a w S h0
          delta smithyref05_Sum.j4 at h0
          refine hK4 a w ?_
          refine c_region' ?_
          refine s_move S rfl rfl ?_; clear S a; intro a S
          refine s_bin S rfl rfl rfl rfl ?_; clear S a; intro a S
          refine s_assign S rfl rfl ?_; clear S a; intro a S
          refine c_end' ?_
          refine x_thenN ?_
          exact ⟨_, (wr .i64 (y12 + 1)), g32, g33, y14, (S.sub ⟨rfl, rfl, rfl, rfl, trivial⟩ (.cons .here (.cons .here (.cons .here .nil)))), h0⟩
        refine wp_block ?_
        refine c_region ?_
        refine s_move S rfl rfl ?_; clear S a; intro a S
        refine s_rem S rfl rfl (by decide) rfl ?_; clear S a; intro a S
        refine s_assign S rfl rfl ?_; clear S a; intro a S
        refine c_end ?_
        refine wp_seq (c_heldS S (.take 0 (.take 1 (.take 2 (.take 3 (.take 4 (.take 5 (.take 6 (.take 7 (.take 11 (.take 12 (.take 13 (.alts (.run 8 true (.alts (.run 9 true (.take 10 (.take 14 (.take 15 (.take 16 (.alts (.run 17 false .done .nil)))))) .nil)) .nil))))))))))))) 17 [Res.cells g30 23 [.ints .u64 y13 25], Res.cells g31 29 [.ints .u8 [0, 0, 0, 0, 0, 0, 0, 0, 0, 0, 0, 0, 0, 0, 0, 0, 0, 0, 0, 0, 0, 0, 0, 0, 0, 0, 0, 0, 0, 0, 0, 0] 32]] (.cons .here (.cons (.there .here) .nil)) ⟨Res.stay_cells, Res.stay_cells, trivial⟩ [(6, (.v (.int .i64 (Int.tmod y12 136)))), (5, (.v (.int .i64 y12))), (4, (.v (.pointer (some ⟨g30, 0, none⟩)))), (3, (.v (.slice A3 nn1 cp3)))] ⟨rfl, rfl, rfl, rfl, trivial⟩ (by kernel_rfl) (by kernel_rfl) ?_); clear S; intro w S CL hw le
        refine h_move S CL hw le ⟨rfl, rfl, rfl, rfl, trivial⟩ rfl rfl rfl trivial ?_; clear S CL a; intro a S CL
        refine h_quo S CL hw le ⟨rfl, rfl, rfl, rfl, rfl, trivial⟩ rfl rfl (by decide) rfl rfl trivial ?_; clear S CL a; intro a S CL
        refine h_move S CL hw le ⟨rfl, rfl, rfl, rfl, rfl, rfl, trivial⟩ rfl rfl rfl trivial ?_; clear S CL a; intro a S CL
        refine h_quo S CL hw le ⟨rfl, rfl, rfl, rfl, rfl, rfl, rfl, trivial⟩ rfl rfl (by decide) rfl rfl trivial ?_; clear S CL a; intro a S CL
        obtain ⟨c9, h2⟩ := chk_of h1; clear h1
        refine h_iaddr S CL hw le ⟨rfl, rfl, rfl, rfl, rfl, rfl, rfl, rfl, trivial⟩ rfl rfl Tryd.underlying23 T22 c9.1 c9.2 (mul1 _ _) rfl rfl trivial ?_; clear S CL a; intro a S CL
        refine h_loadi S CL hw le ⟨rfl, rfl, rfl, rfl, rfl, rfl, rfl, rfl, rfl, trivial⟩ (i := (wr .i64 (Int.tdiv (Int.tmod y12 136) 8))) rfl .here T22 .here rfl c9.1 c9.2 rfl rfl trivial ?_; clear S CL a; intro a S CL
        refine h_move S CL hw le ⟨rfl, rfl, rfl, rfl, rfl, rfl, rfl, rfl, rfl, rfl, trivial⟩ rfl rfl rfl trivial ?_; clear S CL a; intro a S CL
        refine h_move S CL hw le ⟨rfl, rfl, rfl, rfl, rfl, rfl, rfl, rfl, rfl, rfl, rfl, trivial⟩ rfl rfl rfl trivial ?_; clear S CL a; intro a S CL
        refine h_move S CL hw le ⟨rfl, rfl, rfl, rfl, rfl, rfl, rfl, rfl, rfl, rfl, rfl, rfl, trivial⟩ rfl rfl rfl trivial ?_; clear S CL a; intro a S CL
        refine h_rem S CL hw le ⟨rfl, rfl, rfl, rfl, rfl, rfl, rfl, rfl, rfl, rfl, rfl, rfl, rfl, trivial⟩ rfl rfl (by decide) rfl rfl trivial ?_; clear S CL a; intro a S CL
        refine h_bin S CL hw le ⟨rfl, rfl, rfl, rfl, rfl, rfl, rfl, rfl, rfl, rfl, rfl, rfl, rfl, rfl, trivial⟩ rfl rfl rfl rfl rfl trivial ?_; clear S CL a; intro a S CL
        refine h_run' S rfl trivial ?_
        obtain ⟨c10, h3⟩ := chk_of h2; clear h2
        refine s_iaddrO S (ty' := (Ty.int .u8)) rfl (.there .here) rfl Tryd.underlying27 T5 c10.1 c10.2 rfl ?_; clear S a; intro g34 a hA3 S
        replace hw := CL.again hw S (.cons .here (.cons (.there .here) .nil)) le
        refine h_back ⟨fun _ => hw, ?_⟩
        refine h_run' S rfl trivial ?_
        refine s_ldR1 S (ty' := (Ty.int .u8)) (i := y12) (off := 0) (v := (.int .u8 (rd (y1.set (Int.toNat (wr .i64 (((y1).length : Int) - 1))) (bits .or .u8 (rd y1 (wr .i64 (((y1).length : Int) - 1))) 128)) y12))) rfl hA3 (.there .here) T5 c10.1 c10.2 rfl (fun _ => rfl) rfl ?_; clear S a; intro a S
        replace hw := CL.again hw S (.cons .here (.cons (.there .here) .nil)) le
        refine h_back ⟨fun _ => hw, ?_⟩
        replace CL := CL.add (t := 53) (d := (.v (.int .u8 (rd (y1.set (Int.toNat (wr .i64 (((y1).length : Int) - 1))) (bits .or .u8 (rd y1 (wr .i64 (((y1).length : Int) - 1))) 128)) y12)))) S rfl rfl
        refine h_conv S CL hw le ⟨rfl, rfl, rfl, rfl, rfl, rfl, rfl, rfl, rfl, rfl, rfl, rfl, rfl, rfl, rfl, rfl, trivial⟩ rfl rfl Tryd.underlying22 rfl rfl trivial ?_; clear S CL a; intro a S CL
        obtain ⟨c11, h4⟩ := chk_of h3; clear h3
        refine h_shl S CL hw le ⟨rfl, rfl, rfl, rfl, rfl, rfl, rfl, rfl, rfl, rfl, rfl, rfl, rfl, rfl, rfl, rfl, rfl, trivial⟩ (e := (min (Int.toNat (wr .i64 (8 * (Int.tmod (Int.tmod y12 136) 8)))) 64)) rfl rfl c11 rfl rfl rfl trivial ?_; clear S CL a; intro a S CL
        refine h_bin S CL hw le ⟨rfl, rfl, rfl, rfl, rfl, rfl, rfl, rfl, rfl, rfl, rfl, rfl, rfl, rfl, rfl, rfl, rfl, rfl, trivial⟩ rfl rfl rfl rfl rfl trivial ?_; clear S CL a; intro a S CL
        refine h_iaddr S CL hw le ⟨rfl, rfl, rfl, rfl, rfl, rfl, rfl, rfl, rfl, rfl, rfl, rfl, rfl, rfl, rfl, rfl, rfl, rfl, rfl, trivial⟩ rfl rfl Tryd.underlying23 T22 c9.1 c9.2 (mul1 _ _) rfl rfl trivial ?_; clear S CL a; intro a S CL
        refine h_run' S rfl trivial ?_
        refine s_storei S (i := (wr .i64 (Int.tdiv (Int.tmod y12 136) 8))) rfl rfl .here T22 .here rfl c9.1 c9.2 ?_; clear S; intro w S
        refine h_back ⟨fun h => (nomatch h), ?_⟩
        refine h_done ?_; clear CL hw le
        refine x_thenN ?_
        refine c_region ?_
        refine s_move S rfl rfl ?_; clear S a; intro a S
        refine s_bin S rfl rfl rfl rfl ?_; clear S a; intro a S
        refine c_end ?_
        rcases ite_of h4 with ⟨c12, h5⟩ | ⟨c12, h5⟩ <;> clear h4
        · refine c_condT S rfl c12 ?_
          refine c_region' ?_
          refine s_loada S rfl .here T23 (s' := [.ints .u64 (y13.set (Int.toNat (wr .i64 (Int.tdiv (Int.tmod y12 136) 8))) (bits .xor .u64 (rd y13 (wr .i64 (Int.tdiv (Int.tmod y12 136) 8))) (shl .u64 (wr .u64 (rd (y1.set (Int.toNat (wr .i64 (((y1).length : Int) - 1))) (bits .or .u8 (rd y1 (wr .i64 (((y1).length : Int) - 1))) 128)) y12)) (min (Int.toNat (wr .i64 (8 * (Int.tmod (Int.tmod y12 136) 8)))) 64)))) 25]) rfl rfl ?_; clear S a; intro a S
          obtain ⟨t1, et1, h6⟩ := bind_of h5; clear h5
          refine s_call S (ds := [(.agg [.ints .u64 (y13.set (Int.toNat (wr .i64 (Int.tdiv (Int.tmod y12 136) 8))) (bits .xor .u64 (rd y13 (wr .i64 (Int.tdiv (Int.tmod y12 136) 8))) (shl .u64 (wr .u64 (rd (y1.set (Int.toNat (wr .i64 (((y1).length : Int) - 1))) (bits .or .u8 (rd y1 (wr .i64 (((y1).length : Int) - 1))) 128)) y12)) (min (Int.toNat (wr .i64 (8 * (Int.tmod (Int.tmod y12 136) 8)))) 64)))) 25])]) (d := (.agg [.ints .u64 t1 25])) N8 rfl rfl (smithyref05_Turn.ok k (y13.set (Int.toNat (wr .i64 (Int.tdiv (Int.tmod y12 136) 8))) (bits .xor .u64 (rd y13 (wr .i64 (Int.tdiv (Int.tmod y12 136) 8))) (shl .u64 (wr .u64 (rd (y1.set (Int.toNat (wr .i64 (((y1).length : Int) - 1))) (bits .or .u8 (rd y1 (wr .i64 (((y1).length : Int) - 1))) 128)) y12)) (min (Int.toNat (wr .i64 (8 * (Int.tmod (Int.tmod y12 136) 8)))) 64)))) t1 et1 _ _) ?_; clear S a w; intro a w S
          refine s_store S rfl rfl rfl (s' := [.ints .u64 t1 25]) .here T23 rfl rfl ?_; clear S w; intro w S
          refine c_end' ?_
          refine x_blockN ?_
          refine x_thenN ?_
          exact j4 _ g30 g31 t1 a w (S.sub ⟨rfl, rfl, rfl, rfl, trivial⟩ (.cons .here (.cons .here (.cons .here .nil)))) h6
        · refine c_condF S rfl c12 ?_
          refine wp_skip ?_
          refine x_blockN ?_
          refine x_thenN ?_
          exact j4 _ g30 g31 (y13.set (Int.toNat (wr .i64 (Int.tdiv (Int.tmod y12 136) 8))) (bits .xor .u64 (rd y13 (wr .i64 (Int.tdiv (Int.tmod y12 136) 8))) (shl .u64 (wr .u64 (rd (y1.set (Int.toNat (wr .i64 (((y1).length : Int) - 1))) (bits .or .u8 (rd y1 (wr .i64 (((y1).length : Int) - 1))) 128)) y12)) (min (Int.toNat (wr .i64 (8 * (Int.tmod (Int.tmod y12 136) 8)))) 64)))) a w (S.sub ⟨rfl, rfl, rfl, rfl, trivial⟩ (.cons .here (.cons .here (.cons .here .nil)))) h5
      · refine c_condF S rfl c8 ?_
        refine wp_exit ?_
        refine x_thenX ?_
        refine x_thenX ?_
        refine x_blockX ?_
        refine x_thenN ?_
        exact j2 _ g30 g31 y13 a w (S.sub ⟨rfl, rfl, trivial⟩ (.cons .here (.cons (.there .here) .nil))) h1
  refine wp_block ?_
  refine c_loop (fun q3 a w => ∃ (m : Mem) (A4 : Option Addr) (nn3 : Nat) (cp8 : Nat) (y16 : List Int) (g39 : Nat), St 83 m (B0 mi w0) [(3, (.v (.slice A4 nn3 cp8))), (2, (.v (.pointer (some ⟨g39, 0, none⟩))))] [Res.row (Ty.int .u8) 5 A4 nn3 cp8 y16, Res.cells g39 29 [.ints .u8 [0, 0, 0, 0, 0, 0, 0, 0, 0, 0, 0, 0, 0, 0, 0, 0, 0, 0, 0, 0, 0, 0, 0, 0, 0, 0, 0, 0, 0, 0, 0, 0] 32]] a w ∧ smithyref05_Sum.l3 k q3 y16 = some r) ?_ ?_ (k := k) ⟨_, A2, ((0 + ((x1).length)) + 1), cp2, ((([] : List Int) ++ x1) ++ [1]), g1, (S.sub ⟨rfl, rfl, trivial⟩ (.cons (.there .here) (.cons (.there .here) .nil))), h2⟩
  · rintro a w ⟨m, A4, nn3, cp8, y16, g39, S, h0⟩
    exact (nomatch (show (none : Option (List Int)) = some r from h0))
  · clear S h2
    rintro q3 a w ⟨m, A4, nn3, cp8, y16, g39, S, h0⟩
    replace h0 : smithyref05_Sum.b3 k (smithyref05_Sum.l3 k q3) y16 = some r := h0
    delta smithyref05_Sum.b3 at h0
    refine wp_seq ?_
    refine c_region ?_
    refine s_move S rfl rfl ?_; clear S a; intro a S
    refine s_lenO S rfl .here Tryd.underlying27 rfl ?_; clear S a; intro a S
    refine s_rem S rfl rfl (by decide) rfl ?_; clear S a; intro a S
    refine s_bin S rfl rfl rfl rfl ?_; clear S a; intro a S
    refine c_end ?_
    rcases ite_of h0 with ⟨c13, h1⟩ | ⟨c13, h1⟩ <;> clear h0
    · refine c_condT S rfl c13 ?_
      refine wp_skip ?_
      refine x_thenN ?_
      refine wp_block ?_
      refine c_region' ?_
      refine s_move S rfl rfl ?_; clear S a; intro a S
      refine s_bldSl S (ty' := (Ty.int .u8)) (ds := [(0, (.v (.int .u8 0)))]) (z := 0) (c0 := ()) (ys := [0]) (cs := [()]) rfl Tryd.underlying27 J5 Z5 rfl ⟨rfl, trivial⟩ rfl rfl rfl rfl rfl rfl ?_; clear S a w; intro g40 a w S
      obtain ⟨c14, h2⟩ := chk_of h1; clear h1
      refine s_app S (k2 := 1) (ys := [0]) rfl (fun _ _ => (.there .here)) rfl rfl (S.holds _ (Pull.mem .here).1).1 (Res.row.src (S.holds _ (Pull.mem .here).1)) Tryd.underlying27 J5 c14 rfl ?_; clear S a w; intro A5 cp9 a w S
      refine s_assign S rfl rfl ?_; clear S a; intro a S
      refine c_end' ?_
      refine x_blockN ?_
      refine x_thenN ?_
      exact ⟨_, A5, (nn3 + 1), cp9, (y16 ++ [0]), g39, (S.sub ⟨rfl, rfl, trivial⟩ (.cons (.there .here) (.cons (.there .here) .nil))), h2⟩
    · refine c_condF S rfl c13 ?_
      refine wp_exit ?_
      refine x_thenX ?_
      refine x_thenX ?_
      refine x_blockX ?_
      refine x_thenN ?_
      exact j1 _ A4 nn3 cp8 y16 g39 a w (S.sub ⟨rfl, rfl, trivial⟩ (.cons .here (.cons .here .nil))) h1
/-! smithy/smithylaw05.KeccakEnds -/
def smithylaw05_KeccakEnds.j1 (k : Nat) (y1 : List Int) : Option Bool := (smithylaw05_fixed.f k).bind fun t1 => (if t1 = true then ((keccak_Sum.f k y1).bind fun t2 => ((smithyref05_Sum.f k y1).bind fun t3 => (some (decide (t2 = t3))))) else (some false))
def smithylaw05_KeccakEnds.b1 (k : Nat) (x1 : Int) (x2 : Int) (rec1 : Int → (List Int) → Option Bool) (y4 : Int) (y5 : List Int) : Option Bool := if (decide (y4 < ((List.replicate (Int.toNat (wr .i64 (130 + (Int.tmod (wr .i64 x1) 16)))) (0 : Int)).length : Int))) = true then (if 0 ≤ y4 ∧ y4 < ((y5).length : Int) then (rec1 (wr .i64 (y4 + 1)) (y5.set (Int.toNat y4) (wr .u8 (x2 + (wr .u8 y4))))) else none) else (smithylaw05_KeccakEnds.j1 k y5)
def smithylaw05_KeccakEnds.l1 (k : Nat) (x1 : Int) (x2 : Int) : Nat → Int → (List Int) → Option Bool
  | 0, _, _ => none
  | q + 1, y4, y5 => smithylaw05_KeccakEnds.b1 k x1 x2 (smithylaw05_KeccakEnds.l1 k x1 x2 q) y4 y5
def smithylaw05_KeccakEnds.f (k : Nat) (x1 : Int) (x2 : Int) : Option Bool := if 0 ≤ (wr .i64 (130 + (Int.tmod (wr .i64 x1) 16))) ∧ 1 * Int.toNat (wr .i64 (130 + (Int.tmod (wr .i64 x1) 16))) ≤ 281474976710656 then (smithylaw05_KeccakEnds.l1 k x1 x2 k 0 (List.replicate (Int.toNat (wr .i64 (130 + (Int.tmod (wr .i64 x1) 16)))) (0 : Int))) else none
theorem smithylaw05_KeccakEnds.ok (k : Nat) (x1 : Int) (x2 : Int) (r : Bool) (h0 : smithylaw05_KeccakEnds.f k x1 x2 = some r) (mi : Mem) (w0 : World) (G : Glob mi) : okL mi [(.v (.int .u8 x1)), (.v (.int .u8 x2))] → Frz mi w0 → Calls Tryd.prog 4 (([(.v (.int .u8 x1)), (.v (.int .u8 x2))] : List D).map D.val).toArray w0 (Ret mi (.v (.bool r)) w0) := by
  intro ok hm
  delta smithylaw05_KeccakEnds.f at h0
  refine c_enter (n := 33) [(.v (.int .u8 x1)), (.v (.int .u8 x2))] (l := [(0, (.v (.int .u8 x1))), (1, (.v (.int .u8 x2)))]) Tryd.func4 rfl rfl rfl rfl ok hm ?_
  clear ok hm
  intro a S
  refine c_region ?_
  refine s_assign S rfl rfl ?_; clear S a; intro a S
  refine c_end ?_
  refine c_region ?_
  refine s_move S rfl rfl ?_; clear S a; intro a S
  refine s_conv S rfl rfl Tryd.underlying3 rfl ?_; clear S a; intro a S
  refine s_rem S rfl rfl (by decide) rfl ?_; clear S a; intro a S
  refine s_bin S rfl rfl rfl rfl ?_; clear S a; intro a S
  obtain ⟨c1, h1⟩ := chk_of h0; clear h0
  refine s_make S (ty' := (Ty.int .u8)) (z := 0) (c0 := ()) rfl rfl Tryd.underlying27 J5 Z5 rfl ⟨rfl, trivial⟩ c1.1 c1.2 rfl ?_; clear S a; intro g1 a w S
  refine s_assign S rfl rfl ?_; clear S a; intro a S
  refine c_end ?_
  refine wp_seq_k ?_
  intro K1 hK1
  have j1 : ∀ (m : Mem) (y1 : List Int) (a : Act) (w : World), St 33 m (B0 mi w0) [(5, (.v (.slice (some ⟨g1, 0, none⟩) (Int.toNat (wr .i64 (130 + (Int.tmod (wr .i64 x1) 16)))) (Int.toNat (wr .i64 (130 + (Int.tmod (wr .i64 x1) 16)))))))] [Res.row (Ty.int .u8) 5 (some ⟨g1, 0, none⟩) (Int.toNat (wr .i64 (130 + (Int.tmod (wr .i64 x1) 16)))) (Int.toNat (wr .i64 (130 + (Int.tmod (wr .i64 x1) 16)))) y1] a w → smithylaw05_KeccakEnds.j1 k y1 = some r → K1 a w := by
    intro m y1 a w S h0
    delta smithylaw05_KeccakEnds.j1 at h0
    refine hK1 a w ?_
    refine c_region ?_
    obtain ⟨t1, et1, h1⟩ := bind_of h0; clear h0
    refine s_call S (ds := []) (d := (.v (.bool t1))) N6 rfl rfl (smithylaw05_fixed.ok k t1 et1 _ _ (G.mono S.le)) ?_; clear S a w; intro a w S
    refine s_move S rfl rfl ?_; clear S a; intro a S
    rcases ite_of h1 with ⟨c2, h2⟩ | ⟨c2, h2⟩ <;> clear h1
    · refine s_gT S (b := t1) rfl rfl c2 ?_
      refine s_move S rfl rfl ?_; clear S a; intro a S
      refine s_gT S (b := t1) rfl rfl c2 ?_
      replace S := S.rowfro .here
      obtain ⟨m, le1, S, hro⟩ := S
      replace S := S.slotro (u := 27) rfl hro
      replace S := S.slotro (u := 5) rfl hro
      obtain ⟨t2, et2, h3⟩ := bind_of h2; clear h2
      refine s_call S (ds := [(.sl (some ⟨g1, 0, none⟩) (y1).length (Int.toNat (wr .i64 (130 + (Int.tmod (wr .i64 x1) 16)))) (RdS (Ty.int .u8) (some ⟨g1, 0, none⟩) y1))]) (d := (.agg [.ints .u8 t2 32])) N9 rfl rfl (keccak_Sum.ok k y1 ((some ⟨g1, 0, none⟩), Int.toNat (wr .i64 (130 + (Int.tmod (wr .i64 x1) 16)))) t2 et2 _ _ (G.mono S.le)) ?_; clear S a w; intro a w S
      refine s_gT S (b := t1) rfl rfl c2 ?_
      refine s_move S rfl rfl ?_; clear S a; intro a S
      refine s_gT S (b := t1) rfl rfl c2 ?_
      obtain ⟨t3, et3, h4⟩ := bind_of h3; clear h3
      refine s_call S (ds := [(.sl (some ⟨g1, 0, none⟩) (y1).length (Int.toNat (wr .i64 (130 + (Int.tmod (wr .i64 x1) 16)))) (RdS (Ty.int .u8) (some ⟨g1, 0, none⟩) y1))]) (d := (.agg [.ints .u8 t3 32])) N10 rfl rfl (smithyref05_Sum.ok k y1 ((some ⟨g1, 0, none⟩), Int.toNat (wr .i64 (130 + (Int.tmod (wr .i64 x1) 16)))) t3 et3 _ _) ?_; clear S a w; intro a w S
      refine s_gT S (b := t1) rfl rfl c2 ?_
      refine s_eqa S rfl rfl Tryd.underlying29 Tryd.underlying5 T5 Q29 rfl ?_; clear S a; intro a S
      refine s_pick S (b := true) (hc_of rfl c2) rfl rfl ?_; clear S a; intro a S
      refine s_assign S rfl rfl ?_; clear S a; intro a S
      refine c_end ?_
      refine wp_ret ?_
      obtain rfl := Option.some.inj h4
      exact b_ret1 (d := (.v (.bool (decide (t2 = t3))))) S rfl rfl fun ok => ⟨rfl, ok, S.below0⟩
    · refine s_gF S (b := t1) rfl rfl c2 rfl ?_; clear S a; intro a S
      refine s_gF S (b := t1) rfl rfl c2 rfl ?_; clear S a; intro a S
      refine s_gF S (b := t1) rfl rfl c2 rfl ?_; clear S a; intro a S
      refine s_gF S (b := t1) rfl rfl c2 rfl ?_; clear S a; intro a S
      refine s_gF S (b := t1) rfl rfl c2 rfl ?_; clear S a; intro a S
      refine s_pick S (b := false) (hc_of rfl c2) rfl rfl ?_; clear S a; intro a S
      refine s_assign S rfl rfl ?_; clear S a; intro a S
      refine c_end ?_
      refine wp_ret ?_
      obtain rfl := Option.some.inj h2
      exact b_ret1 (d := (.v (.bool false))) S rfl rfl fun ok => ⟨rfl, ok, S.below0⟩
  refine c_region ?_
  refine s_move S rfl rfl ?_; clear S a; intro a S
  refine s_lenO S rfl .here Tryd.underlying27 rfl ?_; clear S a; intro a S
  refine s_move S rfl rfl ?_; clear S a; intro a S
  refine c_end ?_
  refine wp_block ?_
  refine c_loop (fun q1 a w => ∃ (m : Mem) (y4 : Int) (y5 : List Int), St 33 m (B0 mi w0) [(14, (.v (.int .i64 y4))), (13, (.v (.int .i64 ((List.replicate (Int.toNat (wr .i64 (130 + (Int.tmod (wr .i64 x1) 16)))) (0 : Int)).length : Int)))), (5, (.v (.slice (some ⟨g1, 0, none⟩) (Int.toNat (wr .i64 (130 + (Int.tmod (wr .i64 x1) 16)))) (Int.toNat (wr .i64 (130 + (Int.tmod (wr .i64 x1) 16))))))), (1, (.v (.int .u8 x2)))] [Res.row (Ty.int .u8) 5 (some ⟨g1, 0, none⟩) (Int.toNat (wr .i64 (130 + (Int.tmod (wr .i64 x1) 16)))) (Int.toNat (wr .i64 (130 + (Int.tmod (wr .i64 x1) 16)))) y5] a w ∧ smithylaw05_KeccakEnds.l1 k x1 x2 q1 y4 y5 = some r) ?_ ?_ (k := k) ⟨_, 0, (List.replicate (Int.toNat (wr .i64 (130 + (Int.tmod (wr .i64 x1) 16)))) (0 : Int)), (S.sub ⟨rfl, rfl, rfl, rfl, trivial⟩ (.cons .here .nil)), h1⟩
  · rintro a w ⟨m, y4, y5, S, h0⟩
    exact (nomatch (show (none : Option Bool) = some r from h0))
  · clear S h1
    rintro q1 a w ⟨m, y4, y5, S, h0⟩
    replace h0 : smithylaw05_KeccakEnds.b1 k x1 x2 (smithylaw05_KeccakEnds.l1 k x1 x2 q1) y4 y5 = some r := h0
    delta smithylaw05_KeccakEnds.b1 at h0
    refine c_region ?_
    refine s_bin S rfl rfl rfl rfl ?_; clear S a; intro a S
    refine c_end ?_
    refine wp_seq ?_
    rcases ite_of h0 with ⟨c3, h1⟩ | ⟨c3, h1⟩ <;> clear h0
    · refine c_condT S rfl c3 ?_
      refine wp_skip ?_
      refine x_thenN ?_
      refine wp_seq ?_
      refine wp_block ?_
      refine c_region ?_
      refine s_move S rfl rfl ?_; clear S a; intro a S
      refine s_assign S rfl rfl ?_; clear S a; intro a S
      refine c_end ?_
      refine c_region' ?_
      refine s_move S rfl rfl ?_; clear S a; intro a S
      refine s_move S rfl rfl ?_; clear S a; intro a S
      refine s_move S rfl rfl ?_; clear S a; intro a S
      refine s_move S rfl rfl ?_; clear S a; intro a S
      refine s_conv S rfl rfl Tryd.underlying5 rfl ?_; clear S a; intro a S
      refine s_bin S rfl rfl rfl rfl ?_; clear S a; intro a S
      obtain ⟨c4, h2⟩ := chk_of h1; clear h1
      refine s_iaddrO S (ty' := (Ty.int .u8)) rfl .here rfl Tryd.underlying27 T5 c4.1 c4.2 rfl ?_; clear S a; intro g4 a hA1 S
      refine s_stR S (ty' := (Ty.int .u8)) (i := y4) (off := 0) (u := wr .u8 (x2 + (wr .u8 y4))) (fun c => ()) rfl rfl rfl hA1 .here T5 c4.1 c4.2 rfl (by decide) rfl (fun _ => rfl) ?_; clear S w; intro w S
      refine c_end' ?_
      refine x_blockN ?_
      refine x_thenN ?_
      refine c_region' ?_
      refine s_bin S rfl rfl rfl rfl ?_; clear S a; intro a S
      refine s_move S rfl rfl ?_; clear S a; intro a S
      refine c_end' ?_
      refine x_thenN ?_
      exact ⟨_, (wr .i64 (y4 + 1)), (y5.set (Int.toNat y4) (wr .u8 (x2 + (wr .u8 y4)))), (S.sub ⟨rfl, rfl, rfl, rfl, trivial⟩ (.cons .here .nil)), h2⟩
    · refine c_condF S rfl c3 ?_
      refine wp_exit ?_
      refine x_thenX ?_
      refine x_thenX ?_
      refine x_blockX ?_
      refine x_thenN ?_
      exact j1 _ y5 a w (S.sub ⟨rfl, trivial⟩ (.cons .here .nil)) h1
/-! smithy/word.From -/
def word_From.j2 (y2 : List Int) : Option (List Int) := some y2
def word_From.j3 (y7 : Int) (rec1 : Int → (List Int) → Option (List Int)) (y9 : List Int) : Option (List Int) := rec1 (wr .i64 (y7 + 1)) y9
def word_From.b2 (y1 : List Int) (y7 : Int) (rec1 : Int → (List Int) → Option (List Int)) (rec2 : Int → (List Int) → Option (List Int)) (y12 : Int) (y13 : List Int) : Option (List Int) := if (decide (y12 < 8)) = true then (if 0 ≤ y7 ∧ y7 < 4 then (if 0 ≤ (wr .i64 ((wr .i64 (31 - (wr .i64 (8 * y7)))) - y12)) ∧ (wr .i64 ((wr .i64 (31 - (wr .i64 (8 * y7)))) - y12)) < 32 then (if 0 ≤ (wr .i64 (8 * y12)) then (rec2 (wr .i64 (y12 + 1)) (y13.set (Int.toNat y7) (bits .or .u64 (rd y13 y7) (shl .u64 (wr .u64 (rd (cpy [0, 0, 0, 0, 0, 0, 0, 0, 0, 0, 0, 0, 0, 0, 0, 0, 0, 0, 0, 0, 0, 0, 0, 0, 0, 0, 0, 0, 0, 0, 0, 0] (Int.toNat (wr .i64 (32 - ((y1).length : Int)))) y1 (min (y1).length (Int.toNat 32 - Int.toNat (wr .i64 (32 - ((y1).length : Int)))))) (wr .i64 ((wr .i64 (31 - (wr .i64 (8 * y7)))) - y12)))) (min (Int.toNat (wr .i64 (8 * y12))) 64))))) else none) else none) else none) else (word_From.j3 y7 rec1 y13)
def word_From.l2 (y1 : List Int) (y7 : Int) (rec1 : Int → (List Int) → Option (List Int)) : Nat → Int → (List Int) → Option (List Int)
  | 0, _, _ => none
  | q + 1, y12, y13 => word_From.b2 y1 y7 rec1 (word_From.l2 y1 y7 rec1 q) y12 y13
def word_From.b1 (k : Nat) (y1 : List Int) (rec1 : Int → (List Int) → Option (List Int)) (y7 : Int) (y8 : List Int) : Option (List Int) := if (decide (y7 < 4)) = true then (word_From.l2 y1 y7 rec1 k 0 y8) else (word_From.j2 y8)
def word_From.l1 (k : Nat) (y1 : List Int) : Nat → Int → (List Int) → Option (List Int)
  | 0, _, _ => none
  | q + 1, y7, y8 => word_From.b1 k y1 (word_From.l1 k y1 q) y7 y8
def word_From.j1 (k : Nat) (y1 : List Int) : Option (List Int) := if (0 : Int) ≤ (wr .i64 (32 - ((y1).length : Int))) ∧ ((wr .i64 (32 - ((y1).length : Int))) : Int) ≤ 32 ∧ 32 ≤ ((32 : Nat) : Int) then (word_From.l1 k y1 k 0 [0, 0, 0, 0]) else none
def word_From.f (k : Nat) (x1 : List Int) : Option (List Int) := if (decide (32 < ((x1).length : Int))) = true then (if (0 : Int) ≤ (wr .i64 (((x1).length : Int) - 32)) ∧ ((wr .i64 (((x1).length : Int) - 32)) : Int) ≤ ((x1).length : Int) ∧ ((x1).length : Int) ≤ ((x1).length : Int) then (word_From.j1 k (x1.drop (Int.toNat (wr .i64 (((x1).length : Int) - 32))))) else none) else (word_From.j1 k x1)
theorem word_From.ok (k : Nat) (x1 : List Int) (ch_x1 : Option Addr × Nat) (r : List Int) (h0 : word_From.f k x1 = some r) (mi : Mem) (w0 : World) : okL mi [(.sl ch_x1.1 (x1).length ch_x1.2 (RdS (Ty.int .u8) ch_x1.1 x1))] → Frz mi w0 → Calls Tryd.prog 17 (([(.sl ch_x1.1 (x1).length ch_x1.2 (RdS (Ty.int .u8) ch_x1.1 x1))] : List D).map D.val).toArray w0 (Ret mi (.agg [.ints .u64 r 4]) w0) := by
  intro ok hm
  delta word_From.f at h0
  refine c_enter (n := 46) [(.sl ch_x1.1 (x1).length ch_x1.2 (RdS (Ty.int .u8) ch_x1.1 x1))] (l := [(0, (.sl ch_x1.1 (x1).length ch_x1.2 (RdS (Ty.int .u8) ch_x1.1 x1)))]) Tryd.func17 rfl rfl rfl rfl ok hm ?_
  clear ok hm
  intro a S
  refine c_region ?_
  refine s_alloc S Z33 rfl ⟨rfl, trivial⟩ rfl ?_; clear S a; intro g1 a w S
  refine c_end ?_
  refine c_region ?_
  refine s_alloc S Z28 rfl ⟨rfl, trivial⟩ rfl ?_; clear S a w; intro g2 a w S
  refine c_end ?_
  refine wp_seq_k ?_
  intro K1 hK1
  have j1 : ∀ (m : Mem) (A1 : Option Addr) (cp1 : Nat) (y1 : List Int) (g3 : Nat) (g4 : Nat) (a : Act) (w : World), St 46 m (B0 mi w0) [(0, (.sl A1 (y1).length cp1 (RdS (Ty.int .u8) A1 y1))), (3, (.v (.pointer (some ⟨g3, 0, none⟩)))), (2, (.v (.pointer (some ⟨g4, 0, none⟩))))] [Res.cells g3 28 [.ints .u8 [0, 0, 0, 0, 0, 0, 0, 0, 0, 0, 0, 0, 0, 0, 0, 0, 0, 0, 0, 0, 0, 0, 0, 0, 0, 0, 0, 0, 0, 0, 0, 0] 32], Res.cells g4 33 [.ints .u64 [0, 0, 0, 0] 4]] a w → word_From.j1 k y1 = some r → K1 a w := by
    intro m A1 cp1 y1 g3 g4 a w S h0
    delta word_From.j1 at h0
    refine hK1 a w ?_
    refine c_region ?_
    refine s_move S rfl rfl ?_; clear S a; intro a S
    refine s_lenS S rfl Tryd.underlying27 rfl ?_; clear S a; intro a S
    refine s_bin S rfl rfl rfl rfl ?_; clear S a; intro a S
    obtain ⟨c1, h1⟩ := chk_of h0; clear h0
    refine s_sliceA S (i := (wr .i64 (32 - ((y1).length : Int)))) (j := 32) (o' := if 32 = Int.toNat (wr .i64 (32 - ((y1).length : Int))) then 0 else 0 + Int.toNat (wr .i64 (32 - ((y1).length : Int))) * 1) (len := Int.toNat 32 - Int.toNat (wr .i64 (32 - ((y1).length : Int)))) (cap := 32 - Int.toNat (wr .i64 (32 - ((y1).length : Int)))) rfl Tryd.underlying28 T5 (.inr ⟨_, _, rfl, rfl⟩) (.inl ⟨rfl, rfl⟩) c1 rfl rfl rfl rfl ?_; clear S a; intro a S
    refine s_move S rfl rfl ?_; clear S a; intro a S
    refine s_copyA S (N := min (y1).length (Int.toNat 32 - Int.toNat (wr .i64 (32 - ((y1).length : Int))))) (lo := Int.toNat (wr .i64 (32 - ((y1).length : Int)))) rfl .here rfl rfl (RdS.srcI (S.get 19 (.sl A1 (y1).length cp1 (RdS (Ty.int .u8) A1 y1)) rfl).2.2.2.1 S.frz) rfl .here (ho_if c1) (hl_if c1) Tryd.underlying27 T5 rfl ?_; clear S a w; intro a w S
    refine c_end ?_
    refine c_region ?_
    refine s_alloc S Z33 rfl ⟨rfl, trivial⟩ rfl ?_; clear S a w; intro g5 a w S
    refine c_end ?_
    refine wp_seq_k ?_
    intro K2 hK2
    have j2 : ∀ (m : Mem) (g6 : Nat) (g7 : Nat) (y2 : List Int) (a : Act) (w : World), St 46 m (B0 mi w0) [(4, (.v (.pointer (some ⟨g6, 0, none⟩)))), (2, (.v (.pointer (some ⟨g7, 0, none⟩))))] [Res.cells g6 33 [.ints .u64 y2 4], Res.cells g7 33 [.ints .u64 [0, 0, 0, 0] 4]] a w → word_From.j2 y2 = some r → K2 a w := by
      intro m g6 g7 y2 a w S h0
      delta word_From.j2 at h0
      refine hK2 a w ?_
      refine c_region ?_
      refine s_loada S rfl .here T33 (s' := [.ints .u64 y2 4]) rfl rfl ?_; clear S a; intro a S
      refine s_store S rfl rfl rfl (s' := [.ints .u64 y2 4]) (.there .here) T33 rfl rfl ?_; clear S w; intro w S
      refine c_end ?_
      refine wp_ret ?_
      obtain rfl := Option.some.inj h0
      exact b_ret1 (d := (.agg [.ints .u64 y2 4])) S rfl (resD_cell rfl (.there .here) T33 rfl rfl) fun ok => ⟨rfl, ok, S.below0⟩
    refine c_region ?_
    refine s_move S rfl rfl ?_; clear S a; intro a S
    refine c_end ?_
    refine wp_block ?_
    refine c_loop (fun q1 a w => ∃ (m : Mem) (y7 : Int) (g20 : Nat) (g21 : Nat) (g22 : Nat) (y8 : List Int), St 46 m (B0 mi w0) [(21, (.v (.int .i64 y7))), (4, (.v (.pointer (some ⟨g20, 0, none⟩)))), (3, (.v (.pointer (some ⟨g21, 0, none⟩)))), (2, (.v (.pointer (some ⟨g22, 0, none⟩))))] [Res.cells g20 33 [.ints .u64 y8 4], Res.cells g21 28 [.ints .u8 (cpy [0, 0, 0, 0, 0, 0, 0, 0, 0, 0, 0, 0, 0, 0, 0, 0, 0, 0, 0, 0, 0, 0, 0, 0, 0, 0, 0, 0, 0, 0, 0, 0] (Int.toNat (wr .i64 (32 - ((y1).length : Int)))) y1 (min (y1).length (Int.toNat 32 - Int.toNat (wr .i64 (32 - ((y1).length : Int)))))) 32], Res.cells g22 33 [.ints .u64 [0, 0, 0, 0] 4]] a w ∧ word_From.l1 k y1 q1 y7 y8 = some r) ?_ ?_ (k := k) ⟨_, 0, g5, g3, g4, [0, 0, 0, 0], (S.sub ⟨rfl, rfl, rfl, rfl, trivial⟩ (.cons .here (.cons .here (.cons .here .nil)))), h1⟩
    · rintro a w ⟨m, y7, g20, g21, g22, y8, S, h0⟩
      exact (nomatch (show (none : Option (List Int)) = some r from h0))
    · clear S h1
      rintro q1 a w ⟨m, y7, g20, g21, g22, y8, S, h0⟩
      replace h0 : word_From.b1 k y1 (word_From.l1 k y1 q1) y7 y8 = some r := h0
      delta word_From.b1 at h0
      refine c_region ?_
      refine s_bin S rfl rfl rfl rfl ?_; clear S a; intro a S
      refine c_end ?_
      refine wp_seq ?_
      rcases ite_of h0 with ⟨c2, h1⟩ | ⟨c2, h1⟩ <;> clear h0
      · refine c_condT S rfl c2 ?_
        refine wp_skip ?_
        refine x_thenN ?_
        refine wp_seq_k ?_
        intro K3 hK3
        have j3 : ∀ (m : Mem) (g23 : Nat) (g24 : Nat) (g25 : Nat) (y9 : List Int) (a : Act) (w : World), St 46 m (B0 mi w0) [(21, (.v (.int .i64 y7))), (4, (.v (.pointer (some ⟨g23, 0, none⟩)))), (3, (.v (.pointer (some ⟨g24, 0, none⟩)))), (2, (.v (.pointer (some ⟨g25, 0, none⟩))))] [Res.cells g23 33 [.ints .u64 y9 4], Res.cells g24 28 [.ints .u8 (cpy [0, 0, 0, 0, 0, 0, 0, 0, 0, 0, 0, 0, 0, 0, 0, 0, 0, 0, 0, 0, 0, 0, 0, 0, 0, 0, 0, 0, 0, 0, 0, 0] (Int.toNat (wr .i64 (32 - ((y1).length : Int)))) y1 (min (y1).length (Int.toNat 32 - Int.toNat (wr .i64 (32 - ((y1).length : Int)))))) 32], Res.cells g25 33 [.ints .u64 [0, 0, 0, 0] 4]] a w → word_From.j3 y7 (word_From.l1 k y1 q1) y9 = some r → K3 a w := by
          intro m g23 g24 g25 y9 a w S h0
          delta word_From.j3 at h0
          refine hK3 a w ?_
          refine c_region' ?_
          refine s_bin S rfl rfl rfl rfl ?_; clear S a; intro a S
          refine s_move S rfl rfl ?_; clear S a; intro a S
          refine c_end' ?_
          refine x_thenN ?_
          exact ⟨_, (wr .i64 (y7 + 1)), g23, g24, g25, y9, (S.sub ⟨rfl, rfl, rfl, rfl, trivial⟩ (.cons .here (.cons .here (.cons .here .nil)))), h0⟩
        refine wp_block ?_
        refine c_region ?_
        refine s_move S rfl rfl ?_; clear S a; intro a S
        refine s_assign S rfl rfl ?_; clear S a; intro a S
        refine c_end ?_
        refine c_region ?_
        refine s_move S rfl rfl ?_; clear S a; intro a S
        refine c_end ?_
        refine wp_block ?_
        refine c_loop (fun q2 a w => ∃ (m : Mem) (y12 : Int) (g32 : Nat) (g33 : Nat) (g34 : Nat) (y13 : List Int), St 46 m (B0 mi w0) [(24, (.v (.int .i64 y12))), (5, (.v (.int .i64 y7))), (21, (.v (.int .i64 y7))), (4, (.v (.pointer (some ⟨g32, 0, none⟩)))), (3, (.v (.pointer (some ⟨g33, 0, none⟩)))), (2, (.v (.pointer (some ⟨g34, 0, none⟩))))] [Res.cells g32 33 [.ints .u64 y13 4], Res.cells g33 28 [.ints .u8 (cpy [0, 0, 0, 0, 0, 0, 0, 0, 0, 0, 0, 0, 0, 0, 0, 0, 0, 0, 0, 0, 0, 0, 0, 0, 0, 0, 0, 0, 0, 0, 0, 0] (Int.toNat (wr .i64 (32 - ((y1).length : Int)))) y1 (min (y1).length (Int.toNat 32 - Int.toNat (wr .i64 (32 - ((y1).length : Int)))))) 32], Res.cells g34 33 [.ints .u64 [0, 0, 0, 0] 4]] a w ∧ word_From.l2 y1 y7 (word_From.l1 k y1 q1) q2 y12 y13 = some r) ?_ ?_ (k := k) ⟨_, 0, g20, g21, g22, y8, (S.sub ⟨rfl, rfl, rfl, rfl, rfl, rfl, trivial⟩ (.cons .here (.cons .here (.cons .here .nil)))), h1⟩
        · rintro a w ⟨m, y12, g32, g33, g34, y13, S, h0⟩
          exact (nomatch (show (none : Option (List Int)) = some r from h0))
        · clear S h1
          rintro q2 a w ⟨m, y12, g32, g33, g34, y13, S, h0⟩
          replace h0 : word_From.b2 y1 y7 (word_From.l1 k y1 q1) (word_From.l2 y1 y7 (word_From.l1 k y1 q1) q2) y12 y13 = some r := h0
          delta word_From.b2 at h0
          refine c_region ?_
          refine s_bin S rfl rfl rfl rfl ?_; clear S a; intro a S
          refine c_end ?_
          refine wp_seq ?_
          rcases ite_of h0 with ⟨c3, h1⟩ | ⟨c3, h1⟩ <;> clear h0
          · refine c_condT S rfl c3 ?_
            refine wp_skip ?_
            refine x_thenN ?_
            refine wp_seq ?_
            refine wp_block ?_
            refine c_region ?_
            refine s_move S rfl rfl ?_; clear S a; intro a S
            refine s_assign S rfl rfl ?_; clear S a; intro a S
            refine c_end ?_
            refine c_heldS S (.take 0 (.take 1 (.take 2 (.take 3 (.take 4 (.take 5 (.take 6 (.take 7 (.take 8 (.take 9 (.take 10 (.take 11 (.take 12 (.take 13 (.take 14 (.take 15 (.alts (.run 16 false .done .nil)))))))))))))))))) 16 [Res.cells g32 33 [.ints .u64 y13 4], Res.cells g33 28 [.ints .u8 (cpy [0, 0, 0, 0, 0, 0, 0, 0, 0, 0, 0, 0, 0, 0, 0, 0, 0, 0, 0, 0, 0, 0, 0, 0, 0, 0, 0, 0, 0, 0, 0, 0] (Int.toNat (wr .i64 (32 - ((y1).length : Int)))) y1 (min (y1).length (Int.toNat 32 - Int.toNat (wr .i64 (32 - ((y1).length : Int)))))) 32], Res.cells g34 33 [.ints .u64 [0, 0, 0, 0] 4]] (.cons .here (.cons .here (.cons .here .nil))) ⟨Res.stay_cells, Res.stay_cells, Res.stay_cells, trivial⟩ [(6, (.v (.int .i64 y12))), (5, (.v (.int .i64 y7))), (4, (.v (.pointer (some ⟨g32, 0, none⟩)))), (3, (.v (.pointer (some ⟨g33, 0, none⟩))))] ⟨rfl, rfl, rfl, rfl, trivial⟩ (by kernel_rfl) (by kernel_rfl) ?_; clear S; intro w S CL hw le
            refine h_move S CL hw le ⟨rfl, rfl, rfl, rfl, trivial⟩ rfl rfl rfl trivial ?_; clear S CL a; intro a S CL
            obtain ⟨c4, h2⟩ := chk_of h1; clear h1
            refine h_iaddr S CL hw le ⟨rfl, rfl, rfl, rfl, rfl, trivial⟩ rfl rfl Tryd.underlying33 T22 c4.1 c4.2 (mul1 _ _) rfl rfl trivial ?_; clear S CL a; intro a S CL
            refine h_loadi S CL hw le ⟨rfl, rfl, rfl, rfl, rfl, rfl, trivial⟩ (i := y7) rfl .here T22 .here rfl c4.1 c4.2 rfl rfl trivial ?_; clear S CL a; intro a S CL
            refine h_move S CL hw le ⟨rfl, rfl, rfl, rfl, rfl, rfl, rfl, trivial⟩ rfl rfl rfl trivial ?_; clear S CL a; intro a S CL
            refine h_bin S CL hw le ⟨rfl, rfl, rfl, rfl, rfl, rfl, rfl, rfl, trivial⟩ rfl rfl rfl rfl rfl trivial ?_; clear S CL a; intro a S CL
            refine h_bin S CL hw le ⟨rfl, rfl, rfl, rfl, rfl, rfl, rfl, rfl, rfl, trivial⟩ rfl rfl rfl rfl rfl trivial ?_; clear S CL a; intro a S CL
            refine h_move S CL hw le ⟨rfl, rfl, rfl, rfl, rfl, rfl, rfl, rfl, rfl, rfl, trivial⟩ rfl rfl rfl trivial ?_; clear S CL a; intro a S CL
            refine h_bin S CL hw le ⟨rfl, rfl, rfl, rfl, rfl, rfl, rfl, rfl, rfl, rfl, rfl, trivial⟩ rfl rfl rfl rfl rfl trivial ?_; clear S CL a; intro a S CL
            obtain ⟨c5, h3⟩ := chk_of h2; clear h2
            refine h_iaddr S CL hw le ⟨rfl, rfl, rfl, rfl, rfl, rfl, rfl, rfl, rfl, rfl, rfl, rfl, trivial⟩ rfl rfl Tryd.underlying28 T5 c5.1 c5.2 (mul1 _ _) rfl rfl trivial ?_; clear S CL a; intro a S CL
            refine h_loadi S CL hw le ⟨rfl, rfl, rfl, rfl, rfl, rfl, rfl, rfl, rfl, rfl, rfl, rfl, rfl, trivial⟩ (i := (wr .i64 ((wr .i64 (31 - (wr .i64 (8 * y7)))) - y12))) rfl (.there .here) T5 .here rfl c5.1 c5.2 rfl rfl trivial ?_; clear S CL a; intro a S CL
            refine h_conv S CL hw le ⟨rfl, rfl, rfl, rfl, rfl, rfl, rfl, rfl, rfl, rfl, rfl, rfl, rfl, rfl, trivial⟩ rfl rfl Tryd.underlying22 rfl rfl trivial ?_; clear S CL a; intro a S CL
            refine h_move S CL hw le ⟨rfl, rfl, rfl, rfl, rfl, rfl, rfl, rfl, rfl, rfl, rfl, rfl, rfl, rfl, rfl, trivial⟩ rfl rfl rfl trivial ?_; clear S CL a; intro a S CL
            refine h_bin S CL hw le ⟨rfl, rfl, rfl, rfl, rfl, rfl, rfl, rfl, rfl, rfl, rfl, rfl, rfl, rfl, rfl, rfl, trivial⟩ rfl rfl rfl rfl rfl trivial ?_; clear S CL a; intro a S CL
            obtain ⟨c6, h4⟩ := chk_of h3; clear h3
            refine h_shl S CL hw le ⟨rfl, rfl, rfl, rfl, rfl, rfl, rfl, rfl, rfl, rfl, rfl, rfl, rfl, rfl, rfl, rfl, rfl, trivial⟩ (e := (min (Int.toNat (wr .i64 (8 * y12))) 64)) rfl rfl c6 rfl rfl rfl trivial ?_; clear S CL a; intro a S CL
            refine h_bin S CL hw le ⟨rfl, rfl, rfl, rfl, rfl, rfl, rfl, rfl, rfl, rfl, rfl, rfl, rfl, rfl, rfl, rfl, rfl, rfl, trivial⟩ rfl rfl rfl rfl rfl trivial ?_; clear S CL a; intro a S CL
            refine h_iaddr S CL hw le ⟨rfl, rfl, rfl, rfl, rfl, rfl, rfl, rfl, rfl, rfl, rfl, rfl, rfl, rfl, rfl, rfl, rfl, rfl, rfl, trivial⟩ rfl rfl Tryd.underlying33 T22 c4.1 c4.2 (mul1 _ _) rfl rfl trivial ?_; clear S CL a; intro a S CL
            refine h_run' S rfl trivial ?_
            refine s_storei S (i := y7) rfl rfl .here T22 .here rfl c4.1 c4.2 ?_; clear S; intro w S
            refine h_back ⟨fun h => (nomatch h), ?_⟩
            refine h_done ?_; clear CL hw le
            refine x_blockN ?_
            refine x_thenN ?_
            refine c_region' ?_
            refine s_bin S rfl rfl rfl rfl ?_; clear S a; intro a S
            refine s_move S rfl rfl ?_; clear S a; intro a S
            refine c_end' ?_
            refine x_thenN ?_
            exact ⟨_, (wr .i64 (y12 + 1)), g32, g33, g34, (y13.set (Int.toNat y7) (bits .or .u64 (rd y13 y7) (shl .u64 (wr .u64 (rd (cpy [0, 0, 0, 0, 0, 0, 0, 0, 0, 0, 0, 0, 0, 0, 0, 0, 0, 0, 0, 0, 0, 0, 0, 0, 0, 0, 0, 0, 0, 0, 0, 0] (Int.toNat (wr .i64 (32 - ((y1).length : Int)))) y1 (min (y1).length (Int.toNat 32 - Int.toNat (wr .i64 (32 - ((y1).length : Int)))))) (wr .i64 ((wr .i64 (31 - (wr .i64 (8 * y7)))) - y12)))) (min (Int.toNat (wr .i64 (8 * y12))) 64)))), (S.sub ⟨rfl, rfl, rfl, rfl, rfl, rfl, trivial⟩ (.cons .here (.cons .here (.cons .here .nil)))), h4⟩
          · refine c_condF S rfl c3 ?_
            refine wp_exit ?_
            refine x_thenX ?_
            refine x_thenX ?_
            refine x_blockX ?_
            refine x_blockN ?_
            refine x_thenN ?_
            exact j3 _ g32 g33 g34 y13 a w (S.sub ⟨rfl, rfl, rfl, rfl, trivial⟩ (.cons .here (.cons .here (.cons .here .nil)))) h1
      · refine c_condF S rfl c2 ?_
        refine wp_exit ?_
        refine x_thenX ?_
        refine x_thenX ?_
        refine x_blockX ?_
        refine x_thenN ?_
        exact j2 _ g20 g22 y8 a w (S.sub ⟨rfl, rfl, trivial⟩ (.cons .here (.cons (.there .here) .nil))) h1
  refine c_region ?_
  refine s_move S rfl rfl ?_; clear S a; intro a S
  refine s_lenS S rfl Tryd.underlying27 rfl ?_; clear S a; intro a S
  refine s_bin S rfl rfl rfl rfl ?_; clear S a; intro a S
  refine c_end ?_
  rcases ite_of h0 with ⟨c7, h1⟩ | ⟨c7, h1⟩ <;> clear h0
  · refine c_condT S rfl c7 ?_
    refine c_region' ?_
    refine s_move S rfl rfl ?_; clear S a; intro a S
    refine s_move S rfl rfl ?_; clear S a; intro a S
    refine s_lenS S rfl Tryd.underlying27 rfl ?_; clear S a; intro a S
    refine s_bin S rfl rfl rfl rfl ?_; clear S a; intro a S
    obtain ⟨c8, h2⟩ := chk_of h1; clear h1
    refine s_cutS S (i := (wr .i64 (((x1).length : Int) - 32))) (j := ((x1).length : Int)) (ys := x1.drop (Int.toNat (wr .i64 (((x1).length : Int) - 32)))) rfl rfl Tryd.underlying27 T5 (.inr ⟨_, _, rfl, rfl⟩) (.inl ⟨rfl, rfl⟩) c8 rfl (by simp) ?_; clear S a; intro A2 cp2 a S
    refine s_assign S rfl rfl ?_; clear S a; intro a S
    refine c_end' ?_
    refine x_thenN ?_
    exact j1 _ A2 cp2 (x1.drop (Int.toNat (wr .i64 (((x1).length : Int) - 32)))) g2 g1 a w (S.sub ⟨rfl, rfl, rfl, trivial⟩ (.cons .here (.cons .here .nil))) h2
  · refine c_condF S rfl c7 ?_
    refine wp_skip ?_
    refine x_thenN ?_
    exact j1 _ ch_x1.1 ch_x1.2 x1 g2 g1 a w (S.sub ⟨rfl, rfl, rfl, trivial⟩ (.cons .here (.cons .here .nil))) h1
/-! smithy/keccak.Word -/
def keccak_Word.f (k : Nat) (x1 : List Int) : Option (List Int) := (keccak_Sum.f k x1).bind fun t1 => ((word_From.f k (((t1).drop 0).take 32)).bind fun t2 => (some t2))
theorem keccak_Word.ok (k : Nat) (x1 : List Int) (ch_x1 : Option Addr × Nat) (r : List Int) (h0 : keccak_Word.f k x1 = some r) (mi : Mem) (w0 : World) (G : Glob mi) : okL mi [(.sl ch_x1.1 (x1).length ch_x1.2 (RdS (Ty.int .u8) ch_x1.1 x1))] → Frz mi w0 → Calls Tryd.prog 11 (([(.sl ch_x1.1 (x1).length ch_x1.2 (RdS (Ty.int .u8) ch_x1.1 x1))] : List D).map D.val).toArray w0 (Ret mi (.agg [.ints .u64 r 4]) w0) := by
  intro ok hm
  delta keccak_Word.f at h0
  refine c_enter (n := 8) [(.sl ch_x1.1 (x1).length ch_x1.2 (RdS (Ty.int .u8) ch_x1.1 x1))] (l := [(0, (.sl ch_x1.1 (x1).length ch_x1.2 (RdS (Ty.int .u8) ch_x1.1 x1)))]) Tryd.func11 rfl rfl rfl rfl ok hm ?_
  clear ok hm
  intro a S
  refine c_region ?_
  refine s_alloc S Z33 rfl ⟨rfl, trivial⟩ rfl ?_; clear S a; intro g1 a w S
  refine c_end ?_
  refine c_region ?_
  refine s_move S rfl rfl ?_; clear S a; intro a S
  obtain ⟨t1, et1, h1⟩ := bind_of h0; clear h0
  refine s_call S (ds := [(.sl ch_x1.1 (x1).length ch_x1.2 (RdS (Ty.int .u8) ch_x1.1 x1))]) (d := (.agg [.ints .u8 t1 32])) N9 rfl rfl (keccak_Sum.ok k x1 (ch_x1.1, ch_x1.2) t1 et1 _ _ (G.mono S.le)) ?_; clear S a w; intro a w S
  refine s_alloc S Z29 rfl ⟨rfl, trivial⟩ rfl ?_; clear S a w; intro g2 a w S
  refine s_store S rfl rfl rfl (s' := [.ints .u8 t1 32]) .here T29 rfl rfl ?_; clear S w; intro w S
  refine c_end ?_
  refine c_region ?_
  refine s_sliceA S (i := 0) (j := 32) (o' := 0) (len := 32) (cap := 32) rfl Tryd.underlying29 T5 (.inl ⟨rfl, rfl⟩) (.inl ⟨rfl, rfl⟩) (by decide) rfl rfl rfl rfl ?_; clear S a; intro a S
  replace S := S.freeze .here
  obtain ⟨m, le1, S⟩ := S
  replace S := (S.slup' (u := 6) (lo := 0) (c := 32) (ys := ((t1).drop 0).take 32) rfl (Pull.mem .here).1 .here (.inl rfl) (by decide) (by decide) rfl).2
  obtain ⟨t2, et2, h2⟩ := bind_of h1; clear h1
  refine s_call S (ds := [(.sl (some ⟨g2, 0, none⟩) (((t1).drop 0).take 32).length 32 (RdS (Ty.int .u8) (some ⟨g2, 0, none⟩) (((t1).drop 0).take 32)))]) (d := (.agg [.ints .u64 t2 4])) N17 rfl rfl (word_From.ok k (((t1).drop 0).take 32) ((some ⟨g2, 0, none⟩), 32) t2 et2 _ _) ?_; clear S a w; intro a w S
  refine s_store S rfl rfl rfl (s' := [.ints .u64 t2 4]) (.there .here) T33 rfl rfl ?_; clear S w; intro w S
  refine c_end ?_
  refine wp_ret ?_
  obtain rfl := Option.some.inj h2
  exact b_ret1 (d := (.agg [.ints .u64 t2 4])) S rfl (resD_cell rfl (.there .here) T33 rfl rfl) fun ok => ⟨rfl, ok, S.below0⟩
/-! smithy/smithyref01.From -/
def smithyref01_From.j1 (y1 : List Int) : Option (List Int) := some y1
def smithyref01_From.j2 (x1 : List Int) (y5 : Int) (y6 : List Int) (rec1 : Int → (List Int) → Option (List Int)) (y7 : Bool) : Option (List Int) := if y7 = true then (if 0 ≤ (wr .i64 ((wr .i64 (((x1).length : Int) - 1)) - y5)) ∧ (wr .i64 ((wr .i64 (((x1).length : Int) - 1)) - y5)) < ((x1).length : Int) then (if 0 ≤ y5 ∧ y5 < 32 then (rec1 (wr .i64 (y5 + 1)) (y6.set (Int.toNat y5) (wr .i64 (rd x1 (wr .i64 ((wr .i64 (((x1).length : Int) - 1)) - y5)))))) else none) else none) else (smithyref01_From.j1 y6)
def smithyref01_From.b1 (x1 : List Int) (rec1 : Int → (List Int) → Option (List Int)) (y5 : Int) (y6 : List Int) : Option (List Int) := if (decide (y5 < 32)) = true then (smithyref01_From.j2 x1 y5 y6 rec1 (decide (y5 < ((x1).length : Int)))) else (smithyref01_From.j2 x1 y5 y6 rec1 false)
def smithyref01_From.l1 (x1 : List Int) : Nat → Int → (List Int) → Option (List Int)
  | 0, _, _ => none
  | q + 1, y5, y6 => smithyref01_From.b1 x1 (smithyref01_From.l1 x1 q) y5 y6
def smithyref01_From.f (k : Nat) (x1 : List Int) : Option (List Int) := smithyref01_From.l1 x1 k 0 [0, 0, 0, 0, 0, 0, 0, 0, 0, 0, 0, 0, 0, 0, 0, 0, 0, 0, 0, 0, 0, 0, 0, 0, 0, 0, 0, 0, 0, 0, 0, 0]
theorem smithyref01_From.ok (k : Nat) (x1 : List Int) (ch_x1 : Option Addr × Nat) (r : List Int) (h0 : smithyref01_From.f k x1 = some r) (mi : Mem) (w0 : World) : okL mi [(.sl ch_x1.1 (x1).length ch_x1.2 (RdS (Ty.int .u8) ch_x1.1 x1))] → Frz mi w0 → Calls Tryd.prog 18 (([(.sl ch_x1.1 (x1).length ch_x1.2 (RdS (Ty.int .u8) ch_x1.1 x1))] : List D).map D.val).toArray w0 (Ret mi (.agg [.ints .i64 r 32]) w0) := by
  intro ok hm
  delta smithyref01_From.f at h0
  refine c_enter (n := 28) [(.sl ch_x1.1 (x1).length ch_x1.2 (RdS (Ty.int .u8) ch_x1.1 x1))] (l := [(0, (.sl ch_x1.1 (x1).length ch_x1.2 (RdS (Ty.int .u8) ch_x1.1 x1)))]) Tryd.func18 rfl rfl rfl rfl ok hm ?_
  clear ok hm
  intro a S
  refine c_region ?_
  refine s_alloc S Z42 rfl ⟨rfl, trivial⟩ rfl ?_; clear S a; intro g1 a w S
  refine c_end ?_
  refine c_region ?_
  refine s_build S (ds := []) (dv := (.agg [.ints .i64 [0, 0, 0, 0, 0, 0, 0, 0, 0, 0, 0, 0, 0, 0, 0, 0, 0, 0, 0, 0, 0, 0, 0, 0, 0, 0, 0, 0, 0, 0, 0, 0] 32])) rfl (fun _ => by kernel_rfl) ⟨rfl, trivial⟩ rfl ?_; clear S a; intro a S
  refine s_alloc S Z42 rfl ⟨rfl, trivial⟩ rfl ?_; clear S a w; intro g2 a w S
  refine s_store S rfl rfl rfl (s' := [.ints .i64 [0, 0, 0, 0, 0, 0, 0, 0, 0, 0, 0, 0, 0, 0, 0, 0, 0, 0, 0, 0, 0, 0, 0, 0, 0, 0, 0, 0, 0, 0, 0, 0] 32]) .here T42 rfl rfl ?_; clear S w; intro w S
  refine c_end ?_
  refine wp_seq_k ?_
  intro K1 hK1
  have j1 : ∀ (m : Mem) (g3 : Nat) (g4 : Nat) (y1 : List Int) (a : Act) (w : World), St 28 m (B0 mi w0) [(3, (.v (.pointer (some ⟨g3, 0, none⟩)))), (2, (.v (.pointer (some ⟨g4, 0, none⟩))))] [Res.cells g3 42 [.ints .i64 y1 32], Res.cells g4 42 [.ints .i64 [0, 0, 0, 0, 0, 0, 0, 0, 0, 0, 0, 0, 0, 0, 0, 0, 0, 0, 0, 0, 0, 0, 0, 0, 0, 0, 0, 0, 0, 0, 0, 0] 32]] a w → smithyref01_From.j1 y1 = some r → K1 a w := by
    intro m g3 g4 y1 a w S h0
    delta smithyref01_From.j1 at h0
    refine hK1 a w ?_
    refine c_region ?_
    refine s_loada S rfl .here T42 (s' := [.ints .i64 y1 32]) rfl rfl ?_; clear S a; intro a S
    refine s_store S rfl rfl rfl (s' := [.ints .i64 y1 32]) (.there .here) T42 rfl rfl ?_; clear S w; intro w S
    refine c_end ?_
    refine wp_ret ?_
    obtain rfl := Option.some.inj h0
    exact b_ret1 (d := (.agg [.ints .i64 y1 32])) S rfl (resD_cell rfl (.there .here) T42 rfl rfl) fun ok => ⟨rfl, ok, S.below0⟩
  refine c_region ?_
  refine s_assign S rfl rfl ?_; clear S a; intro a S
  refine c_end ?_
  refine wp_block ?_
  refine c_loop (fun q1 a w => ∃ (m : Mem) (y5 : Int) (g11 : Nat) (g12 : Nat) (y6 : List Int), St 28 m (B0 mi w0) [(4, (.v (.int .i64 y5))), (3, (.v (.pointer (some ⟨g11, 0, none⟩)))), (2, (.v (.pointer (some ⟨g12, 0, none⟩)))), (0, (.sl ch_x1.1 (x1).length ch_x1.2 (RdS (Ty.int .u8) ch_x1.1 x1)))] [Res.cells g11 42 [.ints .i64 y6 32], Res.cells g12 42 [.ints .i64 [0, 0, 0, 0, 0, 0, 0, 0, 0, 0, 0, 0, 0, 0, 0, 0, 0, 0, 0, 0, 0, 0, 0, 0, 0, 0, 0, 0, 0, 0, 0, 0] 32]] a w ∧ smithyref01_From.l1 x1 q1 y5 y6 = some r) ?_ ?_ (k := k) ⟨_, 0, g2, g1, [0, 0, 0, 0, 0, 0, 0, 0, 0, 0, 0, 0, 0, 0, 0, 0, 0, 0, 0, 0, 0, 0, 0, 0, 0, 0, 0, 0, 0, 0, 0, 0], (S.sub ⟨rfl, rfl, rfl, rfl, trivial⟩ (.cons .here (.cons .here .nil))), h0⟩
  · rintro a w ⟨m, y5, g11, g12, y6, S, h0⟩
    exact (nomatch (show (none : Option (List Int)) = some r from h0))
  · clear S h0
    rintro q1 a w ⟨m, y5, g11, g12, y6, S, h0⟩
    replace h0 : smithyref01_From.b1 x1 (smithyref01_From.l1 x1 q1) y5 y6 = some r := h0
    delta smithyref01_From.b1 at h0
    refine wp_seq ?_
    refine wp_seq_k ?_
    intro K2 hK2
    have j2 : ∀ (m : Mem) (y7 : Bool) (g13 : Nat) (g14 : Nat) (a : Act) (w : World), St 28 m (B0 mi w0) [(13, (.v (.bool y7))), (4, (.v (.int .i64 y5))), (3, (.v (.pointer (some ⟨g13, 0, none⟩)))), (2, (.v (.pointer (some ⟨g14, 0, none⟩)))), (0, (.sl ch_x1.1 (x1).length ch_x1.2 (RdS (Ty.int .u8) ch_x1.1 x1)))] [Res.cells g13 42 [.ints .i64 y6 32], Res.cells g14 42 [.ints .i64 [0, 0, 0, 0, 0, 0, 0, 0, 0, 0, 0, 0, 0, 0, 0, 0, 0, 0, 0, 0, 0, 0, 0, 0, 0, 0, 0, 0, 0, 0, 0, 0] 32]] a w → smithyref01_From.j2 x1 y5 y6 (smithyref01_From.l1 x1 q1) y7 = some r → K2 a w := by
      intro m y7 g13 g14 a w S h0
      delta smithyref01_From.j2 at h0
      refine hK2 a w ?_
      rcases ite_of h0 with ⟨c1, h1⟩ | ⟨c1, h1⟩ <;> clear h0
      · refine c_condT S rfl c1 ?_
        refine wp_skip ?_
        refine x_thenN ?_
        refine wp_seq ?_
        refine wp_block ?_
        refine c_region' ?_
        refine s_move S rfl rfl ?_; clear S a; intro a S
        refine s_move S rfl rfl ?_; clear S a; intro a S
        refine s_move S rfl rfl ?_; clear S a; intro a S
        refine s_lenS S rfl Tryd.underlying27 rfl ?_; clear S a; intro a S
        refine s_bin S rfl rfl rfl rfl ?_; clear S a; intro a S
        refine s_move S rfl rfl ?_; clear S a; intro a S
        refine s_bin S rfl rfl rfl rfl ?_; clear S a; intro a S
        obtain ⟨c2, h2⟩ := chk_of h1; clear h1
        refine s_iaddrS S rfl rfl rfl Tryd.underlying27 T5 c2.1 c2.2 rfl ?_; clear S a; intro p1 a S
        refine s_ld1 S (v := (.int .u8 (rd x1 (wr .i64 ((wr .i64 (((x1).length : Int) - 1)) - y5))))) rfl T5 (fun _ => rfl) rfl ?_; clear S a; intro a S
        refine s_conv S rfl rfl Tryd.underlying3 rfl ?_; clear S a; intro a S
        obtain ⟨c3, h3⟩ := chk_of h2; clear h2
        refine s_iaddr S rfl rfl Tryd.underlying42 T3 c3.1 c3.2 (mul1 _ _) rfl ?_; clear S a; intro a S
        refine s_storei S (i := y5) rfl rfl .here T3 .here rfl c3.1 c3.2 ?_; clear S w; intro w S
        refine c_end' ?_
        refine x_blockN ?_
        refine x_thenN ?_
        refine c_region' ?_
        refine s_move S rfl rfl ?_; clear S a; intro a S
        refine s_bin S rfl rfl rfl rfl ?_; clear S a; intro a S
        refine s_assign S rfl rfl ?_; clear S a; intro a S
        refine c_end' ?_
        refine x_thenN ?_
        exact ⟨_, (wr .i64 (y5 + 1)), g13, g14, (y6.set (Int.toNat y5) (wr .i64 (rd x1 (wr .i64 ((wr .i64 (((x1).length : Int) - 1)) - y5))))), (S.sub ⟨rfl, rfl, rfl, rfl, trivial⟩ (.cons .here (.cons .here .nil))), h3⟩
      · refine c_condF S rfl c1 ?_
        refine wp_exit ?_
        refine x_thenX ?_
        refine x_thenX ?_
        refine x_blockX ?_
        refine x_thenN ?_
        exact j1 _ g13 g14 y6 a w (S.sub ⟨rfl, rfl, trivial⟩ (.cons .here (.cons .here .nil))) h1
    refine c_region' ?_
    refine s_move S rfl rfl ?_; clear S a; intro a S
    refine s_bin S rfl rfl rfl rfl ?_; clear S a; intro a S
    refine s_move S rfl rfl ?_; clear S a; intro a S
    rcases ite_of h0 with ⟨c4, h1⟩ | ⟨c4, h1⟩ <;> clear h0
    · refine s_gT S (b := (decide (y5 < 32))) rfl rfl c4 ?_
      refine s_move S rfl rfl ?_; clear S a; intro a S
      refine s_gT S (b := (decide (y5 < 32))) rfl rfl c4 ?_
      refine s_move S rfl rfl ?_; clear S a; intro a S
      refine s_gT S (b := (decide (y5 < 32))) rfl rfl c4 ?_
      refine s_lenS S rfl Tryd.underlying27 rfl ?_; clear S a; intro a S
      refine s_gT S (b := (decide (y5 < 32))) rfl rfl c4 ?_
      refine s_bin S rfl rfl rfl rfl ?_; clear S a; intro a S
      refine s_pick S (b := true) (hc_of rfl c4) rfl rfl ?_; clear S a; intro a S
      refine c_end' ?_
      refine x_thenN ?_
      exact j2 _ (decide (y5 < ((x1).length : Int))) g11 g12 a w (S.sub ⟨rfl, rfl, rfl, rfl, rfl, trivial⟩ (.cons .here (.cons .here .nil))) h1
    · refine s_gF S (b := (decide (y5 < 32))) rfl rfl c4 rfl ?_; clear S a; intro a S
      refine s_gF S (b := (decide (y5 < 32))) rfl rfl c4 rfl ?_; clear S a; intro a S
      refine s_gF S (b := (decide (y5 < 32))) rfl rfl c4 rfl ?_; clear S a; intro a S
      refine s_gF S (b := (decide (y5 < 32))) rfl rfl c4 rfl ?_; clear S a; intro a S
      refine s_pick S (b := false) (hc_of rfl c4) rfl rfl ?_; clear S a; intro a S
      refine c_end' ?_
      refine x_thenN ?_
      exact j2 _ false g11 g12 a w (S.sub ⟨rfl, rfl, rfl, rfl, rfl, trivial⟩ (.cons .here (.cons .here .nil))) h1
/-! (smithy/smithyref01.D).Word -/
def smithyref01_D_Word.j1 (y1 : List Int) : Option (List Int) := some y1
def smithyref01_D_Word.b1 (x1 : List Int) (rec1 : Int → (List Int) → Option (List Int)) (y4 : Int) (y5 : List Int) : Option (List Int) := if (decide (0 ≤ y4)) = true then (if 0 ≤ (wr .i64 (Int.tdiv y4 8)) ∧ (wr .i64 (Int.tdiv y4 8)) < 4 then (if 0 ≤ y4 ∧ y4 < 32 then (rec1 (wr .i64 (y4 - 1)) (y5.set (Int.toNat (wr .i64 (Int.tdiv y4 8))) (wr .u64 ((wr .u64 ((rd y5 (wr .i64 (Int.tdiv y4 8))) * 256)) + (wr .u64 (rd x1 y4)))))) else none) else none) else (smithyref01_D_Word.j1 y5)
def smithyref01_D_Word.l1 (x1 : List Int) : Nat → Int → (List Int) → Option (List Int)
  | 0, _, _ => none
  | q + 1, y4, y5 => smithyref01_D_Word.b1 x1 (smithyref01_D_Word.l1 x1 q) y4 y5
def smithyref01_D_Word.f (k : Nat) (x1 : List Int) : Option (List Int) := smithyref01_D_Word.l1 x1 k 31 [0, 0, 0, 0]
theorem smithyref01_D_Word.ok (k : Nat) (x1 : List Int) (r : List Int) (h0 : smithyref01_D_Word.f k x1 = some r) (mi : Mem) (w0 : World) : okL mi [(.agg [.ints .i64 x1 32])] → Frz mi w0 → Calls Tryd.prog 19 (([(.agg [.ints .i64 x1 32])] : List D).map D.val).toArray w0 (Ret mi (.agg [.ints .u64 r 4]) w0) := by
  intro ok hm
  delta smithyref01_D_Word.f at h0
  refine c_enter (n := 24) [(.agg [.ints .i64 x1 32])] (l := [(0, (.agg [.ints .i64 x1 32]))]) Tryd.func19 rfl rfl rfl rfl ok hm ?_
  clear ok hm
  intro a S
  refine c_region ?_
  refine s_box S rfl rfl rfl ?_; clear S a; intro g1 a w S
  refine s_alloc S Z33 rfl ⟨rfl, trivial⟩ rfl ?_; clear S a w; intro g2 a w S
  refine c_end ?_
  refine c_region ?_
  refine s_build S (ds := []) (dv := (.agg [.ints .u64 [0, 0, 0, 0] 4])) rfl (fun _ => by kernel_rfl) ⟨rfl, trivial⟩ rfl ?_; clear S a; intro a S
  refine s_alloc S Z33 rfl ⟨rfl, trivial⟩ rfl ?_; clear S a w; intro g3 a w S
  refine s_store S rfl rfl rfl (s' := [.ints .u64 [0, 0, 0, 0] 4]) .here T33 rfl rfl ?_; clear S w; intro w S
  refine c_end ?_
  refine wp_seq_k ?_
  intro K1 hK1
  have j1 : ∀ (m : Mem) (g4 : Nat) (g5 : Nat) (y1 : List Int) (a : Act) (w : World), St 24 m (B0 mi w0) [(3, (.v (.pointer (some ⟨g4, 0, none⟩)))), (2, (.v (.pointer (some ⟨g5, 0, none⟩))))] [Res.cells g4 33 [.ints .u64 y1 4], Res.cells g5 33 [.ints .u64 [0, 0, 0, 0] 4]] a w → smithyref01_D_Word.j1 y1 = some r → K1 a w := by
    intro m g4 g5 y1 a w S h0
    delta smithyref01_D_Word.j1 at h0
    refine hK1 a w ?_
    refine c_region ?_
    refine s_loada S rfl .here T33 (s' := [.ints .u64 y1 4]) rfl rfl ?_; clear S a; intro a S
    refine s_store S rfl rfl rfl (s' := [.ints .u64 y1 4]) (.there .here) T33 rfl rfl ?_; clear S w; intro w S
    refine c_end ?_
    refine wp_ret ?_
    obtain rfl := Option.some.inj h0
    exact b_ret1 (d := (.agg [.ints .u64 y1 4])) S rfl (resD_cell rfl (.there .here) T33 rfl rfl) fun ok => ⟨rfl, ok, S.below0⟩
  refine c_region ?_
  refine s_assign S rfl rfl ?_; clear S a; intro a S
  refine c_end ?_
  refine wp_block ?_
  refine c_loop (fun q1 a w => ∃ (m : Mem) (y4 : Int) (g12 : Nat) (g13 : Nat) (g14 : Nat) (y5 : List Int), St 24 m (B0 mi w0) [(4, (.v (.int .i64 y4))), (3, (.v (.pointer (some ⟨g12, 0, none⟩)))), (2, (.v (.pointer (some ⟨g13, 0, none⟩)))), (1, (.v (.pointer (some ⟨g14, 0, none⟩))))] [Res.cells g12 33 [.ints .u64 y5 4], Res.cells g13 33 [.ints .u64 [0, 0, 0, 0] 4], Res.cells g14 42 [.ints .i64 x1 32]] a w ∧ smithyref01_D_Word.l1 x1 q1 y4 y5 = some r) ?_ ?_ (k := k) ⟨_, 31, g3, g2, g1, [0, 0, 0, 0], (S.sub ⟨rfl, rfl, rfl, rfl, trivial⟩ (.cons .here (.cons .here (.cons .here .nil)))), h0⟩
  · rintro a w ⟨m, y4, g12, g13, g14, y5, S, h0⟩
    exact (nomatch (show (none : Option (List Int)) = some r from h0))
  · clear S h0
    rintro q1 a w ⟨m, y4, g12, g13, g14, y5, S, h0⟩
    replace h0 : smithyref01_D_Word.b1 x1 (smithyref01_D_Word.l1 x1 q1) y4 y5 = some r := h0
    delta smithyref01_D_Word.b1 at h0
    refine wp_seq ?_
    refine c_region ?_
    refine s_move S rfl rfl ?_; clear S a; intro a S
    refine s_bin S rfl rfl rfl rfl ?_; clear S a; intro a S
    refine c_end ?_
    rcases ite_of h0 with ⟨c1, h1⟩ | ⟨c1, h1⟩ <;> clear h0
    · refine c_condT S rfl c1 ?_
      refine wp_skip ?_
      refine x_thenN ?_
      refine wp_seq ?_
      refine wp_block ?_
      refine c_heldS S (.take 0 (.take 1 (.take 2 (.take 3 (.take 4 (.take 5 (.take 6 (.take 7 (.take 8 (.take 9 (.take 10 (.take 11 (.take 12 (.alts (.run 13 false .done .nil))))))))))))))) 13 [Res.cells g12 33 [.ints .u64 y5 4], Res.cells g13 33 [.ints .u64 [0, 0, 0, 0] 4], Res.cells g14 42 [.ints .i64 x1 32]] (.cons .here (.cons .here (.cons .here .nil))) ⟨Res.stay_cells, Res.stay_cells, Res.stay_cells, trivial⟩ [(4, (.v (.int .i64 y4))), (3, (.v (.pointer (some ⟨g12, 0, none⟩)))), (1, (.v (.pointer (some ⟨g14, 0, none⟩))))] ⟨rfl, rfl, rfl, trivial⟩ (by kernel_rfl) (by kernel_rfl) ?_; clear S; intro w S CL hw le
      refine h_move S CL hw le ⟨rfl, rfl, rfl, trivial⟩ rfl rfl rfl trivial ?_; clear S CL a; intro a S CL
      refine h_quo S CL hw le ⟨rfl, rfl, rfl, rfl, trivial⟩ rfl rfl (by decide) rfl rfl trivial ?_; clear S CL a; intro a S CL
      refine h_move S CL hw le ⟨rfl, rfl, rfl, rfl, rfl, trivial⟩ rfl rfl rfl trivial ?_; clear S CL a; intro a S CL
      refine h_quo S CL hw le ⟨rfl, rfl, rfl, rfl, rfl, rfl, trivial⟩ rfl rfl (by decide) rfl rfl trivial ?_; clear S CL a; intro a S CL
      obtain ⟨c2, h2⟩ := chk_of h1; clear h1
      refine h_iaddr S CL hw le ⟨rfl, rfl, rfl, rfl, rfl, rfl, rfl, trivial⟩ rfl rfl Tryd.underlying33 T22 c2.1 c2.2 (mul1 _ _) rfl rfl trivial ?_; clear S CL a; intro a S CL
      refine h_loadi S CL hw le ⟨rfl, rfl, rfl, rfl, rfl, rfl, rfl, rfl, trivial⟩ (i := (wr .i64 (Int.tdiv y4 8))) rfl .here T22 .here rfl c2.1 c2.2 rfl rfl trivial ?_; clear S CL a; intro a S CL
      refine h_bin S CL hw le ⟨rfl, rfl, rfl, rfl, rfl, rfl, rfl, rfl, rfl, trivial⟩ rfl rfl rfl rfl rfl trivial ?_; clear S CL a; intro a S CL
      refine h_move S CL hw le ⟨rfl, rfl, rfl, rfl, rfl, rfl, rfl, rfl, rfl, rfl, trivial⟩ rfl rfl rfl trivial ?_; clear S CL a; intro a S CL
      obtain ⟨c3, h3⟩ := chk_of h2; clear h2
      refine h_iaddr S CL hw le ⟨rfl, rfl, rfl, rfl, rfl, rfl, rfl, rfl, rfl, rfl, rfl, trivial⟩ rfl rfl Tryd.underlying42 T3 c3.1 c3.2 (mul1 _ _) rfl rfl trivial ?_; clear S CL a; intro a S CL
      refine h_loadi S CL hw le ⟨rfl, rfl, rfl, rfl, rfl, rfl, rfl, rfl, rfl, rfl, rfl, rfl, trivial⟩ (i := y4) rfl (.there (.there .here)) T3 .here rfl c3.1 c3.2 rfl rfl trivial ?_; clear S CL a; intro a S CL
      refine h_conv S CL hw le ⟨rfl, rfl, rfl, rfl, rfl, rfl, rfl, rfl, rfl, rfl, rfl, rfl, rfl, trivial⟩ rfl rfl Tryd.underlying22 rfl rfl trivial ?_; clear S CL a; intro a S CL
      refine h_bin S CL hw le ⟨rfl, rfl, rfl, rfl, rfl, rfl, rfl, rfl, rfl, rfl, rfl, rfl, rfl, rfl, trivial⟩ rfl rfl rfl rfl rfl trivial ?_; clear S CL a; intro a S CL
      refine h_iaddr S CL hw le ⟨rfl, rfl, rfl, rfl, rfl, rfl, rfl, rfl, rfl, rfl, rfl, rfl, rfl, rfl, rfl, trivial⟩ rfl rfl Tryd.underlying33 T22 c2.1 c2.2 (mul1 _ _) rfl rfl trivial ?_; clear S CL a; intro a S CL
      refine h_run' S rfl trivial ?_
      refine s_storei S (i := (wr .i64 (Int.tdiv y4 8))) rfl rfl .here T22 .here rfl c2.1 c2.2 ?_; clear S; intro w S
      refine h_back ⟨fun h => (nomatch h), ?_⟩
      refine h_done ?_; clear CL hw le
      refine x_blockN ?_
      refine x_thenN ?_
      refine c_region' ?_
      refine s_move S rfl rfl ?_; clear S a; intro a S
      refine s_bin S rfl rfl rfl rfl ?_; clear S a; intro a S
      refine s_assign S rfl rfl ?_; clear S a; intro a S
      refine c_end' ?_
      refine x_thenN ?_
      exact ⟨_, (wr .i64 (y4 - 1)), g12, g13, g14, (y5.set (Int.toNat (wr .i64 (Int.tdiv y4 8))) (wr .u64 ((wr .u64 ((rd y5 (wr .i64 (Int.tdiv y4 8))) * 256)) + (wr .u64 (rd x1 y4))))), (S.sub ⟨rfl, rfl, rfl, rfl, trivial⟩ (.cons .here (.cons .here (.cons .here .nil)))), h3⟩
    · refine c_condF S rfl c1 ?_
      refine wp_exit ?_
      refine x_thenX ?_
      refine x_thenX ?_
      refine x_blockX ?_
      refine x_thenN ?_
      exact j1 _ g12 g13 y5 a w (S.sub ⟨rfl, rfl, trivial⟩ (.cons .here (.cons .here .nil))) h1
/-! smithy/smithyref05.Word -/
def smithyref05_Word.f (k : Nat) (x1 : List Int) : Option (List Int) := (smithyref05_Sum.f k x1).bind fun t1 => ((smithyref01_From.f k (((t1).drop 0).take 32)).bind fun t2 => ((smithyref01_D_Word.f k t2).bind fun t3 => (some t3)))
theorem smithyref05_Word.ok (k : Nat) (x1 : List Int) (ch_x1 : Option Addr × Nat) (r : List Int) (h0 : smithyref05_Word.f k x1 = some r) (mi : Mem) (w0 : World) : okL mi [(.sl ch_x1.1 (x1).length ch_x1.2 (RdS (Ty.int .u8) ch_x1.1 x1))] → Frz mi w0 → Calls Tryd.prog 12 (([(.sl ch_x1.1 (x1).length ch_x1.2 (RdS (Ty.int .u8) ch_x1.1 x1))] : List D).map D.val).toArray w0 (Ret mi (.agg [.ints .u64 r 4]) w0) := by
  intro ok hm
  delta smithyref05_Word.f at h0
  refine c_enter (n := 9) [(.sl ch_x1.1 (x1).length ch_x1.2 (RdS (Ty.int .u8) ch_x1.1 x1))] (l := [(0, (.sl ch_x1.1 (x1).length ch_x1.2 (RdS (Ty.int .u8) ch_x1.1 x1)))]) Tryd.func12 rfl rfl rfl rfl ok hm ?_
  clear ok hm
  intro a S
  refine c_region ?_
  refine s_alloc S Z33 rfl ⟨rfl, trivial⟩ rfl ?_; clear S a; intro g1 a w S
  refine c_end ?_
  refine c_region ?_
  refine s_move S rfl rfl ?_; clear S a; intro a S
  obtain ⟨t1, et1, h1⟩ := bind_of h0; clear h0
  refine s_call S (ds := [(.sl ch_x1.1 (x1).length ch_x1.2 (RdS (Ty.int .u8) ch_x1.1 x1))]) (d := (.agg [.ints .u8 t1 32])) N10 rfl rfl (smithyref05_Sum.ok k x1 (ch_x1.1, ch_x1.2) t1 et1 _ _) ?_; clear S a w; intro a w S
  refine s_alloc S Z29 rfl ⟨rfl, trivial⟩ rfl ?_; clear S a w; intro g2 a w S
  refine s_store S rfl rfl rfl (s' := [.ints .u8 t1 32]) .here T29 rfl rfl ?_; clear S w; intro w S
  refine c_end ?_
  refine c_region ?_
  refine s_sliceA S (i := 0) (j := 32) (o' := 0) (len := 32) (cap := 32) rfl Tryd.underlying29 T5 (.inl ⟨rfl, rfl⟩) (.inl ⟨rfl, rfl⟩) (by decide) rfl rfl rfl rfl ?_; clear S a; intro a S
  replace S := S.freeze .here
  obtain ⟨m, le1, S⟩ := S
  replace S := (S.slup' (u := 6) (lo := 0) (c := 32) (ys := ((t1).drop 0).take 32) rfl (Pull.mem .here).1 .here (.inl rfl) (by decide) (by decide) rfl).2
  obtain ⟨t2, et2, h2⟩ := bind_of h1; clear h1
  refine s_call S (ds := [(.sl (some ⟨g2, 0, none⟩) (((t1).drop 0).take 32).length 32 (RdS (Ty.int .u8) (some ⟨g2, 0, none⟩) (((t1).drop 0).take 32)))]) (d := (.agg [.ints .i64 t2 32])) N18 rfl rfl (smithyref01_From.ok k (((t1).drop 0).take 32) ((some ⟨g2, 0, none⟩), 32) t2 et2 _ _) ?_; clear S a w; intro a w S
  obtain ⟨t3, et3, h3⟩ := bind_of h2; clear h2
  refine s_call S (ds := [(.agg [.ints .i64 t2 32])]) (d := (.agg [.ints .u64 t3 4])) N19 rfl rfl (smithyref01_D_Word.ok k t2 t3 et3 _ _) ?_; clear S a w; intro a w S
  refine s_store S rfl rfl rfl (s' := [.ints .u64 t3 4]) (.there .here) T33 rfl rfl ?_; clear S w; intro w S
  refine c_end ?_
  refine wp_ret ?_
  obtain rfl := Option.some.inj h3
  exact b_ret1 (d := (.agg [.ints .u64 t3 4])) S rfl (resD_cell rfl (.there .here) T33 rfl rfl) fun ok => ⟨rfl, ok, S.below0⟩
/-! smithy/smithylaw05.KeccakSums -/
def smithylaw05_KeccakSums.f (k : Nat) (x1 : List Int) : Option Bool := if (decide (3000 < ((x1).length : Int))) = true then ((smithylaw05_fixed.f k).bind fun t1 => (some t1)) else (if ((([] : List Int)).length + (x1).length) * 1 ≤ 140737488355328 then ((smithylaw05_fixed.f k).bind fun t2 => (if t2 = true then ((keccak_Sum.f k (([] : List Int) ++ x1)).bind fun t3 => ((smithyref05_Sum.f k x1).bind fun t4 => (if (decide (t3 = t4)) = true then ((keccak_Word.f k (([] : List Int) ++ x1)).bind fun t5 => ((smithyref05_Word.f k x1).bind fun t6 => (if (decide (t5 = t6)) = true then (some ((bstr (([] : List Int) ++ x1)).toList == (bstr x1).toList)) else (some false)))) else (some false)))) else (some false))) else none)
theorem smithylaw05_KeccakSums.ok (k : Nat) (x1 : List Int) (ch_x1 : Option Addr × Nat) (r : Bool) (h0 : smithylaw05_KeccakSums.f k x1 = some r) (mi : Mem) (w0 : World) (G : Glob mi) : okL mi [(.sl ch_x1.1 (x1).length ch_x1.2 (RdS (Ty.int .u8) ch_x1.1 x1))] → Frz mi w0 → Calls Tryd.prog 5 (([(.sl ch_x1.1 (x1).length ch_x1.2 (RdS (Ty.int .u8) ch_x1.1 x1))] : List D).map D.val).toArray w0 (Ret mi (.v (.bool r)) w0) := by
  intro ok hm
  delta smithylaw05_KeccakSums.f at h0
  refine c_enter (n := 33) [(.sl ch_x1.1 (x1).length ch_x1.2 (RdS (Ty.int .u8) ch_x1.1 x1))] (l := [(0, (.sl ch_x1.1 (x1).length ch_x1.2 (RdS (Ty.int .u8) ch_x1.1 x1)))]) Tryd.func5 rfl rfl rfl rfl ok hm ?_
  clear ok hm
  intro a S
  refine c_region ?_
  refine s_assign S rfl rfl ?_; clear S a; intro a S
  refine c_end ?_
  refine wp_seq ?_
  refine c_region ?_
  refine s_move S rfl rfl ?_; clear S a; intro a S
  refine s_lenS S rfl Tryd.underlying27 rfl ?_; clear S a; intro a S
  refine s_bin S rfl rfl rfl rfl ?_; clear S a; intro a S
  refine c_end ?_
  rcases ite_of h0 with ⟨c1, h1⟩ | ⟨c1, h1⟩ <;> clear h0
  · refine c_condT S rfl c1 ?_
    refine c_region ?_
    obtain ⟨t1, et1, h2⟩ := bind_of h1; clear h1
    refine s_call S (ds := []) (d := (.v (.bool t1))) N6 rfl rfl (smithylaw05_fixed.ok k t1 et1 _ _ (G.mono S.le)) ?_; clear S a; intro a w S
    refine s_assign S rfl rfl ?_; clear S a; intro a S
    refine c_end ?_
    refine wp_ret ?_
    refine x_thenR ?_
    obtain rfl := Option.some.inj h2
    exact b_ret1 (d := (.v (.bool t1))) S rfl rfl fun ok => ⟨rfl, ok, S.below0⟩
  · refine c_condF S rfl c1 ?_
    refine wp_skip ?_
    refine x_thenN ?_
    refine c_region ?_
    refine s_bldSl S (ty' := (Ty.int .u8)) (ds := []) (z := 0) (c0 := ()) (ys := ([] : List Int)) (cs := []) rfl Tryd.underlying27 J5 Z5 rfl ⟨rfl, trivial⟩ rfl rfl rfl rfl rfl rfl ?_; clear S a; intro g1 a w S
    refine s_move S rfl rfl ?_; clear S a; intro a S
    obtain ⟨c2, h2⟩ := chk_of h1; clear h1
    refine s_app S (k2 := ((x1).length)) (ys := x1) rfl (fun _ _ => .here) rfl rfl rfl (RdS.src (S.get 9 (.sl ch_x1.1 (x1).length ch_x1.2 (RdS (Ty.int .u8) ch_x1.1 x1)) rfl).2.2.2.1 (by decide) S.frz) Tryd.underlying27 J5 c2 rfl ?_; clear S a w; intro A1 cp1 a w S
    refine s_assign S rfl rfl ?_; clear S a; intro a S
    refine c_end ?_
    refine c_region ?_
    obtain ⟨t2, et2, h3⟩ := bind_of h2; clear h2
    refine s_call S (ds := []) (d := (.v (.bool t2))) N6 rfl rfl (smithylaw05_fixed.ok k t2 et2 _ _ (G.mono S.le)) ?_; clear S a w; intro a w S
    refine s_move S rfl rfl ?_; clear S a; intro a S
    rcases ite_of h3 with ⟨c3, h4⟩ | ⟨c3, h4⟩ <;> clear h3
    · refine s_gT S (b := t2) rfl rfl c3 ?_
      refine s_move S rfl rfl ?_; clear S a; intro a S
      refine s_gT S (b := t2) rfl rfl c3 ?_
      replace S := S.rowfro .here
      obtain ⟨m, le1, S, hro⟩ := S
      replace S := S.slotro (u := 13) rfl hro
      replace S := S.slotro (u := 3) rfl hro
      replace S := S.slotro (u := 10) rfl hro
      obtain ⟨t3, et3, h5⟩ := bind_of h4; clear h4
      refine s_call S (ds := [(.sl A1 (([] : List Int) ++ x1).length cp1 (RdS (Ty.int .u8) A1 (([] : List Int) ++ x1)))]) (d := (.agg [.ints .u8 t3 32])) N9 rfl rfl (keccak_Sum.ok k (([] : List Int) ++ x1) (A1, cp1) t3 et3 _ _ (G.mono S.le)) ?_; clear S a w; intro a w S
      refine s_gT S (b := t2) rfl rfl c3 ?_
      refine s_move S rfl rfl ?_; clear S a; intro a S
      refine s_gT S (b := t2) rfl rfl c3 ?_
      obtain ⟨t4, et4, h6⟩ := bind_of h5; clear h5
      refine s_call S (ds := [(.sl ch_x1.1 (x1).length ch_x1.2 (RdS (Ty.int .u8) ch_x1.1 x1))]) (d := (.agg [.ints .u8 t4 32])) N10 rfl rfl (smithyref05_Sum.ok k x1 (ch_x1.1, ch_x1.2) t4 et4 _ _) ?_; clear S a w; intro a w S
      refine s_gT S (b := t2) rfl rfl c3 ?_
      refine s_eqa S rfl rfl Tryd.underlying29 Tryd.underlying5 T5 Q29 rfl ?_; clear S a; intro a S
      refine s_pick S (b := true) (hc_of rfl c3) rfl rfl ?_; clear S a; intro a S
      refine s_move S rfl rfl ?_; clear S a; intro a S
      rcases ite_of h6 with ⟨c4, h7⟩ | ⟨c4, h7⟩ <;> clear h6
      · refine s_gT S (b := (decide (t3 = t4))) rfl rfl c4 ?_
        refine s_move S rfl rfl ?_; clear S a; intro a S
        refine s_gT S (b := (decide (t3 = t4))) rfl rfl c4 ?_
        obtain ⟨t5, et5, h8⟩ := bind_of h7; clear h7
        refine s_call S (ds := [(.sl A1 (([] : List Int) ++ x1).length cp1 (RdS (Ty.int .u8) A1 (([] : List Int) ++ x1)))]) (d := (.agg [.ints .u64 t5 4])) N11 rfl rfl (keccak_Word.ok k (([] : List Int) ++ x1) (A1, cp1) t5 et5 _ _ (G.mono S.le)) ?_; clear S a w; intro a w S
        refine s_gT S (b := (decide (t3 = t4))) rfl rfl c4 ?_
        refine s_move S rfl rfl ?_; clear S a; intro a S
        refine s_gT S (b := (decide (t3 = t4))) rfl rfl c4 ?_
        obtain ⟨t6, et6, h9⟩ := bind_of h8; clear h8
        refine s_call S (ds := [(.sl ch_x1.1 (x1).length ch_x1.2 (RdS (Ty.int .u8) ch_x1.1 x1))]) (d := (.agg [.ints .u64 t6 4])) N12 rfl rfl (smithyref05_Word.ok k x1 (ch_x1.1, ch_x1.2) t6 et6 _ _) ?_; clear S a w; intro a w S
        refine s_gT S (b := (decide (t3 = t4))) rfl rfl c4 ?_
        refine s_eqa S rfl rfl Tryd.underlying33 Tryd.underlying22 T22 Q33 rfl ?_; clear S a; intro a S
        refine s_pick S (b := true) (hc_of rfl c4) rfl rfl ?_; clear S a; intro a S
        refine s_move S rfl rfl ?_; clear S a; intro a S
        rcases ite_of h9 with ⟨c5, h10⟩ | ⟨c5, h10⟩ <;> clear h9
        · refine s_gT S (b := (decide (t5 = t6))) rfl rfl c5 ?_
          refine s_move S rfl rfl ?_; clear S a; intro a S
          refine s_gT S (b := (decide (t5 = t6))) rfl rfl c5 ?_
          refine s_strS S rfl rfl Tryd.underlying27 Tryd.underlying5 Tryd.underlying9 rfl ?_; clear S a; intro a S
          refine s_gT S (b := (decide (t5 = t6))) rfl rfl c5 ?_
          refine s_move S rfl rfl ?_; clear S a; intro a S
          refine s_gT S (b := (decide (t5 = t6))) rfl rfl c5 ?_
          refine s_strS S rfl rfl Tryd.underlying27 Tryd.underlying5 Tryd.underlying9 rfl ?_; clear S a; intro a S
          refine s_gT S (b := (decide (t5 = t6))) rfl rfl c5 ?_
          refine s_eqT S rfl rfl rfl ?_; clear S a; intro a S
          refine s_pick S (b := true) (hc_of rfl c5) rfl rfl ?_; clear S a; intro a S
          refine s_assign S rfl rfl ?_; clear S a; intro a S
          refine c_end ?_
          refine wp_ret ?_
          obtain rfl := Option.some.inj h10
          exact b_ret1 (d := (.v (.bool ((bstr (([] : List Int) ++ x1)).toList == (bstr x1).toList)))) S rfl rfl fun ok => ⟨rfl, ok, S.below0⟩
        · refine s_gF S (b := (decide (t5 = t6))) rfl rfl c5 rfl ?_; clear S a; intro a S
          refine s_gF S (b := (decide (t5 = t6))) rfl rfl c5 rfl ?_; clear S a; intro a S
          refine s_gF S (b := (decide (t5 = t6))) rfl rfl c5 rfl ?_; clear S a; intro a S
          refine s_gF S (b := (decide (t5 = t6))) rfl rfl c5 rfl ?_; clear S a; intro a S
          refine s_gF S (b := (decide (t5 = t6))) rfl rfl c5 rfl ?_; clear S a; intro a S
          refine s_pick S (b := false) (hc_of rfl c5) rfl rfl ?_; clear S a; intro a S
          refine s_assign S rfl rfl ?_; clear S a; intro a S
          refine c_end ?_
          refine wp_ret ?_
          obtain rfl := Option.some.inj h10
          exact b_ret1 (d := (.v (.bool false))) S rfl rfl fun ok => ⟨rfl, ok, S.below0⟩
      · refine s_gF S (b := (decide (t3 = t4))) rfl rfl c4 rfl ?_; clear S a; intro a S
        refine s_gF S (b := (decide (t3 = t4))) rfl rfl c4 rfl ?_; clear S a; intro a S
        refine s_gF S (b := (decide (t3 = t4))) rfl rfl c4 rfl ?_; clear S a; intro a S
        refine s_gF S (b := (decide (t3 = t4))) rfl rfl c4 rfl ?_; clear S a; intro a S
        refine s_gF S (b := (decide (t3 = t4))) rfl rfl c4 rfl ?_; clear S a; intro a S
        refine s_pick S (b := false) (hc_of rfl c4) rfl rfl ?_; clear S a; intro a S
        refine s_move S rfl rfl ?_; clear S a; intro a S
        refine s_gF S (b := false) rfl rfl rfl rfl ?_; clear S a; intro a S
        refine s_gF S (b := false) rfl rfl rfl rfl ?_; clear S a; intro a S
        refine s_gF S (b := false) rfl rfl rfl rfl ?_; clear S a; intro a S
        refine s_gF S (b := false) rfl rfl rfl rfl ?_; clear S a; intro a S
        refine s_gF S (b := false) rfl rfl rfl rfl ?_; clear S a; intro a S
        refine s_pick S (b := false) (hc_of rfl rfl) rfl rfl ?_; clear S a; intro a S
        refine s_assign S rfl rfl ?_; clear S a; intro a S
        refine c_end ?_
        refine wp_ret ?_
        obtain rfl := Option.some.inj h7
        exact b_ret1 (d := (.v (.bool false))) S rfl rfl fun ok => ⟨rfl, ok, S.below0⟩
    · refine s_gF S (b := t2) rfl rfl c3 rfl ?_; clear S a; intro a S
      refine s_gF S (b := t2) rfl rfl c3 rfl ?_; clear S a; intro a S
      refine s_gF S (b := t2) rfl rfl c3 rfl ?_; clear S a; intro a S
      refine s_gF S (b := t2) rfl rfl c3 rfl ?_; clear S a; intro a S
      refine s_gF S (b := t2) rfl rfl c3 rfl ?_; clear S a; intro a S
      refine s_pick S (b := false) (hc_of rfl c3) rfl rfl ?_; clear S a; intro a S
      refine s_move S rfl rfl ?_; clear S a; intro a S
      refine s_gF S (b := false) rfl rfl rfl rfl ?_; clear S a; intro a S
      refine s_gF S (b := false) rfl rfl rfl rfl ?_; clear S a; intro a S
      refine s_gF S (b := false) rfl rfl rfl rfl ?_; clear S a; intro a S
      refine s_gF S (b := false) rfl rfl rfl rfl ?_; clear S a; intro a S
      refine s_gF S (b := false) rfl rfl rfl rfl ?_; clear S a; intro a S
      refine s_pick S (b := false) (hc_of rfl rfl) rfl rfl ?_; clear S a; intro a S
      refine s_move S rfl rfl ?_; clear S a; intro a S
      refine s_gF S (b := false) rfl rfl rfl rfl ?_; clear S a; intro a S
      refine s_gF S (b := false) rfl rfl rfl rfl ?_; clear S a; intro a S
      refine s_gF S (b := false) rfl rfl rfl rfl ?_; clear S a; intro a S
      refine s_gF S (b := false) rfl rfl rfl rfl ?_; clear S a; intro a S
      refine s_gF S (b := false) rfl rfl rfl rfl ?_; clear S a; intro a S
      refine s_pick S (b := false) (hc_of rfl rfl) rfl rfl ?_; clear S a; intro a S
      refine s_assign S rfl rfl ?_; clear S a; intro a S
      refine c_end ?_
      refine wp_ret ?_
      obtain rfl := Option.some.inj h4
      exact b_ret1 (d := (.v (.bool false))) S rfl rfl fun ok => ⟨rfl, ok, S.below0⟩
end GW
