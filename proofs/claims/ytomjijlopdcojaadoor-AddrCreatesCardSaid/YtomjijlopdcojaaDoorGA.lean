/-
  Printed by a program of these sessions (wip/gw/gx.py): for each Go function a Lean function with the same answers, and the walk that shows it.
-/
import Derived.Test.YtomjijlopdcojaaDoorProg
import Derived.Test.YtomjijlopdcojaaDoorGWRQui
set_option linter.unusedVariables false
set_option maxRecDepth 10000
namespace GW
open Go Go.RowKit Go.Proofs
def tbl_keccak_constants : List Int := [1, 32898, 9223372036854808714, 9223372039002292224, 32907, 2147483649, 9223372039002292353, 9223372036854808585, 138, 136, 2147516425, 2147483658, 2147516555, 9223372036854775947, 9223372036854808713, 9223372036854808579, 9223372036854808578, 9223372036854775936, 32778, 9223372039002259466, 9223372039002292353, 9223372036854808704, 2147483649, 9223372039002292232]
def tbl_keccak_places : List Int := [10, 7, 11, 17, 18, 3, 5, 16, 8, 21, 24, 4, 15, 23, 19, 13, 12, 2, 20, 14, 22, 9, 6, 1]
def tbl_keccak_turns : List Int := [1, 3, 6, 10, 15, 21, 28, 36, 45, 55, 2, 14, 27, 41, 56, 8, 25, 43, 62, 18, 39, 61, 20, 44]
def Glob (m : Mem) : Prop := FroAt m 1 [.ints .u64 tbl_keccak_constants 24] ∧ FroAt m 2 [.ints .i64 tbl_keccak_places 24] ∧ FroAt m 3 [.ints .i64 tbl_keccak_turns 24]
theorem Glob.mono {m m' : Mem} (h : Glob m) (hm : LeM m m') : Glob m' := ⟨(FroAt.mono hm h.1), (FroAt.mono hm h.2.1), (FroAt.mono hm h.2.2)⟩
theorem J5 : appI Tryd.prog 5 = some (1, 1) := by kernel_rfl
theorem Z5 : zeroI Tryd.prog 5 = some (D.val (.v (.int .u8 0))) := by kernel_rfl
theorem Z23 : zeroI Tryd.prog 23 = some (D.val (.agg [.ints .u8 [0, 0, 0, 0, 0, 0, 0, 0, 0, 0, 0, 0, 0, 0, 0, 0, 0, 0, 0, 0] 20])) := by kernel_rfl
theorem T26 : tyI Tryd.prog 26 = some (true, 4) := by kernel_rfl
theorem Z40 : zeroI Tryd.prog 40 = some (D.val (.agg [.ints .u8 [0, 0, 0, 0, 0, 0, 0, 0, 0, 0, 0, 0, 0, 0, 0, 0, 0, 0, 0, 0, 0, 0, 0, 0, 0, 0, 0, 0, 0, 0, 0, 0] 32])) := by kernel_rfl
theorem Z62 : zeroI Tryd.prog 62 = some (D.val (.agg [.ints .u64 [0, 0, 0, 0, 0, 0, 0, 0, 0, 0, 0, 0, 0, 0, 0, 0, 0, 0, 0, 0, 0, 0, 0, 0, 0] 25])) := by kernel_rfl
theorem T62 : tyI Tryd.prog 62 = some (true, 25) := by kernel_rfl
theorem T5 : tyI Tryd.prog 5 = some (false, 1) := by kernel_rfl
theorem T24 : tyI Tryd.prog 24 = some (false, 1) := by kernel_rfl
theorem T72 : tyI Tryd.prog 72 = some (true, 24) := by kernel_rfl
theorem Z79 : zeroI Tryd.prog 79 = some (D.val (.agg [.ints .u64 [0, 0, 0, 0, 0] 5])) := by kernel_rfl
theorem N51 : Fn_ Tryd.prog 51 := ⟨_, Tryd.func51, rfl, by decide⟩
theorem T82 : tyI Tryd.prog 82 = some (true, 24) := by kernel_rfl
theorem T3 : tyI Tryd.prog 3 = some (false, 1) := by kernel_rfl
theorem T79 : tyI Tryd.prog 79 = some (true, 5) := by kernel_rfl
theorem N48 : Fn_ Tryd.prog 48 := ⟨_, Tryd.func48, rfl, by decide⟩
theorem N42 : Fn_ Tryd.prog 42 := ⟨_, Tryd.func42, rfl, by decide⟩
theorem N36 : Fn_ Tryd.prog 36 := ⟨_, Tryd.func36, rfl, by decide⟩
theorem Z64 : zeroI Tryd.prog 64 = some (D.val (.agg [.ints .u8 (List.replicate 136 0) 136])) := by kernel_rfl
theorem T40 : tyI Tryd.prog 40 = some (true, 32) := by kernel_rfl
theorem N20 : Fn_ Tryd.prog 20 := ⟨_, Tryd.func20, rfl, by decide⟩
theorem Z39 : zeroI Tryd.prog 39 = some (D.val (.agg [.ints .u8 [0, 0, 0, 0, 0, 0, 0, 0, 0, 0, 0, 0, 0, 0, 0, 0, 0, 0, 0, 0, 0, 0, 0, 0, 0, 0, 0, 0, 0, 0, 0, 0] 32])) := by kernel_rfl
theorem T39 : tyI Tryd.prog 39 = some (true, 32) := by kernel_rfl
theorem N21 : Fn_ Tryd.prog 21 := ⟨_, Tryd.func21, rfl, by decide⟩
theorem Z26 : zeroI Tryd.prog 26 = some (D.val (.agg [.ints .u64 [0, 0, 0, 0] 4])) := by kernel_rfl
theorem N27 : Fn_ Tryd.prog 27 := ⟨_, Tryd.func27, rfl, by decide⟩
theorem N22 : Fn_ Tryd.prog 22 := ⟨_, Tryd.func22, rfl, by decide⟩
theorem T23 : tyI Tryd.prog 23 = some (true, 20) := by kernel_rfl
theorem N12 : Fn_ Tryd.prog 12 := ⟨_, Tryd.func12, rfl, by decide⟩
theorem N8 : Fn_ Tryd.prog 8 := ⟨_, Tryd.func8, rfl, by decide⟩
theorem N7 : Fn_ Tryd.prog 7 := ⟨_, Tryd.func7, rfl, by decide⟩
theorem Z72 : zeroI Tryd.prog 72 = some (D.val (.agg [.ints .u64 [0, 0, 0, 0, 0, 0, 0, 0, 0, 0, 0, 0, 0, 0, 0, 0, 0, 0, 0, 0, 0, 0, 0, 0] 24])) := by kernel_rfl
theorem N43 : Fn_ Tryd.prog 43 := ⟨_, Tryd.func43, rfl, by decide⟩
theorem N49 : Fn_ Tryd.prog 49 := ⟨_, Tryd.func49, rfl, by decide⟩
theorem N44 : Fn_ Tryd.prog 44 := ⟨_, Tryd.func44, rfl, by decide⟩
theorem N37 : Fn_ Tryd.prog 37 := ⟨_, Tryd.func37, rfl, by decide⟩
theorem N23 : Fn_ Tryd.prog 23 := ⟨_, Tryd.func23, rfl, by decide⟩
theorem Z45 : zeroI Tryd.prog 45 = some (D.val (.agg [.ints .i64 [0, 0, 0, 0, 0, 0, 0, 0, 0, 0, 0, 0, 0, 0, 0, 0, 0, 0, 0, 0, 0, 0, 0, 0, 0, 0, 0, 0, 0, 0, 0, 0] 32])) := by kernel_rfl
theorem T45 : tyI Tryd.prog 45 = some (true, 32) := by kernel_rfl
theorem N24 : Fn_ Tryd.prog 24 := ⟨_, Tryd.func24, rfl, by decide⟩
theorem N25 : Fn_ Tryd.prog 25 := ⟨_, Tryd.func25, rfl, by decide⟩
theorem N26 : Fn_ Tryd.prog 26 := ⟨_, Tryd.func26, rfl, by decide⟩
theorem N9 : Fn_ Tryd.prog 9 := ⟨_, Tryd.func9, rfl, by decide⟩
theorem Q23 : Tryd.prog.eqGuardType Tryd.prog.depth 23 = false := by kernel_rfl
theorem N10 : Fn_ Tryd.prog 10 := ⟨_, Tryd.func10, rfl, by decide⟩
theorem N28 : Fn_ Tryd.prog 28 := ⟨_, Tryd.func28, rfl, by decide⟩
theorem N29 : Fn_ Tryd.prog 29 := ⟨_, Tryd.func29, rfl, by decide⟩
theorem N11 : Fn_ Tryd.prog 11 := ⟨_, Tryd.func11, rfl, by decide⟩
theorem Q26 : Tryd.prog.eqGuardType Tryd.prog.depth 26 = false := by kernel_rfl
theorem N13 : Fn_ Tryd.prog 13 := ⟨_, Tryd.func13, rfl, by decide⟩
theorem N14 : Fn_ Tryd.prog 14 := ⟨_, Tryd.func14, rfl, by decide⟩
theorem X38 : isCmp Tryd.prog 38 := ⟨_, Tryd.func38, by kernel_rfl, by kernel_rfl, by kernel_rfl, by kernel_rfl⟩
theorem N30 : Fn_ Tryd.prog 30 := ⟨_, Tryd.func30, rfl, by decide⟩
theorem N15 : Fn_ Tryd.prog 15 := ⟨_, Tryd.func15, rfl, by decide⟩
theorem N31 : Fn_ Tryd.prog 31 := ⟨_, Tryd.func31, rfl, by decide⟩
theorem N16 : Fn_ Tryd.prog 16 := ⟨_, Tryd.func16, rfl, by decide⟩
theorem N17 : Fn_ Tryd.prog 17 := ⟨_, Tryd.func17, rfl, by decide⟩
theorem P55 : ∀ w : World, ((match Tryd.prog.underlying 55 with | some (.struct fs) => fs | _ => (#[] : Array Field)).mapM fun (f : Field) => (do pure (f.offset, ← Go.sizeOf f.type) : Sem (Nat × Nat))).run Tryd.prog w = .ok #[(0, 1), (1, 1), (2, 1)] w := fun _ => by kernel_rfl
theorem Z55 : zeroI Tryd.prog 55 = some (D.val (.agg [.one (.bool false), .one (.slice none 0 0), .one (.int .i64 0)])) := by kernel_rfl
theorem N33 : Fn_ Tryd.prog 33 := ⟨_, Tryd.func33, rfl, by decide⟩
def txt0 : ByteArray := ByteArray.mk #[0, 1, 2, 2, 3, 3, 3, 3, 4, 4, 4, 4, 4, 4, 4, 4, 5, 5, 5, 5, 5, 5, 5, 5, 5, 5, 5, 5, 5, 5, 5, 5, 6, 6, 6, 6, 6, 6, 6, 6, 6, 6, 6, 6, 6, 6, 6, 6, 6, 6, 6, 6, 6, 6, 6, 6, 6, 6, 6, 6, 6, 6, 6, 6, 7, 7, 7, 7, 7, 7, 7, 7, 7, 7, 7, 7, 7, 7, 7, 7, 7, 7, 7, 7, 7, 7, 7, 7, 7, 7, 7, 7, 7, 7, 7, 7, 7, 7, 7, 7, 7, 7, 7, 7, 7, 7, 7, 7, 7, 7, 7, 7, 7, 7, 7, 7, 7, 7, 7, 7, 7, 7, 7, 7, 7, 7, 7, 7, 8, 8, 8, 8, 8, 8, 8, 8, 8, 8, 8, 8, 8, 8, 8, 8, 8, 8, 8, 8, 8, 8, 8, 8, 8, 8, 8, 8, 8, 8, 8, 8, 8, 8, 8, 8, 8, 8, 8, 8, 8, 8, 8, 8, 8, 8, 8, 8, 8, 8, 8, 8, 8, 8, 8, 8, 8, 8, 8, 8, 8, 8, 8, 8, 8, 8, 8, 8, 8, 8, 8, 8, 8, 8, 8, 8, 8, 8, 8, 8, 8, 8, 8, 8, 8, 8, 8, 8, 8, 8, 8, 8, 8, 8, 8, 8, 8, 8, 8, 8, 8, 8, 8, 8, 8, 8, 8, 8, 8, 8, 8, 8, 8, 8, 8, 8, 8, 8, 8, 8, 8, 8, 8, 8, 8, 8, 8, 8]
theorem N50 : Fn_ Tryd.prog 50 := ⟨_, Tryd.func50, rfl, by decide⟩
theorem N45 : Fn_ Tryd.prog 45 := ⟨_, Tryd.func45, rfl, by decide⟩
theorem N39 : Fn_ Tryd.prog 39 := ⟨_, Tryd.func39, rfl, by decide⟩
theorem N32 : Fn_ Tryd.prog 32 := ⟨_, Tryd.func32, rfl, by decide⟩
theorem J55 : appI Tryd.prog 55 = some (3, 40) := by kernel_rfl
theorem T55 : tyI Tryd.prog 55 = some (true, 3) := by kernel_rfl
theorem I55_2 : fieldI Tryd.prog 55 2 = some (2, 3) := by kernel_rfl
theorem I55_0 : fieldI Tryd.prog 55 0 = some (0, 4) := by kernel_rfl
theorem T4 : tyI Tryd.prog 4 = some (false, 1) := by kernel_rfl
theorem I55_1 : fieldI Tryd.prog 55 1 = some (1, 27) := by kernel_rfl
theorem T27 : tyI Tryd.prog 27 = some (false, 1) := by kernel_rfl
theorem J3 : appI Tryd.prog 3 = some (1, 8) := by kernel_rfl
theorem Z3 : zeroI Tryd.prog 3 = some (D.val (.v (.int .i64 0))) := by kernel_rfl
theorem N40 : Fn_ Tryd.prog 40 := ⟨_, Tryd.func40, rfl, by decide⟩
theorem P70 : ∀ w : World, ((match Tryd.prog.underlying 70 with | some (.struct fs) => fs | _ => (#[] : Array Field)).mapM fun (f : Field) => (do pure (f.offset, ← Go.sizeOf f.type) : Sem (Nat × Nat))).run Tryd.prog w = .ok #[(0, 1), (1, 1)] w := fun _ => by kernel_rfl
theorem Z70 : zeroI Tryd.prog 70 = some (D.val (.agg [.one (.slice none 0 0), .one (.int .i64 0)])) := by kernel_rfl
theorem I70_1 : fieldI Tryd.prog 70 1 = some (1, 59) := by kernel_rfl
theorem T59 : tyI Tryd.prog 59 = some (false, 1) := by kernel_rfl
theorem I70_0 : fieldI Tryd.prog 70 0 = some (0, 58) := by kernel_rfl
theorem T58 : tyI Tryd.prog 58 = some (false, 1) := by kernel_rfl
theorem N46 : Fn_ Tryd.prog 46 := ⟨_, Tryd.func46, rfl, by decide⟩
theorem N47 : Fn_ Tryd.prog 47 := ⟨_, Tryd.func47, rfl, by decide⟩
theorem N41 : Fn_ Tryd.prog 41 := ⟨_, Tryd.func41, rfl, by decide⟩
theorem N34 : Fn_ Tryd.prog 34 := ⟨_, Tryd.func34, rfl, by decide⟩
theorem N18 : Fn_ Tryd.prog 18 := ⟨_, Tryd.func18, rfl, by decide⟩
theorem N35 : Fn_ Tryd.prog 35 := ⟨_, Tryd.func35, rfl, by decide⟩
theorem N19 : Fn_ Tryd.prog 19 := ⟨_, Tryd.func19, rfl, by decide⟩
def Gd5 : Int → Prop := fun x => inK .u8 x
def Gd27 : (List Int) → Prop := fun xs => (∀ y ∈ xs, Gd5 y) ∧ xs.length ≤ maxLen
/-! math/bits.RotateLeft64 -/
abbrev bits_RotateLeft64.Ty : Type := Int → Int → Option Int
def bits_RotateLeft64.Ctr (s : bits_RotateLeft64.Ty) : Prop := ∀ (x1 : Int) (x2 : Int) (r : Int) (h0 : s x1 x2 = some r) (mi : Mem) (w0 : World), okL mi [(.v (.int .u64 x1)), (.v (.int .i64 x2))] → Pre mi [] w0 → Calls Tryd.prog 51 (([(.v (.int .u64 x1)), (.v (.int .i64 x2))] : List D).map D.val).toArray w0 (RetX mi [] (fun (ch : Unit) => ((.v (.int .u64 r)) : D)) (fun (ch : Unit) => []) w0)
def bits_RotateLeft64.f (x1 : Int) (x2 : Int) : Option Int := if (0 : Int) ≤ (bits .and .u64 (wr .u64 x2) 63) then (if (0 : Int) ≤ (wr .u64 (64 - (bits .and .u64 (wr .u64 x2) 63))) then (some (bits .or .u64 (shl .u64 x1 (min (Int.toNat (bits .and .u64 (wr .u64 x2) 63)) 64)) (shr x1 (min (Int.toNat (wr .u64 (64 - (bits .and .u64 (wr .u64 x2) 63)))) 64)))) else none) else none
theorem bits_RotateLeft64.ok : bits_RotateLeft64.Ctr (bits_RotateLeft64.f) := by
  intro x1 x2 r h0 mi w0 ok hm
  delta bits_RotateLeft64.f at h0
  refine c_enterX (n := 17) [(.v (.int .u64 x1)), (.v (.int .i64 x2))] (l := [(0, (.v (.int .u64 x1))), (1, (.v (.int .i64 x2)))]) Tryd.func51 rfl rfl rfl rfl ok hm ?_
  clear ok hm
  intro b0 hb a S
  refine c_region ?_
  refine s_assign S rfl rfl ?_; clear S a; intro a S
  refine c_end ?_
  refine c_region ?_
  refine s_move S rfl rfl ?_; clear S a; intro a S
  refine s_conv S rfl rfl Tryd.underlying78 rfl ?_; clear S a; intro a S
  refine s_bin S rfl rfl rfl rfl ?_; clear S a; intro a S
  refine s_assign S rfl rfl ?_; clear S a; intro a S
  refine c_end ?_
  refine c_region ?_
  refine s_move S rfl rfl ?_; clear S a; intro a S
  refine s_move S rfl rfl ?_; clear S a; intro a S
  obtain ⟨c1, h1⟩ := chk_of h0; clear h0
  refine s_shl S (e := (min (Int.toNat (bits .and .u64 (wr .u64 x2) 63)) 64)) rfl rfl c1 rfl rfl ?_; clear S a; intro a S
  refine s_move S rfl rfl ?_; clear S a; intro a S
  refine s_move S rfl rfl ?_; clear S a; intro a S
  refine s_bin S rfl rfl rfl rfl ?_; clear S a; intro a S
  obtain ⟨c2, h2⟩ := chk_of h1; clear h1
  refine s_shr S (e := (min (Int.toNat (wr .u64 (64 - (bits .and .u64 (wr .u64 x2) 63)))) 64)) rfl rfl c2 rfl rfl ?_; clear S a; intro a S
  refine s_bin S rfl rfl rfl rfl ?_; clear S a; intro a S
  refine s_assign S rfl rfl ?_; clear S a; intro a S
  refine c_end ?_
  refine wp_ret ?_
  obtain rfl := Option.some.inj h2
  exact b_ret1 (d := (.v (.int .u64 (bits .or .u64 (shl .u64 x1 (min (Int.toNat (bits .and .u64 (wr .u64 x2) 63)) 64)) (shr x1 (min (Int.toNat (wr .u64 (64 - (bits .and .u64 (wr .u64 x2) 63)))) 64)))))) S rfl rfl fun ok => S.retX (Hx := []) hb _ _ (() : Unit) .nil ok
/-! smithy/keccak.round -/
abbrev keccak_round.Ty : Type := (List Int) → Option ((List Int))
def keccak_round.Ctr (s : keccak_round.Ty) : Prop := ∀ (x1 : List Int) (r : (List Int)) (h0 : s x1 = some r) (mi : Mem) (w0 : World) (G : Glob mi), okL mi [(.agg [.ints .u64 x1 25])] → Pre mi [] w0 → Calls Tryd.prog 48 (([(.agg [.ints .u64 x1 25])] : List D).map D.val).toArray w0 (RetX mi [] (fun (ch : Unit) => ((.agg [.ints .u64 r 25]) : D)) (fun (ch : Unit) => []) w0)
def keccak_round.j4 (y38 : List Int) : Option ((List Int)) := some y38
def keccak_round.j5 (y51 : Int) (rec1 : Int → (List Int) → Option ((List Int))) (y57 : List Int) : Option ((List Int)) := rec1 (wr .i64 (y51 + 5)) y57
def keccak_round.b2 (y51 : Int) (y52 : List Int) (rec1 : Int → (List Int) → Option ((List Int))) (rec2 : Int → (List Int) → Option ((List Int))) (y60 : Int) (y61 : List Int) : Option ((List Int)) := if (decide (y60 < 5)) = true then (if (0 : Int) ≤ y60 ∧ y60 < 5 then (if (0 : Int) ≤ (Int.tmod (wr .i64 (y60 + 1)) 5) ∧ (Int.tmod (wr .i64 (y60 + 1)) 5) < 5 then (if (0 : Int) ≤ (Int.tmod (wr .i64 (y60 + 2)) 5) ∧ (Int.tmod (wr .i64 (y60 + 2)) 5) < 5 then (if (0 : Int) ≤ (wr .i64 (y60 + y51)) ∧ (wr .i64 (y60 + y51)) < 25 then (rec2 (wr .i64 (y60 + 1)) (y61.set (Int.toNat (wr .i64 (y60 + y51))) (bits .xor .u64 (rd (((y52).drop (Int.toNat y51)).take 5) y60) (bits .and .u64 (bnot .u64 (rd (((y52).drop (Int.toNat y51)).take 5) (Int.tmod (wr .i64 (y60 + 1)) 5))) (rd (((y52).drop (Int.toNat y51)).take 5) (Int.tmod (wr .i64 (y60 + 2)) 5)))))) else none) else none) else none) else none) else (keccak_round.j5 y51 rec1 y61)
def keccak_round.l2 (y51 : Int) (y52 : List Int) (rec1 : Int → (List Int) → Option ((List Int))) : Nat → Int → (List Int) → Option ((List Int))
  | 0, _, _ => none
  | q + 1, y60, y61 => keccak_round.b2 y51 y52 rec1 (keccak_round.l2 y51 y52 rec1 q) y60 y61
def keccak_round.b1 (k : Nat) (rec1 : Int → (List Int) → Option ((List Int))) (y51 : Int) (y52 : List Int) : Option ((List Int)) := if (decide (y51 < 25)) = true then (if (0 : Int) ≤ y51 ∧ (y51 : Int) ≤ (wr .i64 (y51 + 5)) ∧ (wr .i64 (y51 + 5)) ≤ ((25 : Nat) : Int) then (if 5 ≤ (Int.toNat (wr .i64 (y51 + 5)) - Int.toNat y51) then (keccak_round.l2 y51 y52 rec1 k 0 y52) else none) else none) else (keccak_round.j4 y52)
def keccak_round.l1 (k : Nat) : Nat → Int → (List Int) → Option ((List Int))
  | 0, _, _ => none
  | q + 1, y51, y52 => keccak_round.b1 k (keccak_round.l1 k q) y51 y52
def keccak_round.j3 (k : Nat) (y23 : List Int) : Option ((List Int)) := keccak_round.l1 k k 0 y23
def keccak_round.b3 (k : Nat) (rec3 : Int → Int → (List Int) → Option ((List Int))) (y65 : Int) (y66 : Int) (y67 : List Int) : Option ((List Int)) := if (decide (y65 < 24)) = true then (if (0 : Int) ≤ y65 ∧ y65 < 24 then (if (0 : Int) ≤ (rd tbl_keccak_places y65) ∧ (rd tbl_keccak_places y65) < 25 then ((bits_RotateLeft64.f y66 (rd tbl_keccak_turns y65)).bind fun t1 => (rec3 (wr .i64 (y65 + 1)) (rd y67 (rd tbl_keccak_places y65)) (y67.set (Int.toNat (rd tbl_keccak_places y65)) t1))) else none) else none) else (keccak_round.j3 k y67)
def keccak_round.l3 (k : Nat) : Nat → Int → Int → (List Int) → Option ((List Int))
  | 0, _, _, _ => none
  | q + 1, y65, y66, y67 => keccak_round.b3 k (keccak_round.l3 k q) y65 y66 y67
def keccak_round.j2 (k : Nat) (y16 : List Int) : Option ((List Int)) := keccak_round.l3 k k 0 (rd y16 1) y16
def keccak_round.j6 (y80 : Int) (rec4 : Int → (List Int) → Option ((List Int))) (y86 : List Int) : Option ((List Int)) := rec4 (wr .i64 (y80 + 1)) y86
def keccak_round.b5 (y1 : List Int) (y80 : Int) (rec4 : Int → (List Int) → Option ((List Int))) (t3 : Int) (rec5 : Int → (List Int) → Option ((List Int))) (y89 : Int) (y90 : List Int) : Option ((List Int)) := if (decide (y89 < 25)) = true then (if (0 : Int) ≤ (wr .i64 (y80 + y89)) ∧ (wr .i64 (y80 + y89)) < 25 then (rec5 (wr .i64 (y89 + 5)) (y90.set (Int.toNat (wr .i64 (y80 + y89))) (bits .xor .u64 (rd y90 (wr .i64 (y80 + y89))) (bits .xor .u64 (rd y1 (Int.tmod (wr .i64 (y80 + 4)) 5)) t3)))) else none) else (keccak_round.j6 y80 rec4 y90)
def keccak_round.l5 (y1 : List Int) (y80 : Int) (rec4 : Int → (List Int) → Option ((List Int))) (t3 : Int) : Nat → Int → (List Int) → Option ((List Int))
  | 0, _, _ => none
  | q + 1, y89, y90 => keccak_round.b5 y1 y80 rec4 t3 (keccak_round.l5 y1 y80 rec4 t3 q) y89 y90
def keccak_round.b4 (k : Nat) (y1 : List Int) (rec4 : Int → (List Int) → Option ((List Int))) (y80 : Int) (y81 : List Int) : Option ((List Int)) := if (decide (y80 < 5)) = true then (if (0 : Int) ≤ (Int.tmod (wr .i64 (y80 + 4)) 5) ∧ (Int.tmod (wr .i64 (y80 + 4)) 5) < 5 then (if (0 : Int) ≤ (Int.tmod (wr .i64 (y80 + 1)) 5) ∧ (Int.tmod (wr .i64 (y80 + 1)) 5) < 5 then ((bits_RotateLeft64.f (rd y1 (Int.tmod (wr .i64 (y80 + 1)) 5)) 1).bind fun t3 => (keccak_round.l5 y1 y80 rec4 t3 k 0 y81)) else none) else none) else (keccak_round.j2 k y81)
def keccak_round.l4 (k : Nat) (y1 : List Int) : Nat → Int → (List Int) → Option ((List Int))
  | 0, _, _ => none
  | q + 1, y80, y81 => keccak_round.b4 k y1 (keccak_round.l4 k y1 q) y80 y81
def keccak_round.j1 (k : Nat) (x1 : List Int) (y1 : List Int) : Option ((List Int)) := keccak_round.l4 k y1 k 0 x1
def keccak_round.b6 (k : Nat) (x1 : List Int) (rec6 : Int → (List Int) → Option ((List Int))) (y93 : Int) (y94 : List Int) : Option ((List Int)) := if (decide (y93 < 5)) = true then (if (0 : Int) ≤ y93 ∧ y93 < 25 then (if (0 : Int) ≤ (wr .i64 (y93 + 5)) ∧ (wr .i64 (y93 + 5)) < 25 then (if (0 : Int) ≤ (wr .i64 (y93 + 10)) ∧ (wr .i64 (y93 + 10)) < 25 then (if (0 : Int) ≤ (wr .i64 (y93 + 15)) ∧ (wr .i64 (y93 + 15)) < 25 then (if (0 : Int) ≤ (wr .i64 (y93 + 20)) ∧ (wr .i64 (y93 + 20)) < 25 then (if (0 : Int) ≤ y93 ∧ y93 < 5 then (rec6 (wr .i64 (y93 + 1)) (y94.set (Int.toNat y93) (bits .xor .u64 (bits .xor .u64 (bits .xor .u64 (bits .xor .u64 (rd x1 y93) (rd x1 (wr .i64 (y93 + 5)))) (rd x1 (wr .i64 (y93 + 10)))) (rd x1 (wr .i64 (y93 + 15)))) (rd x1 (wr .i64 (y93 + 20)))))) else none) else none) else none) else none) else none) else none) else (keccak_round.j1 k x1 y94)
def keccak_round.l6 (k : Nat) (x1 : List Int) : Nat → Int → (List Int) → Option ((List Int))
  | 0, _, _ => none
  | q + 1, y93, y94 => keccak_round.b6 k x1 (keccak_round.l6 k x1 q) y93 y94
def keccak_round.f (k : Nat) (x1 : List Int) : Option ((List Int)) := keccak_round.l6 k x1 k 0 [0, 0, 0, 0, 0]
theorem keccak_round.ok (k : Nat) : keccak_round.Ctr (keccak_round.f k) := by
  intro x1 r h0 mi w0 G ok hm
  delta keccak_round.f at h0
  refine c_enterX (n := 126) [(.agg [.ints .u64 x1 25])] (l := [(0, (.agg [.ints .u64 x1 25]))]) Tryd.func48 rfl rfl rfl rfl ok hm ?_
  clear ok hm
  intro b0 hb a S
  replace S := S.addfro (g := 3) 82 G.2.2
  replace S := S.addfro (g := 2) 82 G.2.1
  replace S := S.addfro (g := 1) 72 G.1
  refine c_region ?_
  refine s_box S rfl rfl rfl ?_; clear S a; intro g1 a w S
  refine s_alloc S Z62 rfl ⟨rfl, trivial⟩ rfl ?_; clear S a w; intro g2 a w S
  refine c_end ?_
  refine c_region ?_
  refine s_alloc S Z79 rfl ⟨rfl, trivial⟩ rfl ?_; clear S a w; intro g3 a w S
  refine c_end ?_
  refine wp_seq_k ?_
  intro K1 hK1
  have j1 : ∀ (m : Mem) (g13 : Nat) (g14 : Nat) (g15 : Nat) (y1 : List Int) (a : Act) (w : World), St 126 m b0 [(3, (.v (.pointer (some ⟨g13, 0, none⟩)))), (2, (.v (.pointer (some ⟨g14, 0, none⟩)))), (1, (.v (.pointer (some ⟨g15, 0, none⟩))))] [Res.cells g13 79 [.ints .u64 y1 5], Res.cells g14 62 [.ints .u64 [0, 0, 0, 0, 0, 0, 0, 0, 0, 0, 0, 0, 0, 0, 0, 0, 0, 0, 0, 0, 0, 0, 0, 0, 0] 25], Res.cells g15 62 [.ints .u64 x1 25], Res.fro 1 72 [.ints .u64 tbl_keccak_constants 24], Res.fro 2 82 [.ints .i64 tbl_keccak_places 24], Res.fro 3 82 [.ints .i64 tbl_keccak_turns 24]] a w → keccak_round.j1 k x1 y1 = some r → K1 a w := by
    intro m g13 g14 g15 y1 a w S h0
    delta keccak_round.j1 at h0
    refine hK1 a w ?_
    refine wp_seq_k ?_
    intro K2 hK2
    have j2 : ∀ (m : Mem) (g49 : Nat) (g50 : Nat) (y16 : List Int) (a : Act) (w : World), St 126 m b0 [(2, (.v (.pointer (some ⟨g49, 0, none⟩)))), (1, (.v (.pointer (some ⟨g50, 0, none⟩))))] [Res.cells g49 62 [.ints .u64 [0, 0, 0, 0, 0, 0, 0, 0, 0, 0, 0, 0, 0, 0, 0, 0, 0, 0, 0, 0, 0, 0, 0, 0, 0] 25], Res.cells g50 62 [.ints .u64 y16 25], Res.fro 1 72 [.ints .u64 tbl_keccak_constants 24], Res.fro 2 82 [.ints .i64 tbl_keccak_places 24], Res.fro 3 82 [.ints .i64 tbl_keccak_turns 24]] a w → keccak_round.j2 k y16 = some r → K2 a w := by
      intro m g49 g50 y16 a w S h0
      delta keccak_round.j2 at h0
      refine hK2 a w ?_
      refine c_region ?_
      refine s_iaddr S (o' := 1) rfl rfl Tryd.underlying62 T24 (by decide) (by decide) rfl rfl ?_; clear S a; intro a S
      refine s_loadi S (i := 1) rfl (.there .here) T24 .here rfl (by decide) (by decide) rfl ?_; clear S a; intro a S
      refine s_assign S rfl rfl ?_; clear S a; intro a S
      refine c_end ?_
      refine wp_seq_k ?_
      intro K3 hK3
      have j3 : ∀ (m : Mem) (g57 : Nat) (g58 : Nat) (y23 : List Int) (a : Act) (w : World), St 126 m b0 [(2, (.v (.pointer (some ⟨g57, 0, none⟩)))), (1, (.v (.pointer (some ⟨g58, 0, none⟩))))] [Res.cells g57 62 [.ints .u64 [0, 0, 0, 0, 0, 0, 0, 0, 0, 0, 0, 0, 0, 0, 0, 0, 0, 0, 0, 0, 0, 0, 0, 0, 0] 25], Res.cells g58 62 [.ints .u64 y23 25], Res.fro 1 72 [.ints .u64 tbl_keccak_constants 24], Res.fro 2 82 [.ints .i64 tbl_keccak_places 24], Res.fro 3 82 [.ints .i64 tbl_keccak_turns 24]] a w → keccak_round.j3 k y23 = some r → K3 a w := by
        intro m g57 g58 y23 a w S h0
        delta keccak_round.j3 at h0
        refine hK3 a w ?_
        refine wp_seq_k ?_
        intro K4 hK4
        have j4 : ∀ (m : Mem) (g89 : Nat) (g90 : Nat) (y38 : List Int) (a : Act) (w : World), St 126 m b0 [(2, (.v (.pointer (some ⟨g89, 0, none⟩)))), (1, (.v (.pointer (some ⟨g90, 0, none⟩))))] [Res.cells g89 62 [.ints .u64 [0, 0, 0, 0, 0, 0, 0, 0, 0, 0, 0, 0, 0, 0, 0, 0, 0, 0, 0, 0, 0, 0, 0, 0, 0] 25], Res.cells g90 62 [.ints .u64 y38 25], Res.fro 1 72 [.ints .u64 tbl_keccak_constants 24], Res.fro 2 82 [.ints .i64 tbl_keccak_places 24], Res.fro 3 82 [.ints .i64 tbl_keccak_turns 24]] a w → keccak_round.j4 y38 = some r → K4 a w := by
          intro m g89 g90 y38 a w S h0
          delta keccak_round.j4 at h0
          refine hK4 a w ?_
          refine c_region ?_
          refine s_loada S rfl (.there .here) T62 (s' := [.ints .u64 y38 25]) rfl rfl ?_; clear S a; intro a S
          refine s_store S rfl rfl rfl (s' := [.ints .u64 y38 25]) .here T62 rfl rfl ?_; clear S w; intro w S
          refine c_end ?_
          refine wp_ret ?_
          obtain rfl := Option.some.inj h0
          exact b_ret1 (d := (.agg [.ints .u64 y38 25])) S rfl (resD_cell rfl .here T62 rfl rfl) fun ok => S.retX (Hx := []) hb _ _ (() : Unit) .nil ok
        refine c_region ?_
        refine s_assign S rfl rfl ?_; clear S a; intro a S
        refine c_end ?_
        refine wp_block ?_
        refine c_loop (fun q1 a w => ∃ (m : Mem) (y51 : Int) (g119 : Nat) (g120 : Nat) (y52 : List Int), St 126 m b0 [(12, (.v (.int .i64 y51))), (2, (.v (.pointer (some ⟨g119, 0, none⟩)))), (1, (.v (.pointer (some ⟨g120, 0, none⟩))))] [Res.cells g119 62 [.ints .u64 [0, 0, 0, 0, 0, 0, 0, 0, 0, 0, 0, 0, 0, 0, 0, 0, 0, 0, 0, 0, 0, 0, 0, 0, 0] 25], Res.cells g120 62 [.ints .u64 y52 25], Res.fro 1 72 [.ints .u64 tbl_keccak_constants 24], Res.fro 2 82 [.ints .i64 tbl_keccak_places 24], Res.fro 3 82 [.ints .i64 tbl_keccak_turns 24]] a w ∧ keccak_round.l1 k q1 y51 y52 = some r) ?_ ?_ (k := k) ⟨_, 0, g57, g58, y23, (S.sub ⟨rfl, rfl, rfl, trivial⟩ (.cons .here (.cons .here (.cons .here (.cons .here (.cons .here .nil)))))), h0⟩
        · rintro a w ⟨m, y51, g119, g120, y52, S, h0⟩
          exact (nomatch (show (none : Option ((List Int))) = some r from h0))
        · clear S h0
          rintro q1 a w ⟨m, y51, g119, g120, y52, S, h0⟩
          replace h0 : keccak_round.b1 k (keccak_round.l1 k q1) y51 y52 = some r := h0
          delta keccak_round.b1 at h0
          refine wp_seq ?_
          refine c_region ?_
          refine s_move S rfl rfl ?_; clear S a; intro a S
          refine s_bin S rfl rfl rfl rfl ?_; clear S a; intro a S
          refine c_end ?_
          rcases ite_of h0 with ⟨c1, h1⟩ | ⟨c1, h1⟩ <;> clear h0
          · refine c_condT S rfl c1 ?_
            refine wp_skip ?_
            refine x_thenN ?_
            refine wp_seq_k ?_
            intro K5 hK5
            have j5 : ∀ (m : Mem) (g131 : Nat) (g132 : Nat) (y57 : List Int) (a : Act) (w : World), St 126 m b0 [(12, (.v (.int .i64 y51))), (2, (.v (.pointer (some ⟨g131, 0, none⟩)))), (1, (.v (.pointer (some ⟨g132, 0, none⟩))))] [Res.cells g131 62 [.ints .u64 [0, 0, 0, 0, 0, 0, 0, 0, 0, 0, 0, 0, 0, 0, 0, 0, 0, 0, 0, 0, 0, 0, 0, 0, 0] 25], Res.cells g132 62 [.ints .u64 y57 25], Res.fro 1 72 [.ints .u64 tbl_keccak_constants 24], Res.fro 2 82 [.ints .i64 tbl_keccak_places 24], Res.fro 3 82 [.ints .i64 tbl_keccak_turns 24]] a w → keccak_round.j5 y51 (keccak_round.l1 k q1) y57 = some r → K5 a w := by
              intro m g131 g132 y57 a w S h0
              delta keccak_round.j5 at h0
              refine hK5 a w ?_
              refine c_region' ?_
              refine s_move S rfl rfl ?_; clear S a; intro a S
              refine s_bin S rfl rfl rfl rfl ?_; clear S a; intro a S
              refine s_assign S rfl rfl ?_; clear S a; intro a S
              refine c_end' ?_
              refine x_thenN ?_
              exact ⟨_, (wr .i64 (y51 + 5)), g131, g132, y57, (S.sub ⟨rfl, rfl, rfl, trivial⟩ (.cons .here (.cons .here (.cons .here (.cons .here (.cons .here .nil)))))), h0⟩
            refine wp_block ?_
            refine c_region ?_
            refine s_move S rfl rfl ?_; clear S a; intro a S
            refine s_move S rfl rfl ?_; clear S a; intro a S
            refine s_bin S rfl rfl rfl rfl ?_; clear S a; intro a S
            obtain ⟨c2, h2⟩ := chk_of h1; clear h1
            refine s_sliceA S (i := y51) (j := (wr .i64 (y51 + 5))) (o' := if 25 = Int.toNat y51 then 0 else 0 + Int.toNat y51 * 1) (len := Int.toNat (wr .i64 (y51 + 5)) - Int.toNat y51) (cap := 25 - Int.toNat y51) rfl Tryd.underlying62 T24 (.inr ⟨_, _, rfl, rfl⟩) (.inr ⟨_, _, rfl, rfl⟩) c2 rfl rfl rfl rfl ?_; clear S a; intro a S
            obtain ⟨c3, h3⟩ := chk_of h2; clear h2
            refine s_arrp S rfl Tryd.underlying79 c3 rfl ?_; clear S a; intro a S
            refine s_ldInts S (lo := (Int.toNat y51)) (ys := ((y52).drop (Int.toNat y51)).take 5) rfl (.there .here) T79 .here (ho_rng c2 c3) (by have h := c2; have h' := c3; omega) rfl rfl ?_; clear S a; intro a S
            refine s_alloc S Z79 rfl ⟨rfl, trivial⟩ rfl ?_; clear S a w; intro g133 a w S
            refine s_store S rfl rfl rfl (s' := [.ints .u64 (((y52).drop (Int.toNat y51)).take 5) 5]) .here T79 rfl rfl ?_; clear S w; intro w S
            refine c_end ?_
            refine c_region ?_
            refine s_move S rfl rfl ?_; clear S a; intro a S
            refine c_end ?_
            refine wp_block ?_
            refine c_loop (fun q2 a w => ∃ (m : Mem) (y60 : Int) (g140 : Nat) (g141 : Nat) (g142 : Nat) (y61 : List Int), St 126 m b0 [(101, (.v (.int .i64 y60))), (13, (.v (.pointer (some ⟨g140, 0, none⟩)))), (12, (.v (.int .i64 y51))), (2, (.v (.pointer (some ⟨g141, 0, none⟩)))), (1, (.v (.pointer (some ⟨g142, 0, none⟩))))] [Res.cells g140 79 [.ints .u64 (((y52).drop (Int.toNat y51)).take 5) 5], Res.cells g141 62 [.ints .u64 [0, 0, 0, 0, 0, 0, 0, 0, 0, 0, 0, 0, 0, 0, 0, 0, 0, 0, 0, 0, 0, 0, 0, 0, 0] 25], Res.cells g142 62 [.ints .u64 y61 25], Res.fro 1 72 [.ints .u64 tbl_keccak_constants 24], Res.fro 2 82 [.ints .i64 tbl_keccak_places 24], Res.fro 3 82 [.ints .i64 tbl_keccak_turns 24]] a w ∧ keccak_round.l2 y51 y52 (keccak_round.l1 k q1) q2 y60 y61 = some r) ?_ ?_ (k := k) ⟨_, 0, g133, g119, g120, y52, (S.sub ⟨rfl, rfl, rfl, rfl, rfl, trivial⟩ (.cons .here (.cons .here (.cons .here (.cons .here (.cons .here (.cons .here .nil))))))), h3⟩
            · rintro a w ⟨m, y60, g140, g141, g142, y61, S, h0⟩
              exact (nomatch (show (none : Option ((List Int))) = some r from h0))
            · clear S h3
              rintro q2 a w ⟨m, y60, g140, g141, g142, y61, S, h0⟩
              replace h0 : keccak_round.b2 y51 y52 (keccak_round.l1 k q1) (keccak_round.l2 y51 y52 (keccak_round.l1 k q1) q2) y60 y61 = some r := h0
              delta keccak_round.b2 at h0
              refine c_region ?_
              refine s_bin S rfl rfl rfl rfl ?_; clear S a; intro a S
              refine c_end ?_
              refine wp_seq ?_
              rcases ite_of h0 with ⟨c4, h1⟩ | ⟨c4, h1⟩ <;> clear h0
              · refine c_condT S rfl c4 ?_
                refine wp_skip ?_
                refine x_thenN ?_
                refine wp_seq ?_
                refine wp_block ?_
                refine c_region ?_
                refine s_move S rfl rfl ?_; clear S a; intro a S
                refine s_assign S rfl rfl ?_; clear S a; intro a S
                refine c_end ?_
                refine c_heldS S (.take 0 (.take 1 (.take 2 (.take 3 (.take 4 (.take 5 (.take 6 (.take 7 (.take 8 (.take 9 (.take 10 (.take 11 (.take 12 (.take 13 (.take 14 (.take 15 (.take 16 (.take 17 (.take 18 (.take 19 (.alts (.run 20 false .done .nil)))))))))))))))))))))) 20 [Res.cells g140 79 [.ints .u64 (((y52).drop (Int.toNat y51)).take 5) 5], Res.cells g141 62 [.ints .u64 [0, 0, 0, 0, 0, 0, 0, 0, 0, 0, 0, 0, 0, 0, 0, 0, 0, 0, 0, 0, 0, 0, 0, 0, 0] 25], Res.cells g142 62 [.ints .u64 y61 25], Res.fro 1 72 [.ints .u64 tbl_keccak_constants 24], Res.fro 2 82 [.ints .i64 tbl_keccak_places 24], Res.fro 3 82 [.ints .i64 tbl_keccak_turns 24]] (.cons .here (.cons .here (.cons .here (.cons .here (.cons .here (.cons .here .nil)))))) ⟨Res.stay_cells, Res.stay_cells, Res.stay_cells, Res.stay_fro, Res.stay_fro, Res.stay_fro, trivial⟩ [(14, (.v (.int .i64 y60))), (13, (.v (.pointer (some ⟨g140, 0, none⟩)))), (12, (.v (.int .i64 y51))), (1, (.v (.pointer (some ⟨g142, 0, none⟩))))] ⟨rfl, rfl, rfl, rfl, trivial⟩ (by kernel_rfl) (by kernel_rfl) ?_; clear S; intro w S CL hw le
                refine h_move S CL hw le ⟨rfl, rfl, rfl, rfl, trivial⟩ rfl rfl rfl trivial ?_; clear S CL a; intro a S CL
                refine h_move S CL hw le ⟨rfl, rfl, rfl, rfl, rfl, trivial⟩ rfl rfl rfl trivial ?_; clear S CL a; intro a S CL
                refine h_bin S CL hw le ⟨rfl, rfl, rfl, rfl, rfl, rfl, trivial⟩ rfl rfl rfl rfl rfl trivial ?_; clear S CL a; intro a S CL
                refine h_move S CL hw le ⟨rfl, rfl, rfl, rfl, rfl, rfl, rfl, trivial⟩ rfl rfl rfl trivial ?_; clear S CL a; intro a S CL
                obtain ⟨c5, h2⟩ := chk_of h1; clear h1
                refine h_iaddr S CL hw le ⟨rfl, rfl, rfl, rfl, rfl, rfl, rfl, rfl, trivial⟩ rfl rfl Tryd.underlying79 T24 c5.1 c5.2 (mul1 _ _) rfl rfl trivial ?_; clear S CL a; intro a S CL
                refine h_loadi S CL hw le ⟨rfl, rfl, rfl, rfl, rfl, rfl, rfl, rfl, rfl, trivial⟩ (i := y60) rfl .here T24 .here rfl c5.1 c5.2 rfl rfl trivial ?_; clear S CL a; intro a S CL
                refine h_move S CL hw le ⟨rfl, rfl, rfl, rfl, rfl, rfl, rfl, rfl, rfl, rfl, trivial⟩ rfl rfl rfl trivial ?_; clear S CL a; intro a S CL
                refine h_bin S CL hw le ⟨rfl, rfl, rfl, rfl, rfl, rfl, rfl, rfl, rfl, rfl, rfl, trivial⟩ rfl rfl rfl rfl rfl trivial ?_; clear S CL a; intro a S CL
                refine h_rem S CL hw le ⟨rfl, rfl, rfl, rfl, rfl, rfl, rfl, rfl, rfl, rfl, rfl, rfl, trivial⟩ rfl rfl (by decide) rfl rfl trivial ?_; clear S CL a; intro a S CL
                obtain ⟨c6, h3⟩ := chk_of h2; clear h2
                refine h_iaddr S CL hw le ⟨rfl, rfl, rfl, rfl, rfl, rfl, rfl, rfl, rfl, rfl, rfl, rfl, rfl, trivial⟩ rfl rfl Tryd.underlying79 T24 c6.1 c6.2 (mul1 _ _) rfl rfl trivial ?_; clear S CL a; intro a S CL
                refine h_loadi S CL hw le ⟨rfl, rfl, rfl, rfl, rfl, rfl, rfl, rfl, rfl, rfl, rfl, rfl, rfl, rfl, trivial⟩ (i := (Int.tmod (wr .i64 (y60 + 1)) 5)) rfl .here T24 .here rfl c6.1 c6.2 rfl rfl trivial ?_; clear S CL a; intro a S CL
                refine h_un S CL hw le ⟨rfl, rfl, rfl, rfl, rfl, rfl, rfl, rfl, rfl, rfl, rfl, rfl, rfl, rfl, rfl, trivial⟩ rfl rfl rfl rfl trivial ?_; clear S CL a; intro a S CL
                refine h_move S CL hw le ⟨rfl, rfl, rfl, rfl, rfl, rfl, rfl, rfl, rfl, rfl, rfl, rfl, rfl, rfl, rfl, rfl, trivial⟩ rfl rfl rfl trivial ?_; clear S CL a; intro a S CL
                refine h_bin S CL hw le ⟨rfl, rfl, rfl, rfl, rfl, rfl, rfl, rfl, rfl, rfl, rfl, rfl, rfl, rfl, rfl, rfl, rfl, trivial⟩ rfl rfl rfl rfl rfl trivial ?_; clear S CL a; intro a S CL
                refine h_rem S CL hw le ⟨rfl, rfl, rfl, rfl, rfl, rfl, rfl, rfl, rfl, rfl, rfl, rfl, rfl, rfl, rfl, rfl, rfl, rfl, trivial⟩ rfl rfl (by decide) rfl rfl trivial ?_; clear S CL a; intro a S CL
                obtain ⟨c7, h4⟩ := chk_of h3; clear h3
                refine h_iaddr S CL hw le ⟨rfl, rfl, rfl, rfl, rfl, rfl, rfl, rfl, rfl, rfl, rfl, rfl, rfl, rfl, rfl, rfl, rfl, rfl, rfl, trivial⟩ rfl rfl Tryd.underlying79 T24 c7.1 c7.2 (mul1 _ _) rfl rfl trivial ?_; clear S CL a; intro a S CL
                refine h_loadi S CL hw le ⟨rfl, rfl, rfl, rfl, rfl, rfl, rfl, rfl, rfl, rfl, rfl, rfl, rfl, rfl, rfl, rfl, rfl, rfl, rfl, rfl, trivial⟩ (i := (Int.tmod (wr .i64 (y60 + 2)) 5)) rfl .here T24 .here rfl c7.1 c7.2 rfl rfl trivial ?_; clear S CL a; intro a S CL
                refine h_bin S CL hw le ⟨rfl, rfl, rfl, rfl, rfl, rfl, rfl, rfl, rfl, rfl, rfl, rfl, rfl, rfl, rfl, rfl, rfl, rfl, rfl, rfl, rfl, trivial⟩ rfl rfl rfl rfl rfl trivial ?_; clear S CL a; intro a S CL
                refine h_bin S CL hw le ⟨rfl, rfl, rfl, rfl, rfl, rfl, rfl, rfl, rfl, rfl, rfl, rfl, rfl, rfl, rfl, rfl, rfl, rfl, rfl, rfl, rfl, rfl, trivial⟩ rfl rfl rfl rfl rfl trivial ?_; clear S CL a; intro a S CL
                obtain ⟨c8, h5⟩ := chk_of h4; clear h4
                refine h_iaddr S CL hw le ⟨rfl, rfl, rfl, rfl, rfl, rfl, rfl, rfl, rfl, rfl, rfl, rfl, rfl, rfl, rfl, rfl, rfl, rfl, rfl, rfl, rfl, rfl, rfl, trivial⟩ rfl rfl Tryd.underlying62 T24 c8.1 c8.2 (mul1 _ _) rfl rfl trivial ?_; clear S CL a; intro a S CL
                refine h_run' S rfl trivial ?_
                refine s_storei S (i := (wr .i64 (y60 + y51))) rfl rfl (.there (.there .here)) T24 .here rfl c8.1 c8.2 ?_; clear S; intro w S
                refine h_back ⟨fun h => (nomatch h), ?_⟩
                refine h_done ?_; clear CL hw le
                refine x_blockN ?_
                refine x_thenN ?_
                refine c_region' ?_
                refine s_bin S rfl rfl rfl rfl ?_; clear S a; intro a S
                refine s_move S rfl rfl ?_; clear S a; intro a S
                refine c_end' ?_
                refine x_thenN ?_
                exact ⟨_, (wr .i64 (y60 + 1)), g140, g141, g142, (y61.set (Int.toNat (wr .i64 (y60 + y51))) (bits .xor .u64 (rd (((y52).drop (Int.toNat y51)).take 5) y60) (bits .and .u64 (bnot .u64 (rd (((y52).drop (Int.toNat y51)).take 5) (Int.tmod (wr .i64 (y60 + 1)) 5))) (rd (((y52).drop (Int.toNat y51)).take 5) (Int.tmod (wr .i64 (y60 + 2)) 5))))), (S.sub ⟨rfl, rfl, rfl, rfl, rfl, trivial⟩ (.cons .here (.cons .here (.cons .here (.cons .here (.cons .here (.cons .here .nil))))))), h5⟩
              · refine c_condF S rfl c4 ?_
                refine wp_exit ?_
                refine x_thenX ?_
                refine x_thenX ?_
                refine x_blockX ?_
                refine x_blockN ?_
                refine x_thenN ?_
                exact j5 _ g141 g142 y61 a w (S.sub ⟨rfl, rfl, rfl, trivial⟩ (.cons (.there .here) (.cons (.there .here) (.cons (.there .here) (.cons (.there .here) (.cons (.there .here) .nil)))))) h1
          · refine c_condF S rfl c1 ?_
            refine wp_exit ?_
            refine x_thenX ?_
            refine x_thenX ?_
            refine x_blockX ?_
            refine x_thenN ?_
            exact j4 _ g119 g120 y52 a w (S.sub ⟨rfl, rfl, trivial⟩ (.cons .here (.cons .here (.cons .here (.cons .here (.cons .here .nil)))))) h1
      refine c_region ?_
      refine s_loadaF S rfl (.there (.there (.there .here))) T82 (s' := [.ints .i64 tbl_keccak_places 24]) rfl rfl ?_; clear S a; intro a S
      refine s_move S rfl rfl ?_; clear S a; intro a S
      refine c_end ?_
      refine wp_block ?_
      refine c_loop (fun q3 a w => ∃ (m : Mem) (y65 : Int) (y66 : Int) (g147 : Nat) (g148 : Nat) (y67 : List Int), St 126 m b0 [(75, (.v (.int .i64 y65))), (74, (.agg [.ints .i64 tbl_keccak_places 24])), (8, (.v (.int .u64 y66))), (2, (.v (.pointer (some ⟨g147, 0, none⟩)))), (1, (.v (.pointer (some ⟨g148, 0, none⟩))))] [Res.cells g147 62 [.ints .u64 [0, 0, 0, 0, 0, 0, 0, 0, 0, 0, 0, 0, 0, 0, 0, 0, 0, 0, 0, 0, 0, 0, 0, 0, 0] 25], Res.cells g148 62 [.ints .u64 y67 25], Res.fro 1 72 [.ints .u64 tbl_keccak_constants 24], Res.fro 2 82 [.ints .i64 tbl_keccak_places 24], Res.fro 3 82 [.ints .i64 tbl_keccak_turns 24]] a w ∧ keccak_round.l3 k q3 y65 y66 y67 = some r) ?_ ?_ (k := k) ⟨_, 0, (rd y16 1), g49, g50, y16, (S.sub ⟨rfl, rfl, rfl, rfl, rfl, trivial⟩ (.cons .here (.cons .here (.cons .here (.cons .here (.cons .here .nil)))))), h0⟩
      · rintro a w ⟨m, y65, y66, g147, g148, y67, S, h0⟩
        exact (nomatch (show (none : Option ((List Int))) = some r from h0))
      · clear S h0
        rintro q3 a w ⟨m, y65, y66, g147, g148, y67, S, h0⟩
        replace h0 : keccak_round.b3 k (keccak_round.l3 k q3) y65 y66 y67 = some r := h0
        delta keccak_round.b3 at h0
        refine c_region ?_
        refine s_bin S rfl rfl rfl rfl ?_; clear S a; intro a S
        refine c_end ?_
        refine wp_seq ?_
        rcases ite_of h0 with ⟨c9, h1⟩ | ⟨c9, h1⟩ <;> clear h0
        · refine c_condT S rfl c9 ?_
          refine wp_skip ?_
          refine x_thenN ?_
          refine wp_seq ?_
          refine wp_block ?_
          refine c_region ?_
          refine s_move S rfl rfl ?_; clear S a; intro a S
          obtain ⟨c10, h2⟩ := chk_of h1; clear h1
          refine s_index S rfl rfl Tryd.underlying82 T3 c10.1 c10.2 rfl ?_; clear S a; intro a S
          refine s_assign S rfl rfl ?_; clear S a; intro a S
          refine s_assign S rfl rfl ?_; clear S a; intro a S
          refine c_end ?_
          refine c_region ?_
          refine s_move S rfl rfl ?_; clear S a; intro a S
          obtain ⟨c11, h3⟩ := chk_of h2; clear h2
          refine s_iaddr S rfl rfl Tryd.underlying62 T24 c11.1 c11.2 (mul1 _ _) rfl ?_; clear S a; intro a S
          refine s_loadi S (i := (rd tbl_keccak_places y65)) rfl (.there .here) T24 .here rfl c11.1 c11.2 rfl ?_; clear S a; intro a S
          refine s_assign S rfl rfl ?_; clear S a; intro a S
          refine c_end ?_
          refine c_region ?_
          refine s_move S rfl rfl ?_; clear S a; intro a S
          refine s_move S rfl rfl ?_; clear S a; intro a S
          refine s_move S rfl rfl ?_; clear S a; intro a S
          refine s_iaddr S rfl rfl Tryd.underlying82 T3 c10.1 c10.2 (mul1 _ _) rfl ?_; clear S a; intro a S
          refine s_loadiF S (i := y65) rfl (.there (.there (.there (.there .here)))) T3 .here rfl c10.1 c10.2 rfl ?_; clear S a; intro a S
          obtain ⟨t1, et1, h4⟩ := bind_of h3; clear h3
          refine s_callX S (ds' := [(.v (.int .u64 y66)), (.v (.int .i64 (rd tbl_keccak_turns y65)))]) (ds := [(.v (.int .u64 y66)), (.v (.int .i64 (rd tbl_keccak_turns y65)))]) [] [Res.cells g147 62 [.ints .u64 [0, 0, 0, 0, 0, 0, 0, 0, 0, 0, 0, 0, 0, 0, 0, 0, 0, 0, 0, 0, 0, 0, 0, 0, 0] 25], Res.cells g148 62 [.ints .u64 y67 25], Res.fro 1 72 [.ints .u64 tbl_keccak_constants 24], Res.fro 2 82 [.ints .i64 tbl_keccak_places 24], Res.fro 3 82 [.ints .i64 tbl_keccak_turns 24]] (fun (ch : Unit) => ((.v (.int .u64 t1)) : D)) (fun (ch : Unit) => []) (fun (ch : Unit) => [Res.cells g147 62 [.ints .u64 [0, 0, 0, 0, 0, 0, 0, 0, 0, 0, 0, 0, 0, 0, 0, 0, 0, 0, 0, 0, 0, 0, 0, 0, 0] 25], Res.cells g148 62 [.ints .u64 y67 25], Res.fro 1 72 [.ints .u64 tbl_keccak_constants 24], Res.fro 2 82 [.ints .i64 tbl_keccak_places 24], Res.fro 3 82 [.ints .i64 tbl_keccak_turns 24]]) (fun _ => rfl) N51 rfl rfl (fun ok => ok) (.cons .here (.cons .here (.cons .here (.cons .here (.cons .here .nil))))) rfl (bits_RotateLeft64.ok y66 (rd tbl_keccak_turns y65) t1 et1 _ _) ?_; clear S a w; intro ch1 m le1 a w S
          refine s_iaddr S rfl rfl Tryd.underlying62 T24 c11.1 c11.2 (mul1 _ _) rfl ?_; clear S a; intro a S
          refine s_storei S (i := (rd tbl_keccak_places y65)) rfl rfl (.there .here) T24 .here rfl c11.1 c11.2 ?_; clear S w; intro w S
          refine c_end ?_
          refine c_region' ?_
          refine s_move S rfl rfl ?_; clear S a; intro a S
          refine s_assign S rfl rfl ?_; clear S a; intro a S
          refine c_end' ?_
          refine x_blockN ?_
          refine x_thenN ?_
          refine c_region' ?_
          refine s_bin S rfl rfl rfl rfl ?_; clear S a; intro a S
          refine s_move S rfl rfl ?_; clear S a; intro a S
          refine c_end' ?_
          refine x_thenN ?_
          exact ⟨_, (wr .i64 (y65 + 1)), (rd y67 (rd tbl_keccak_places y65)), g147, g148, (y67.set (Int.toNat (rd tbl_keccak_places y65)) t1), (S.sub ⟨rfl, rfl, rfl, rfl, rfl, trivial⟩ (.cons .here (.cons .here (.cons .here (.cons .here (.cons .here .nil)))))), h4⟩
        · refine c_condF S rfl c9 ?_
          refine wp_exit ?_
          refine x_thenX ?_
          refine x_thenX ?_
          refine x_blockX ?_
          refine x_thenN ?_
          exact j3 _ g147 g148 y67 a w (S.sub ⟨rfl, rfl, trivial⟩ (.cons .here (.cons .here (.cons .here (.cons .here (.cons .here .nil)))))) h1
    refine c_region ?_
    refine s_move S rfl rfl ?_; clear S a; intro a S
    refine c_end ?_
    refine wp_block ?_
    refine c_loop (fun q4 a w => ∃ (m : Mem) (y80 : Int) (g179 : Nat) (g180 : Nat) (g181 : Nat) (y81 : List Int), St 126 m b0 [(44, (.v (.int .i64 y80))), (3, (.v (.pointer (some ⟨g179, 0, none⟩)))), (2, (.v (.pointer (some ⟨g180, 0, none⟩)))), (1, (.v (.pointer (some ⟨g181, 0, none⟩))))] [Res.cells g179 79 [.ints .u64 y1 5], Res.cells g180 62 [.ints .u64 [0, 0, 0, 0, 0, 0, 0, 0, 0, 0, 0, 0, 0, 0, 0, 0, 0, 0, 0, 0, 0, 0, 0, 0, 0] 25], Res.cells g181 62 [.ints .u64 y81 25], Res.fro 1 72 [.ints .u64 tbl_keccak_constants 24], Res.fro 2 82 [.ints .i64 tbl_keccak_places 24], Res.fro 3 82 [.ints .i64 tbl_keccak_turns 24]] a w ∧ keccak_round.l4 k y1 q4 y80 y81 = some r) ?_ ?_ (k := k) ⟨_, 0, g13, g14, g15, x1, (S.sub ⟨rfl, rfl, rfl, rfl, trivial⟩ (.cons .here (.cons .here (.cons .here (.cons .here (.cons .here (.cons .here .nil))))))), h0⟩
    · rintro a w ⟨m, y80, g179, g180, g181, y81, S, h0⟩
      exact (nomatch (show (none : Option ((List Int))) = some r from h0))
    · clear S h0
      rintro q4 a w ⟨m, y80, g179, g180, g181, y81, S, h0⟩
      replace h0 : keccak_round.b4 k y1 (keccak_round.l4 k y1 q4) y80 y81 = some r := h0
      delta keccak_round.b4 at h0
      refine c_region ?_
      refine s_bin S rfl rfl rfl rfl ?_; clear S a; intro a S
      refine c_end ?_
      refine wp_seq ?_
      rcases ite_of h0 with ⟨c12, h1⟩ | ⟨c12, h1⟩ <;> clear h0
      · refine c_condT S rfl c12 ?_
        refine wp_skip ?_
        refine x_thenN ?_
        refine wp_seq_k ?_
        intro K6 hK6
        have j6 : ∀ (m : Mem) (g191 : Nat) (g192 : Nat) (g193 : Nat) (y86 : List Int) (a : Act) (w : World), St 126 m b0 [(44, (.v (.int .i64 y80))), (3, (.v (.pointer (some ⟨g191, 0, none⟩)))), (2, (.v (.pointer (some ⟨g192, 0, none⟩)))), (1, (.v (.pointer (some ⟨g193, 0, none⟩))))] [Res.cells g191 79 [.ints .u64 y1 5], Res.cells g192 62 [.ints .u64 [0, 0, 0, 0, 0, 0, 0, 0, 0, 0, 0, 0, 0, 0, 0, 0, 0, 0, 0, 0, 0, 0, 0, 0, 0] 25], Res.cells g193 62 [.ints .u64 y86 25], Res.fro 1 72 [.ints .u64 tbl_keccak_constants 24], Res.fro 2 82 [.ints .i64 tbl_keccak_places 24], Res.fro 3 82 [.ints .i64 tbl_keccak_turns 24]] a w → keccak_round.j6 y80 (keccak_round.l4 k y1 q4) y86 = some r → K6 a w := by
          intro m g191 g192 g193 y86 a w S h0
          delta keccak_round.j6 at h0
          refine hK6 a w ?_
          refine c_region' ?_
          refine s_bin S rfl rfl rfl rfl ?_; clear S a; intro a S
          refine s_move S rfl rfl ?_; clear S a; intro a S
          refine c_end' ?_
          refine x_thenN ?_
          exact ⟨_, (wr .i64 (y80 + 1)), g191, g192, g193, y86, (S.sub ⟨rfl, rfl, rfl, rfl, trivial⟩ (.cons .here (.cons .here (.cons .here (.cons .here (.cons .here (.cons .here .nil))))))), h0⟩
        refine wp_block ?_
        refine c_region ?_
        refine s_move S rfl rfl ?_; clear S a; intro a S
        refine s_assign S rfl rfl ?_; clear S a; intro a S
        refine c_end ?_
        refine wp_seq (c_heldS S (.take 0 (.take 1 (.take 2 (.take 3 (.take 4 (.take 5 (.take 6 (.take 7 (.take 8 (.take 9 (.alts (.run 10 true (.take 11 (.take 12 .done)) .nil)))))))))))) 13 [Res.cells g179 79 [.ints .u64 y1 5], Res.cells g180 62 [.ints .u64 [0, 0, 0, 0, 0, 0, 0, 0, 0, 0, 0, 0, 0, 0, 0, 0, 0, 0, 0, 0, 0, 0, 0, 0, 0] 25], Res.cells g181 62 [.ints .u64 y81 25], Res.fro 1 72 [.ints .u64 tbl_keccak_constants 24], Res.fro 2 82 [.ints .i64 tbl_keccak_places 24], Res.fro 3 82 [.ints .i64 tbl_keccak_turns 24]] (.cons .here (.cons .here (.cons .here (.cons .here (.cons .here (.cons .here .nil)))))) ⟨Res.stay_cells, Res.stay_cells, Res.stay_cells, Res.stay_fro, Res.stay_fro, Res.stay_fro, trivial⟩ [(5, (.v (.int .i64 y80))), (3, (.v (.pointer (some ⟨g179, 0, none⟩))))] ⟨rfl, rfl, trivial⟩ (by kernel_rfl) (by kernel_rfl) ?_); clear S; intro w S CL hw le
        refine h_move S CL hw le ⟨rfl, rfl, trivial⟩ rfl rfl rfl trivial ?_; clear S CL a; intro a S CL
        refine h_bin S CL hw le ⟨rfl, rfl, rfl, trivial⟩ rfl rfl rfl rfl rfl trivial ?_; clear S CL a; intro a S CL
        refine h_rem S CL hw le ⟨rfl, rfl, rfl, rfl, trivial⟩ rfl rfl (by decide) rfl rfl trivial ?_; clear S CL a; intro a S CL
        obtain ⟨c13, h2⟩ := chk_of h1; clear h1
        refine h_iaddr S CL hw le ⟨rfl, rfl, rfl, rfl, rfl, trivial⟩ rfl rfl Tryd.underlying79 T24 c13.1 c13.2 (mul1 _ _) rfl rfl trivial ?_; clear S CL a; intro a S CL
        refine h_loadi S CL hw le ⟨rfl, rfl, rfl, rfl, rfl, rfl, trivial⟩ (i := (Int.tmod (wr .i64 (y80 + 4)) 5)) rfl .here T24 .here rfl c13.1 c13.2 rfl rfl trivial ?_; clear S CL a; intro a S CL
        refine h_move S CL hw le ⟨rfl, rfl, rfl, rfl, rfl, rfl, rfl, trivial⟩ rfl rfl rfl trivial ?_; clear S CL a; intro a S CL
        refine h_bin S CL hw le ⟨rfl, rfl, rfl, rfl, rfl, rfl, rfl, rfl, trivial⟩ rfl rfl rfl rfl rfl trivial ?_; clear S CL a; intro a S CL
        refine h_rem S CL hw le ⟨rfl, rfl, rfl, rfl, rfl, rfl, rfl, rfl, rfl, trivial⟩ rfl rfl (by decide) rfl rfl trivial ?_; clear S CL a; intro a S CL
        obtain ⟨c14, h3⟩ := chk_of h2; clear h2
        refine h_iaddr S CL hw le ⟨rfl, rfl, rfl, rfl, rfl, rfl, rfl, rfl, rfl, rfl, trivial⟩ rfl rfl Tryd.underlying79 T24 c14.1 c14.2 (mul1 _ _) rfl rfl trivial ?_; clear S CL a; intro a S CL
        refine h_loadi S CL hw le ⟨rfl, rfl, rfl, rfl, rfl, rfl, rfl, rfl, rfl, rfl, rfl, trivial⟩ (i := (Int.tmod (wr .i64 (y80 + 1)) 5)) rfl .here T24 .here rfl c14.1 c14.2 rfl rfl trivial ?_; clear S CL a; intro a S CL
        refine h_run' S rfl trivial ?_
        obtain ⟨t3, et3, h4⟩ := bind_of h3; clear h3
        refine s_callX S (ds' := [(.v (.int .u64 (rd y1 (Int.tmod (wr .i64 (y80 + 1)) 5)))), (.v (.int .i64 1))]) (ds := [(.v (.int .u64 (rd y1 (Int.tmod (wr .i64 (y80 + 1)) 5)))), (.v (.int .i64 1))]) [] [Res.cells g179 79 [.ints .u64 y1 5], Res.cells g180 62 [.ints .u64 [0, 0, 0, 0, 0, 0, 0, 0, 0, 0, 0, 0, 0, 0, 0, 0, 0, 0, 0, 0, 0, 0, 0, 0, 0] 25], Res.cells g181 62 [.ints .u64 y81 25], Res.fro 1 72 [.ints .u64 tbl_keccak_constants 24], Res.fro 2 82 [.ints .i64 tbl_keccak_places 24], Res.fro 3 82 [.ints .i64 tbl_keccak_turns 24]] (fun (ch : Unit) => ((.v (.int .u64 t3)) : D)) (fun (ch : Unit) => []) (fun (ch : Unit) => [Res.cells g179 79 [.ints .u64 y1 5], Res.cells g180 62 [.ints .u64 [0, 0, 0, 0, 0, 0, 0, 0, 0, 0, 0, 0, 0, 0, 0, 0, 0, 0, 0, 0, 0, 0, 0, 0, 0] 25], Res.cells g181 62 [.ints .u64 y81 25], Res.fro 1 72 [.ints .u64 tbl_keccak_constants 24], Res.fro 2 82 [.ints .i64 tbl_keccak_places 24], Res.fro 3 82 [.ints .i64 tbl_keccak_turns 24]]) (fun _ => rfl) N51 rfl rfl (fun ok => ok) (.cons .here (.cons .here (.cons .here (.cons .here (.cons .here (.cons .here .nil)))))) rfl (bits_RotateLeft64.ok (rd y1 (Int.tmod (wr .i64 (y80 + 1)) 5)) 1 t3 et3 _ _) ?_; clear S a; intro ch2 m le1 a w S
        replace le := le.trans le1
        replace hw := CL.again hw S (.cons .here (.cons .here (.cons .here (.cons .here (.cons .here (.cons .here .nil)))))) le
        refine h_back ⟨fun _ => hw, ?_⟩
        replace CL := CL.add (t := 57) (d := (.v (.int .u64 t3))) S rfl rfl
        refine h_bin S CL hw le ⟨rfl, rfl, rfl, rfl, rfl, rfl, rfl, rfl, rfl, rfl, rfl, rfl, rfl, trivial⟩ rfl rfl rfl rfl rfl trivial ?_; clear S CL a; intro a S CL
        refine h_assign S CL hw le ⟨rfl, rfl, rfl, rfl, rfl, rfl, rfl, rfl, rfl, rfl, rfl, rfl, rfl, rfl, trivial⟩ rfl rfl rfl trivial ?_; clear S CL a; intro a S CL
        refine h_done ?_; clear CL hw le
        refine x_thenN ?_
        refine c_region ?_
        refine s_assign S rfl rfl ?_; clear S a; intro a S
        refine c_end ?_
        refine wp_block ?_
        refine c_loop (fun q5 a w => ∃ (m : Mem) (y89 : Int) (g200 : Nat) (g201 : Nat) (g202 : Nat) (y90 : List Int), St 126 m b0 [(7, (.v (.int .i64 y89))), (6, (.v (.int .u64 (bits .xor .u64 (rd y1 (Int.tmod (wr .i64 (y80 + 4)) 5)) t3)))), (5, (.v (.int .i64 y80))), (44, (.v (.int .i64 y80))), (3, (.v (.pointer (some ⟨g200, 0, none⟩)))), (2, (.v (.pointer (some ⟨g201, 0, none⟩)))), (1, (.v (.pointer (some ⟨g202, 0, none⟩))))] [Res.cells g200 79 [.ints .u64 y1 5], Res.cells g201 62 [.ints .u64 [0, 0, 0, 0, 0, 0, 0, 0, 0, 0, 0, 0, 0, 0, 0, 0, 0, 0, 0, 0, 0, 0, 0, 0, 0] 25], Res.cells g202 62 [.ints .u64 y90 25], Res.fro 1 72 [.ints .u64 tbl_keccak_constants 24], Res.fro 2 82 [.ints .i64 tbl_keccak_places 24], Res.fro 3 82 [.ints .i64 tbl_keccak_turns 24]] a w ∧ keccak_round.l5 y1 y80 (keccak_round.l4 k y1 q4) t3 q5 y89 y90 = some r) ?_ ?_ (k := k) ⟨_, 0, g179, g180, g181, y81, (S.sub ⟨rfl, rfl, rfl, rfl, rfl, rfl, rfl, trivial⟩ (.cons .here (.cons .here (.cons .here (.cons .here (.cons .here (.cons .here .nil))))))), h4⟩
        · rintro a w ⟨m, y89, g200, g201, g202, y90, S, h0⟩
          exact (nomatch (show (none : Option ((List Int))) = some r from h0))
        · clear S h4
          rintro q5 a w ⟨m, y89, g200, g201, g202, y90, S, h0⟩
          replace h0 : keccak_round.b5 y1 y80 (keccak_round.l4 k y1 q4) t3 (keccak_round.l5 y1 y80 (keccak_round.l4 k y1 q4) t3 q5) y89 y90 = some r := h0
          delta keccak_round.b5 at h0
          refine wp_seq ?_
          refine c_region ?_
          refine s_move S rfl rfl ?_; clear S a; intro a S
          refine s_bin S rfl rfl rfl rfl ?_; clear S a; intro a S
          refine c_end ?_
          rcases ite_of h0 with ⟨c15, h1⟩ | ⟨c15, h1⟩ <;> clear h0
          · refine c_condT S rfl c15 ?_
            refine wp_skip ?_
            refine x_thenN ?_
            refine wp_seq ?_
            refine wp_block ?_
            refine c_region' ?_
            refine s_move S rfl rfl ?_; clear S a; intro a S
            refine s_move S rfl rfl ?_; clear S a; intro a S
            refine s_bin S rfl rfl rfl rfl ?_; clear S a; intro a S
            obtain ⟨c16, h2⟩ := chk_of h1; clear h1
            refine s_iaddr S rfl rfl Tryd.underlying62 T24 c16.1 c16.2 (mul1 _ _) rfl ?_; clear S a; intro a S
            refine s_loadi S (i := (wr .i64 (y80 + y89))) rfl (.there (.there .here)) T24 .here rfl c16.1 c16.2 rfl ?_; clear S a; intro a S
            refine s_move S rfl rfl ?_; clear S a; intro a S
            refine s_bin S rfl rfl rfl rfl ?_; clear S a; intro a S
            refine s_iaddr S rfl rfl Tryd.underlying62 T24 c16.1 c16.2 (mul1 _ _) rfl ?_; clear S a; intro a S
            refine s_storei S (i := (wr .i64 (y80 + y89))) rfl rfl (.there (.there .here)) T24 .here rfl c16.1 c16.2 ?_; clear S w; intro w S
            refine c_end' ?_
            refine x_blockN ?_
            refine x_thenN ?_
            refine c_region' ?_
            refine s_move S rfl rfl ?_; clear S a; intro a S
            refine s_bin S rfl rfl rfl rfl ?_; clear S a; intro a S
            refine s_assign S rfl rfl ?_; clear S a; intro a S
            refine c_end' ?_
            refine x_thenN ?_
            exact ⟨_, (wr .i64 (y89 + 5)), g200, g201, g202, (y90.set (Int.toNat (wr .i64 (y80 + y89))) (bits .xor .u64 (rd y90 (wr .i64 (y80 + y89))) (bits .xor .u64 (rd y1 (Int.tmod (wr .i64 (y80 + 4)) 5)) t3))), (S.sub ⟨rfl, rfl, rfl, rfl, rfl, rfl, rfl, trivial⟩ (.cons .here (.cons .here (.cons .here (.cons .here (.cons .here (.cons .here .nil))))))), h2⟩
          · refine c_condF S rfl c15 ?_
            refine wp_exit ?_
            refine x_thenX ?_
            refine x_thenX ?_
            refine x_blockX ?_
            refine x_blockN ?_
            refine x_thenN ?_
            exact j6 _ g200 g201 g202 y90 a w (S.sub ⟨rfl, rfl, rfl, rfl, trivial⟩ (.cons .here (.cons .here (.cons .here (.cons .here (.cons .here (.cons .here .nil))))))) h1
      · refine c_condF S rfl c12 ?_
        refine wp_exit ?_
        refine x_thenX ?_
        refine x_thenX ?_
        refine x_blockX ?_
        refine x_thenN ?_
        exact j2 _ g180 g181 y81 a w (S.sub ⟨rfl, rfl, trivial⟩ (.cons (.there .here) (.cons (.there .here) (.cons (.there .here) (.cons (.there .here) (.cons (.there .here) .nil)))))) h1
  refine c_region ?_
  refine s_move S rfl rfl ?_; clear S a; intro a S
  refine c_end ?_
  refine wp_block ?_
  refine c_loop (fun q6 a w => ∃ (m : Mem) (y93 : Int) (g209 : Nat) (g210 : Nat) (g211 : Nat) (y94 : List Int), St 126 m b0 [(15, (.v (.int .i64 y93))), (3, (.v (.pointer (some ⟨g209, 0, none⟩)))), (2, (.v (.pointer (some ⟨g210, 0, none⟩)))), (1, (.v (.pointer (some ⟨g211, 0, none⟩))))] [Res.cells g209 79 [.ints .u64 y94 5], Res.cells g210 62 [.ints .u64 [0, 0, 0, 0, 0, 0, 0, 0, 0, 0, 0, 0, 0, 0, 0, 0, 0, 0, 0, 0, 0, 0, 0, 0, 0] 25], Res.cells g211 62 [.ints .u64 x1 25], Res.fro 1 72 [.ints .u64 tbl_keccak_constants 24], Res.fro 2 82 [.ints .i64 tbl_keccak_places 24], Res.fro 3 82 [.ints .i64 tbl_keccak_turns 24]] a w ∧ keccak_round.l6 k x1 q6 y93 y94 = some r) ?_ ?_ (k := k) ⟨_, 0, g3, g2, g1, [0, 0, 0, 0, 0], (S.sub ⟨rfl, rfl, rfl, rfl, trivial⟩ (.cons .here (.cons .here (.cons .here (.cons .here (.cons .here (.cons .here .nil))))))), h0⟩
  · rintro a w ⟨m, y93, g209, g210, g211, y94, S, h0⟩
    exact (nomatch (show (none : Option ((List Int))) = some r from h0))
  · clear S h0
    rintro q6 a w ⟨m, y93, g209, g210, g211, y94, S, h0⟩
    replace h0 : keccak_round.b6 k x1 (keccak_round.l6 k x1 q6) y93 y94 = some r := h0
    delta keccak_round.b6 at h0
    refine c_region ?_
    refine s_bin S rfl rfl rfl rfl ?_; clear S a; intro a S
    refine c_end ?_
    refine wp_seq ?_
    rcases ite_of h0 with ⟨c17, h1⟩ | ⟨c17, h1⟩ <;> clear h0
    · refine c_condT S rfl c17 ?_
      refine wp_skip ?_
      refine x_thenN ?_
      refine wp_seq ?_
      refine wp_block ?_
      refine c_region ?_
      refine s_move S rfl rfl ?_; clear S a; intro a S
      refine s_assign S rfl rfl ?_; clear S a; intro a S
      refine c_end ?_
      refine c_heldS S (.take 0 (.take 1 (.take 2 (.take 3 (.take 4 (.take 5 (.take 6 (.take 7 (.take 8 (.take 9 (.take 10 (.take 11 (.take 12 (.take 13 (.take 14 (.take 15 (.take 16 (.take 17 (.take 18 (.take 19 (.take 20 (.take 21 (.take 22 (.take 23 (.take 24 (.alts (.run 25 false .done .nil))))))))))))))))))))))))))) 25 [Res.cells g209 79 [.ints .u64 y94 5], Res.cells g210 62 [.ints .u64 [0, 0, 0, 0, 0, 0, 0, 0, 0, 0, 0, 0, 0, 0, 0, 0, 0, 0, 0, 0, 0, 0, 0, 0, 0] 25], Res.cells g211 62 [.ints .u64 x1 25], Res.fro 1 72 [.ints .u64 tbl_keccak_constants 24], Res.fro 2 82 [.ints .i64 tbl_keccak_places 24], Res.fro 3 82 [.ints .i64 tbl_keccak_turns 24]] (.cons .here (.cons .here (.cons .here (.cons .here (.cons .here (.cons .here .nil)))))) ⟨Res.stay_cells, Res.stay_cells, Res.stay_cells, Res.stay_fro, Res.stay_fro, Res.stay_fro, trivial⟩ [(4, (.v (.int .i64 y93))), (3, (.v (.pointer (some ⟨g209, 0, none⟩)))), (1, (.v (.pointer (some ⟨g211, 0, none⟩))))] ⟨rfl, rfl, rfl, trivial⟩ (by kernel_rfl) (by kernel_rfl) ?_; clear S; intro w S CL hw le
      refine h_move S CL hw le ⟨rfl, rfl, rfl, trivial⟩ rfl rfl rfl trivial ?_; clear S CL a; intro a S CL
      refine h_move S CL hw le ⟨rfl, rfl, rfl, rfl, trivial⟩ rfl rfl rfl trivial ?_; clear S CL a; intro a S CL
      obtain ⟨c18, h2⟩ := chk_of h1; clear h1
      refine h_iaddr S CL hw le ⟨rfl, rfl, rfl, rfl, rfl, trivial⟩ rfl rfl Tryd.underlying62 T24 c18.1 c18.2 (mul1 _ _) rfl rfl trivial ?_; clear S CL a; intro a S CL
      refine h_loadi S CL hw le ⟨rfl, rfl, rfl, rfl, rfl, rfl, trivial⟩ (i := y93) rfl (.there (.there .here)) T24 .here rfl c18.1 c18.2 rfl rfl trivial ?_; clear S CL a; intro a S CL
      refine h_move S CL hw le ⟨rfl, rfl, rfl, rfl, rfl, rfl, rfl, trivial⟩ rfl rfl rfl trivial ?_; clear S CL a; intro a S CL
      refine h_bin S CL hw le ⟨rfl, rfl, rfl, rfl, rfl, rfl, rfl, rfl, trivial⟩ rfl rfl rfl rfl rfl trivial ?_; clear S CL a; intro a S CL
      obtain ⟨c19, h3⟩ := chk_of h2; clear h2
      refine h_iaddr S CL hw le ⟨rfl, rfl, rfl, rfl, rfl, rfl, rfl, rfl, rfl, trivial⟩ rfl rfl Tryd.underlying62 T24 c19.1 c19.2 (mul1 _ _) rfl rfl trivial ?_; clear S CL a; intro a S CL
      refine h_loadi S CL hw le ⟨rfl, rfl, rfl, rfl, rfl, rfl, rfl, rfl, rfl, rfl, trivial⟩ (i := (wr .i64 (y93 + 5))) rfl (.there (.there .here)) T24 .here rfl c19.1 c19.2 rfl rfl trivial ?_; clear S CL a; intro a S CL
      refine h_bin S CL hw le ⟨rfl, rfl, rfl, rfl, rfl, rfl, rfl, rfl, rfl, rfl, rfl, trivial⟩ rfl rfl rfl rfl rfl trivial ?_; clear S CL a; intro a S CL
      refine h_move S CL hw le ⟨rfl, rfl, rfl, rfl, rfl, rfl, rfl, rfl, rfl, rfl, rfl, rfl, trivial⟩ rfl rfl rfl trivial ?_; clear S CL a; intro a S CL
      refine h_bin S CL hw le ⟨rfl, rfl, rfl, rfl, rfl, rfl, rfl, rfl, rfl, rfl, rfl, rfl, rfl, trivial⟩ rfl rfl rfl rfl rfl trivial ?_; clear S CL a; intro a S CL
      obtain ⟨c20, h4⟩ := chk_of h3; clear h3
      refine h_iaddr S CL hw le ⟨rfl, rfl, rfl, rfl, rfl, rfl, rfl, rfl, rfl, rfl, rfl, rfl, rfl, rfl, trivial⟩ rfl rfl Tryd.underlying62 T24 c20.1 c20.2 (mul1 _ _) rfl rfl trivial ?_; clear S CL a; intro a S CL
      refine h_loadi S CL hw le ⟨rfl, rfl, rfl, rfl, rfl, rfl, rfl, rfl, rfl, rfl, rfl, rfl, rfl, rfl, rfl, trivial⟩ (i := (wr .i64 (y93 + 10))) rfl (.there (.there .here)) T24 .here rfl c20.1 c20.2 rfl rfl trivial ?_; clear S CL a; intro a S CL
      refine h_bin S CL hw le ⟨rfl, rfl, rfl, rfl, rfl, rfl, rfl, rfl, rfl, rfl, rfl, rfl, rfl, rfl, rfl, rfl, trivial⟩ rfl rfl rfl rfl rfl trivial ?_; clear S CL a; intro a S CL
      refine h_move S CL hw le ⟨rfl, rfl, rfl, rfl, rfl, rfl, rfl, rfl, rfl, rfl, rfl, rfl, rfl, rfl, rfl, rfl, rfl, trivial⟩ rfl rfl rfl trivial ?_; clear S CL a; intro a S CL
      refine h_bin S CL hw le ⟨rfl, rfl, rfl, rfl, rfl, rfl, rfl, rfl, rfl, rfl, rfl, rfl, rfl, rfl, rfl, rfl, rfl, rfl, trivial⟩ rfl rfl rfl rfl rfl trivial ?_; clear S CL a; intro a S CL
      obtain ⟨c21, h5⟩ := chk_of h4; clear h4
      refine h_iaddr S CL hw le ⟨rfl, rfl, rfl, rfl, rfl, rfl, rfl, rfl, rfl, rfl, rfl, rfl, rfl, rfl, rfl, rfl, rfl, rfl, rfl, trivial⟩ rfl rfl Tryd.underlying62 T24 c21.1 c21.2 (mul1 _ _) rfl rfl trivial ?_; clear S CL a; intro a S CL
      refine h_loadi S CL hw le ⟨rfl, rfl, rfl, rfl, rfl, rfl, rfl, rfl, rfl, rfl, rfl, rfl, rfl, rfl, rfl, rfl, rfl, rfl, rfl, rfl, trivial⟩ (i := (wr .i64 (y93 + 15))) rfl (.there (.there .here)) T24 .here rfl c21.1 c21.2 rfl rfl trivial ?_; clear S CL a; intro a S CL
      refine h_bin S CL hw le ⟨rfl, rfl, rfl, rfl, rfl, rfl, rfl, rfl, rfl, rfl, rfl, rfl, rfl, rfl, rfl, rfl, rfl, rfl, rfl, rfl, rfl, trivial⟩ rfl rfl rfl rfl rfl trivial ?_; clear S CL a; intro a S CL
      refine h_move S CL hw le ⟨rfl, rfl, rfl, rfl, rfl, rfl, rfl, rfl, rfl, rfl, rfl, rfl, rfl, rfl, rfl, rfl, rfl, rfl, rfl, rfl, rfl, rfl, trivial⟩ rfl rfl rfl trivial ?_; clear S CL a; intro a S CL
      refine h_bin S CL hw le ⟨rfl, rfl, rfl, rfl, rfl, rfl, rfl, rfl, rfl, rfl, rfl, rfl, rfl, rfl, rfl, rfl, rfl, rfl, rfl, rfl, rfl, rfl, rfl, trivial⟩ rfl rfl rfl rfl rfl trivial ?_; clear S CL a; intro a S CL
      obtain ⟨c22, h6⟩ := chk_of h5; clear h5
      refine h_iaddr S CL hw le ⟨rfl, rfl, rfl, rfl, rfl, rfl, rfl, rfl, rfl, rfl, rfl, rfl, rfl, rfl, rfl, rfl, rfl, rfl, rfl, rfl, rfl, rfl, rfl, rfl, trivial⟩ rfl rfl Tryd.underlying62 T24 c22.1 c22.2 (mul1 _ _) rfl rfl trivial ?_; clear S CL a; intro a S CL
      refine h_loadi S CL hw le ⟨rfl, rfl, rfl, rfl, rfl, rfl, rfl, rfl, rfl, rfl, rfl, rfl, rfl, rfl, rfl, rfl, rfl, rfl, rfl, rfl, rfl, rfl, rfl, rfl, rfl, trivial⟩ (i := (wr .i64 (y93 + 20))) rfl (.there (.there .here)) T24 .here rfl c22.1 c22.2 rfl rfl trivial ?_; clear S CL a; intro a S CL
      refine h_bin S CL hw le ⟨rfl, rfl, rfl, rfl, rfl, rfl, rfl, rfl, rfl, rfl, rfl, rfl, rfl, rfl, rfl, rfl, rfl, rfl, rfl, rfl, rfl, rfl, rfl, rfl, rfl, rfl, trivial⟩ rfl rfl rfl rfl rfl trivial ?_; clear S CL a; intro a S CL
      obtain ⟨c23, h7⟩ := chk_of h6; clear h6
      refine h_iaddr S CL hw le ⟨rfl, rfl, rfl, rfl, rfl, rfl, rfl, rfl, rfl, rfl, rfl, rfl, rfl, rfl, rfl, rfl, rfl, rfl, rfl, rfl, rfl, rfl, rfl, rfl, rfl, rfl, rfl, trivial⟩ rfl rfl Tryd.underlying79 T24 c23.1 c23.2 (mul1 _ _) rfl rfl trivial ?_; clear S CL a; intro a S CL
      refine h_run' S rfl trivial ?_
      refine s_storei S (i := y93) rfl rfl .here T24 .here rfl c23.1 c23.2 ?_; clear S; intro w S
      refine h_back ⟨fun h => (nomatch h), ?_⟩
      refine h_done ?_; clear CL hw le
      refine x_blockN ?_
      refine x_thenN ?_
      refine c_region' ?_
      refine s_bin S rfl rfl rfl rfl ?_; clear S a; intro a S
      refine s_move S rfl rfl ?_; clear S a; intro a S
      refine c_end' ?_
      refine x_thenN ?_
      exact ⟨_, (wr .i64 (y93 + 1)), g209, g210, g211, (y94.set (Int.toNat y93) (bits .xor .u64 (bits .xor .u64 (bits .xor .u64 (bits .xor .u64 (rd x1 y93) (rd x1 (wr .i64 (y93 + 5)))) (rd x1 (wr .i64 (y93 + 10)))) (rd x1 (wr .i64 (y93 + 15)))) (rd x1 (wr .i64 (y93 + 20))))), (S.sub ⟨rfl, rfl, rfl, rfl, trivial⟩ (.cons .here (.cons .here (.cons .here (.cons .here (.cons .here (.cons .here .nil))))))), h7⟩
    · refine c_condF S rfl c17 ?_
      refine wp_exit ?_
      refine x_thenX ?_
      refine x_thenX ?_
      refine x_blockX ?_
      refine x_thenN ?_
      exact j1 _ g209 g210 g211 y94 a w (S.sub ⟨rfl, rfl, rfl, trivial⟩ (.cons .here (.cons .here (.cons .here (.cons .here (.cons .here (.cons .here .nil))))))) h1
/-! smithy/keccak.Turn -/
abbrev keccak_Turn.Ty : Type := (List Int) → Option ((List Int))
def keccak_Turn.Ctr (s : keccak_Turn.Ty) : Prop := ∀ (x1 : List Int) (r : (List Int)) (h0 : s x1 = some r) (mi : Mem) (w0 : World) (G : Glob mi), okL mi [(.agg [.ints .u64 x1 25])] → Pre mi [] w0 → Calls Tryd.prog 42 (([(.agg [.ints .u64 x1 25])] : List D).map D.val).toArray w0 (RetX mi [] (fun (ch : Unit) => ((.agg [.ints .u64 r 25]) : D)) (fun (ch : Unit) => []) w0)
def keccak_Turn.j1 (y1 : List Int) : Option ((List Int)) := some y1
def keccak_Turn.b1 (k : Nat) (rec1 : Int → (List Int) → Option ((List Int))) (y4 : Int) (y5 : List Int) : Option ((List Int)) := if (decide (y4 < 24)) = true then (if (0 : Int) ≤ y4 ∧ y4 < 24 then ((keccak_round.f k y5).bind fun t1 => (rec1 (wr .i64 (y4 + 1)) (t1.set (Int.toNat 0) (bits .xor .u64 (rd t1 0) (rd tbl_keccak_constants y4))))) else none) else (keccak_Turn.j1 y5)
def keccak_Turn.l1 (k : Nat) : Nat → Int → (List Int) → Option ((List Int))
  | 0, _, _ => none
  | q + 1, y4, y5 => keccak_Turn.b1 k (keccak_Turn.l1 k q) y4 y5
def keccak_Turn.f (k : Nat) (x1 : List Int) : Option ((List Int)) := keccak_Turn.l1 k k 0 x1
theorem keccak_Turn.ok (k : Nat) : keccak_Turn.Ctr (keccak_Turn.f k) := by
  intro x1 r h0 mi w0 G ok hm
  delta keccak_Turn.f at h0
  refine c_enterX (n := 18) [(.agg [.ints .u64 x1 25])] (l := [(0, (.agg [.ints .u64 x1 25]))]) Tryd.func42 rfl rfl rfl rfl ok hm ?_
  clear ok hm
  intro b0 hb a S
  replace S := S.addfro (g := 3) 82 G.2.2
  replace S := S.addfro (g := 2) 82 G.2.1
  replace S := S.addfro (g := 1) 72 G.1
  refine c_region ?_
  refine s_box S rfl rfl rfl ?_; clear S a; intro g1 a w S
  refine s_alloc S Z62 rfl ⟨rfl, trivial⟩ rfl ?_; clear S a w; intro g2 a w S
  refine c_end ?_
  refine wp_seq_k ?_
  intro K1 hK1
  have j1 : ∀ (m : Mem) (g9 : Nat) (g10 : Nat) (y1 : List Int) (a : Act) (w : World), St 18 m b0 [(2, (.v (.pointer (some ⟨g9, 0, none⟩)))), (1, (.v (.pointer (some ⟨g10, 0, none⟩))))] [Res.cells g9 62 [.ints .u64 [0, 0, 0, 0, 0, 0, 0, 0, 0, 0, 0, 0, 0, 0, 0, 0, 0, 0, 0, 0, 0, 0, 0, 0, 0] 25], Res.cells g10 62 [.ints .u64 y1 25], Res.fro 1 72 [.ints .u64 tbl_keccak_constants 24], Res.fro 2 82 [.ints .i64 tbl_keccak_places 24], Res.fro 3 82 [.ints .i64 tbl_keccak_turns 24]] a w → keccak_Turn.j1 y1 = some r → K1 a w := by
    intro m g9 g10 y1 a w S h0
    delta keccak_Turn.j1 at h0
    refine hK1 a w ?_
    refine c_region ?_
    refine s_loada S rfl (.there .here) T62 (s' := [.ints .u64 y1 25]) rfl rfl ?_; clear S a; intro a S
    refine s_store S rfl rfl rfl (s' := [.ints .u64 y1 25]) .here T62 rfl rfl ?_; clear S w; intro w S
    refine c_end ?_
    refine wp_ret ?_
    obtain rfl := Option.some.inj h0
    exact b_ret1 (d := (.agg [.ints .u64 y1 25])) S rfl (resD_cell rfl .here T62 rfl rfl) fun ok => S.retX (Hx := []) hb _ _ (() : Unit) .nil ok
  refine c_region ?_
  refine s_loadaF S rfl (.there (.there .here)) T72 (s' := [.ints .u64 tbl_keccak_constants 24]) rfl rfl ?_; clear S a; intro a S
  refine s_move S rfl rfl ?_; clear S a; intro a S
  refine c_end ?_
  refine wp_block ?_
  refine c_loop (fun q1 a w => ∃ (m : Mem) (y4 : Int) (g15 : Nat) (g16 : Nat) (y5 : List Int), St 18 m b0 [(6, (.v (.int .i64 y4))), (5, (.agg [.ints .u64 tbl_keccak_constants 24])), (2, (.v (.pointer (some ⟨g15, 0, none⟩)))), (1, (.v (.pointer (some ⟨g16, 0, none⟩))))] [Res.cells g15 62 [.ints .u64 [0, 0, 0, 0, 0, 0, 0, 0, 0, 0, 0, 0, 0, 0, 0, 0, 0, 0, 0, 0, 0, 0, 0, 0, 0] 25], Res.cells g16 62 [.ints .u64 y5 25], Res.fro 1 72 [.ints .u64 tbl_keccak_constants 24], Res.fro 2 82 [.ints .i64 tbl_keccak_places 24], Res.fro 3 82 [.ints .i64 tbl_keccak_turns 24]] a w ∧ keccak_Turn.l1 k q1 y4 y5 = some r) ?_ ?_ (k := k) ⟨_, 0, g2, g1, x1, (S.sub ⟨rfl, rfl, rfl, rfl, trivial⟩ (.cons .here (.cons .here (.cons .here (.cons .here (.cons .here .nil)))))), h0⟩
  · rintro a w ⟨m, y4, g15, g16, y5, S, h0⟩
    exact (nomatch (show (none : Option ((List Int))) = some r from h0))
  · clear S h0
    rintro q1 a w ⟨m, y4, g15, g16, y5, S, h0⟩
    replace h0 : keccak_Turn.b1 k (keccak_Turn.l1 k q1) y4 y5 = some r := h0
    delta keccak_Turn.b1 at h0
    refine c_region ?_
    refine s_bin S rfl rfl rfl rfl ?_; clear S a; intro a S
    refine c_end ?_
    refine wp_seq ?_
    rcases ite_of h0 with ⟨c1, h1⟩ | ⟨c1, h1⟩ <;> clear h0
    · refine c_condT S rfl c1 ?_
      refine wp_skip ?_
      refine x_thenN ?_
      refine wp_seq ?_
      refine wp_block ?_
      refine c_region ?_
      obtain ⟨c2, h2⟩ := chk_of h1; clear h1
      refine s_index S rfl rfl Tryd.underlying72 T24 c2.1 c2.2 rfl ?_; clear S a; intro a S
      refine s_assign S rfl rfl ?_; clear S a; intro a S
      refine c_end ?_
      refine c_region ?_
      refine s_loada S rfl (.there .here) T62 (s' := [.ints .u64 y5 25]) rfl rfl ?_; clear S a; intro a S
      obtain ⟨t1, et1, h3⟩ := bind_of h2; clear h2
      refine s_callX S (ds' := [(.agg [.ints .u64 y5 25])]) (ds := [(.agg [.ints .u64 y5 25])]) [] [Res.cells g15 62 [.ints .u64 [0, 0, 0, 0, 0, 0, 0, 0, 0, 0, 0, 0, 0, 0, 0, 0, 0, 0, 0, 0, 0, 0, 0, 0, 0] 25], Res.cells g16 62 [.ints .u64 y5 25], Res.fro 1 72 [.ints .u64 tbl_keccak_constants 24], Res.fro 2 82 [.ints .i64 tbl_keccak_places 24], Res.fro 3 82 [.ints .i64 tbl_keccak_turns 24]] (fun (ch : Unit) => ((.agg [.ints .u64 t1 25]) : D)) (fun (ch : Unit) => []) (fun (ch : Unit) => [Res.cells g15 62 [.ints .u64 [0, 0, 0, 0, 0, 0, 0, 0, 0, 0, 0, 0, 0, 0, 0, 0, 0, 0, 0, 0, 0, 0, 0, 0, 0] 25], Res.cells g16 62 [.ints .u64 y5 25], Res.fro 1 72 [.ints .u64 tbl_keccak_constants 24], Res.fro 2 82 [.ints .i64 tbl_keccak_places 24], Res.fro 3 82 [.ints .i64 tbl_keccak_turns 24]]) (fun _ => rfl) N48 rfl rfl (fun ok => ok) (.cons .here (.cons .here (.cons .here (.cons .here (.cons .here .nil))))) rfl (keccak_round.ok k y5 t1 et1 _ _ (G.mono (S.leB hb))) ?_; clear S a w; intro ch1 m le1 a w S
      refine s_store S rfl rfl rfl (s' := [.ints .u64 t1 25]) (.there .here) T62 rfl rfl ?_; clear S w; intro w S
      refine c_end ?_
      refine c_region' ?_
      refine s_iaddr S (o' := 0) rfl rfl Tryd.underlying62 T24 (by decide) (by decide) rfl rfl ?_; clear S a; intro a S
      refine s_loadi S (i := 0) rfl (.there .here) T24 .here rfl (by decide) (by decide) rfl ?_; clear S a; intro a S
      refine s_move S rfl rfl ?_; clear S a; intro a S
      refine s_bin S rfl rfl rfl rfl ?_; clear S a; intro a S
      refine s_iaddr S (o' := 0) rfl rfl Tryd.underlying62 T24 (by decide) (by decide) rfl rfl ?_; clear S a; intro a S
      refine s_storei S (i := 0) rfl rfl (.there .here) T24 .here rfl (by decide) (by decide) ?_; clear S w; intro w S
      refine c_end' ?_
      refine x_blockN ?_
      refine x_thenN ?_
      refine c_region' ?_
      refine s_bin S rfl rfl rfl rfl ?_; clear S a; intro a S
      refine s_move S rfl rfl ?_; clear S a; intro a S
      refine c_end' ?_
      refine x_thenN ?_
      exact ⟨_, (wr .i64 (y4 + 1)), g15, g16, (t1.set (Int.toNat 0) (bits .xor .u64 (rd t1 0) (rd tbl_keccak_constants y4))), (S.sub ⟨rfl, rfl, rfl, rfl, trivial⟩ (.cons .here (.cons .here (.cons .here (.cons .here (.cons .here .nil)))))), h3⟩
    · refine c_condF S rfl c1 ?_
      refine wp_exit ?_
      refine x_thenX ?_
      refine x_thenX ?_
      refine x_blockX ?_
      refine x_thenN ?_
      exact j1 _ g15 g16 y5 a w (S.sub ⟨rfl, rfl, trivial⟩ (.cons .here (.cons .here (.cons .here (.cons .here (.cons .here .nil)))))) h1
/-! smithy/keccak.absorb -/
abbrev keccak_absorb.Ty : Type := (List Int) → (List Int) → Option ((List Int))
def keccak_absorb.Ctr (s : keccak_absorb.Ty) : Prop := ∀ (x1 : List Int) (x2 : List Int) (ch_1_0 : Option Addr) (ch_1_1 : Nat) (r : (List Int)) (h0 : s x1 x2 = some r) (mi : Mem) (w0 : World) (G : Glob mi), okL mi [(.agg [.ints .u64 x1 25]), (.sl ch_1_0 (x2).length ch_1_1 (RdS (Ty.int .u8) ch_1_0 x2))] → Pre mi [] w0 → Calls Tryd.prog 36 (([(.agg [.ints .u64 x1 25]), (.sl ch_1_0 (x2).length ch_1_1 (RdS (Ty.int .u8) ch_1_0 x2))] : List D).map D.val).toArray w0 (RetX mi [] (fun (ch : Unit) => ((.agg [.ints .u64 r 25]) : D)) (fun (ch : Unit) => []) w0)
def keccak_absorb.j1 (k : Nat) (y1 : List Int) : Option ((List Int)) := (keccak_Turn.f k y1).bind fun t1 => (some t1)
def keccak_absorb.b1 (k : Nat) (x2 : List Int) (rec1 : Int → (List Int) → Option ((List Int))) (y4 : Int) (y5 : List Int) : Option ((List Int)) := if (decide (y4 < ((x2).length : Int))) = true then (if (0 : Int) ≤ y4 ∧ y4 < ((x2).length : Int) then (if (0 : Int) ≤ (wr .i64 (Int.tdiv y4 8)) ∧ (wr .i64 (Int.tdiv y4 8)) < 25 then (if (0 : Int) ≤ (wr .i64 ((Int.tmod y4 8) * 8)) then (rec1 (wr .i64 (y4 + 1)) (y5.set (Int.toNat (wr .i64 (Int.tdiv y4 8))) (bits .xor .u64 (rd y5 (wr .i64 (Int.tdiv y4 8))) (shl .u64 (wr .u64 (rd x2 y4)) (min (Int.toNat (wr .i64 ((Int.tmod y4 8) * 8))) 64))))) else none) else none) else none) else (keccak_absorb.j1 k y5)
def keccak_absorb.l1 (k : Nat) (x2 : List Int) : Nat → Int → (List Int) → Option ((List Int))
  | 0, _, _ => none
  | q + 1, y4, y5 => keccak_absorb.b1 k x2 (keccak_absorb.l1 k x2 q) y4 y5
def keccak_absorb.f (k : Nat) (x1 : List Int) (x2 : List Int) : Option ((List Int)) := keccak_absorb.l1 k x2 k 0 x1
theorem keccak_absorb.ok (k : Nat) : keccak_absorb.Ctr (keccak_absorb.f k) := by
  intro x1 x2 ch_1_0 ch_1_1 r h0 mi w0 G ok hm
  delta keccak_absorb.f at h0
  refine c_enterX (n := 29) [(.agg [.ints .u64 x1 25]), (.sl ch_1_0 (x2).length ch_1_1 (RdS (Ty.int .u8) ch_1_0 x2))] (l := [(0, (.agg [.ints .u64 x1 25])), (1, (.sl ch_1_0 (x2).length ch_1_1 (RdS (Ty.int .u8) ch_1_0 x2)))]) Tryd.func36 rfl rfl rfl rfl ok hm ?_
  clear ok hm
  intro b0 hb a S
  refine c_region ?_
  refine s_box S rfl rfl rfl ?_; clear S a; intro g1 a w S
  refine s_alloc S Z62 rfl ⟨rfl, trivial⟩ rfl ?_; clear S a w; intro g2 a w S
  refine c_end ?_
  refine wp_seq_k ?_
  intro K1 hK1
  have j1 : ∀ (m : Mem) (g9 : Nat) (g10 : Nat) (y1 : List Int) (a : Act) (w : World), St 29 m b0 [(4, (.v (.pointer (some ⟨g9, 0, none⟩)))), (2, (.v (.pointer (some ⟨g10, 0, none⟩))))] [Res.cells g9 62 [.ints .u64 [0, 0, 0, 0, 0, 0, 0, 0, 0, 0, 0, 0, 0, 0, 0, 0, 0, 0, 0, 0, 0, 0, 0, 0, 0] 25], Res.cells g10 62 [.ints .u64 y1 25]] a w → keccak_absorb.j1 k y1 = some r → K1 a w := by
    intro m g9 g10 y1 a w S h0
    delta keccak_absorb.j1 at h0
    refine hK1 a w ?_
    refine c_region ?_
    refine s_loada S rfl (.there .here) T62 (s' := [.ints .u64 y1 25]) rfl rfl ?_; clear S a; intro a S
    obtain ⟨t1, et1, h1⟩ := bind_of h0; clear h0
    refine s_callX S (ds' := [(.agg [.ints .u64 y1 25])]) (ds := [(.agg [.ints .u64 y1 25])]) [] [Res.cells g9 62 [.ints .u64 [0, 0, 0, 0, 0, 0, 0, 0, 0, 0, 0, 0, 0, 0, 0, 0, 0, 0, 0, 0, 0, 0, 0, 0, 0] 25], Res.cells g10 62 [.ints .u64 y1 25]] (fun (ch : Unit) => ((.agg [.ints .u64 t1 25]) : D)) (fun (ch : Unit) => []) (fun (ch : Unit) => [Res.cells g9 62 [.ints .u64 [0, 0, 0, 0, 0, 0, 0, 0, 0, 0, 0, 0, 0, 0, 0, 0, 0, 0, 0, 0, 0, 0, 0, 0, 0] 25], Res.cells g10 62 [.ints .u64 y1 25]]) (fun _ => rfl) N42 rfl rfl (fun ok => ok) (.cons .here (.cons .here .nil)) rfl (keccak_Turn.ok k y1 t1 et1 _ _ (G.mono (S.leB hb))) ?_; clear S a w; intro ch1 m le1 a w S
    refine s_store S rfl rfl rfl (s' := [.ints .u64 t1 25]) .here T62 rfl rfl ?_; clear S w; intro w S
    refine c_end ?_
    refine wp_ret ?_
    obtain rfl := Option.some.inj h1
    exact b_ret1 (d := (.agg [.ints .u64 t1 25])) S rfl (resD_cell rfl .here T62 rfl rfl) fun ok => S.retX (Hx := []) hb _ _ (() : Unit) .nil ok
  refine c_region ?_
  refine s_move S rfl rfl ?_; clear S a; intro a S
  refine s_lenS S rfl Tryd.underlying27 rfl ?_; clear S a; intro a S
  refine s_move S rfl rfl ?_; clear S a; intro a S
  refine c_end ?_
  refine wp_block ?_
  refine c_loop (fun q1 a w => ∃ (m : Mem) (y4 : Int) (g15 : Nat) (g16 : Nat) (y5 : List Int), St 29 m b0 [(9, (.v (.int .i64 y4))), (8, (.v (.int .i64 ((x2).length : Int)))), (7, (.sl ch_1_0 (x2).length ch_1_1 (RdS (Ty.int .u8) ch_1_0 x2))), (4, (.v (.pointer (some ⟨g15, 0, none⟩)))), (2, (.v (.pointer (some ⟨g16, 0, none⟩))))] [Res.cells g15 62 [.ints .u64 [0, 0, 0, 0, 0, 0, 0, 0, 0, 0, 0, 0, 0, 0, 0, 0, 0, 0, 0, 0, 0, 0, 0, 0, 0] 25], Res.cells g16 62 [.ints .u64 y5 25]] a w ∧ keccak_absorb.l1 k x2 q1 y4 y5 = some r) ?_ ?_ (k := k) ⟨_, 0, g2, g1, x1, (S.sub ⟨rfl, rfl, rfl, rfl, rfl, trivial⟩ (.cons .here (.cons .here .nil))), h0⟩
  · rintro a w ⟨m, y4, g15, g16, y5, S, h0⟩
    exact (nomatch (show (none : Option ((List Int))) = some r from h0))
  · clear S h0
    rintro q1 a w ⟨m, y4, g15, g16, y5, S, h0⟩
    replace h0 : keccak_absorb.b1 k x2 (keccak_absorb.l1 k x2 q1) y4 y5 = some r := h0
    delta keccak_absorb.b1 at h0
    refine c_region ?_
    refine s_bin S rfl rfl rfl rfl ?_; clear S a; intro a S
    refine c_end ?_
    refine wp_seq ?_
    rcases ite_of h0 with ⟨c1, h1⟩ | ⟨c1, h1⟩ <;> clear h0
    · refine c_condT S rfl c1 ?_
      refine wp_skip ?_
      refine x_thenN ?_
      refine wp_seq ?_
      refine wp_block ?_
      refine c_region ?_
      refine s_move S rfl rfl ?_; clear S a; intro a S
      obtain ⟨c2, h2⟩ := chk_of h1; clear h1
      refine s_iaddrS S rfl rfl rfl Tryd.underlying27 T5 c2.1 c2.2 rfl ?_; clear S a; intro p1 a S
      refine s_ld1 S (v := (.int .u8 (rd x2 y4))) rfl T5 (fun _ => rfl) rfl ?_; clear S a; intro a S
      refine s_assign S rfl rfl ?_; clear S a; intro a S
      refine s_assign S rfl rfl ?_; clear S a; intro a S
      refine c_end ?_
      refine c_heldS S (.take 0 (.take 1 (.take 2 (.take 3 (.take 4 (.take 5 (.take 6 (.take 7 (.take 8 (.take 9 (.take 10 (.take 11 (.alts (.run 12 false .done .nil)))))))))))))) 12 [Res.cells g15 62 [.ints .u64 [0, 0, 0, 0, 0, 0, 0, 0, 0, 0, 0, 0, 0, 0, 0, 0, 0, 0, 0, 0, 0, 0, 0, 0, 0] 25], Res.cells g16 62 [.ints .u64 y5 25]] (.cons .here (.cons .here .nil)) ⟨Res.stay_cells, Res.stay_cells, trivial⟩ [(6, (.v (.int .u8 (rd x2 y4)))), (5, (.v (.int .i64 y4))), (2, (.v (.pointer (some ⟨g16, 0, none⟩))))] ⟨rfl, rfl, rfl, trivial⟩ (by kernel_rfl) (by kernel_rfl) ?_; clear S; intro w S CL hw le
      refine h_move S CL hw le ⟨rfl, rfl, rfl, trivial⟩ rfl rfl rfl trivial ?_; clear S CL a; intro a S CL
      refine h_quo S CL hw le ⟨rfl, rfl, rfl, rfl, trivial⟩ rfl rfl (by decide) rfl rfl trivial ?_; clear S CL a; intro a S CL
      obtain ⟨c3, h3⟩ := chk_of h2; clear h2
      refine h_iaddr S CL hw le ⟨rfl, rfl, rfl, rfl, rfl, trivial⟩ rfl rfl Tryd.underlying62 T24 c3.1 c3.2 (mul1 _ _) rfl rfl trivial ?_; clear S CL a; intro a S CL
      refine h_loadi S CL hw le ⟨rfl, rfl, rfl, rfl, rfl, rfl, trivial⟩ (i := (wr .i64 (Int.tdiv y4 8))) rfl (.there .here) T24 .here rfl c3.1 c3.2 rfl rfl trivial ?_; clear S CL a; intro a S CL
      refine h_move S CL hw le ⟨rfl, rfl, rfl, rfl, rfl, rfl, rfl, trivial⟩ rfl rfl rfl trivial ?_; clear S CL a; intro a S CL
      refine h_conv S CL hw le ⟨rfl, rfl, rfl, rfl, rfl, rfl, rfl, rfl, trivial⟩ rfl rfl Tryd.underlying24 rfl rfl trivial ?_; clear S CL a; intro a S CL
      refine h_move S CL hw le ⟨rfl, rfl, rfl, rfl, rfl, rfl, rfl, rfl, rfl, trivial⟩ rfl rfl rfl trivial ?_; clear S CL a; intro a S CL
      refine h_rem S CL hw le ⟨rfl, rfl, rfl, rfl, rfl, rfl, rfl, rfl, rfl, rfl, trivial⟩ rfl rfl (by decide) rfl rfl trivial ?_; clear S CL a; intro a S CL
      refine h_bin S CL hw le ⟨rfl, rfl, rfl, rfl, rfl, rfl, rfl, rfl, rfl, rfl, rfl, trivial⟩ rfl rfl rfl rfl rfl trivial ?_; clear S CL a; intro a S CL
      obtain ⟨c4, h4⟩ := chk_of h3; clear h3
      refine h_shl S CL hw le ⟨rfl, rfl, rfl, rfl, rfl, rfl, rfl, rfl, rfl, rfl, rfl, rfl, trivial⟩ (e := (min (Int.toNat (wr .i64 ((Int.tmod y4 8) * 8))) 64)) rfl rfl c4 rfl rfl rfl trivial ?_; clear S CL a; intro a S CL
      refine h_bin S CL hw le ⟨rfl, rfl, rfl, rfl, rfl, rfl, rfl, rfl, rfl, rfl, rfl, rfl, rfl, trivial⟩ rfl rfl rfl rfl rfl trivial ?_; clear S CL a; intro a S CL
      refine h_iaddr S CL hw le ⟨rfl, rfl, rfl, rfl, rfl, rfl, rfl, rfl, rfl, rfl, rfl, rfl, rfl, rfl, trivial⟩ rfl rfl Tryd.underlying62 T24 c3.1 c3.2 (mul1 _ _) rfl rfl trivial ?_; clear S CL a; intro a S CL
      refine h_run' S rfl trivial ?_
      refine s_storei S (i := (wr .i64 (Int.tdiv y4 8))) rfl rfl (.there .here) T24 .here rfl c3.1 c3.2 ?_; clear S; intro w S
      refine h_back ⟨fun h => (nomatch h), ?_⟩
      refine h_done ?_; clear CL hw le
      refine x_blockN ?_
      refine x_thenN ?_
      refine c_region' ?_
      refine s_bin S rfl rfl rfl rfl ?_; clear S a; intro a S
      refine s_move S rfl rfl ?_; clear S a; intro a S
      refine c_end' ?_
      refine x_thenN ?_
      exact ⟨_, (wr .i64 (y4 + 1)), g15, g16, (y5.set (Int.toNat (wr .i64 (Int.tdiv y4 8))) (bits .xor .u64 (rd y5 (wr .i64 (Int.tdiv y4 8))) (shl .u64 (wr .u64 (rd x2 y4)) (min (Int.toNat (wr .i64 ((Int.tmod y4 8) * 8))) 64)))), (S.sub ⟨rfl, rfl, rfl, rfl, rfl, trivial⟩ (.cons .here (.cons .here .nil))), h4⟩
    · refine c_condF S rfl c1 ?_
      refine wp_exit ?_
      refine x_thenX ?_
      refine x_thenX ?_
      refine x_blockX ?_
      refine x_thenN ?_
      exact j1 _ g15 g16 y5 a w (S.sub ⟨rfl, rfl, trivial⟩ (.cons .here (.cons .here .nil))) h1
/-! smithy/keccak.Sum -/
abbrev keccak_Sum.Ty : Type := (List Int) → Option ((List Int))
def keccak_Sum.Ctr (s : keccak_Sum.Ty) : Prop := ∀ (x1 : List Int) (ch_0_0 : Option Addr) (ch_0_1 : Nat) (r : (List Int)) (h0 : s x1 = some r) (mi : Mem) (w0 : World) (G : Glob mi), okL mi [(.sl ch_0_0 (x1).length ch_0_1 (RdS (Ty.int .u8) ch_0_0 x1))] → Pre mi [] w0 → Calls Tryd.prog 20 (([(.sl ch_0_0 (x1).length ch_0_1 (RdS (Ty.int .u8) ch_0_0 x1))] : List D).map D.val).toArray w0 (RetX mi [] (fun (ch : Unit) => ((.agg [.ints .u8 r 32]) : D)) (fun (ch : Unit) => []) w0)
def keccak_Sum.j2 (y7 : List Int) : Option ((List Int)) := some y7
def keccak_Sum.b1 (t1 : (List Int)) (rec1 : Int → (List Int) → Option ((List Int))) (y10 : Int) (y11 : List Int) : Option ((List Int)) := if (decide (y10 < 32)) = true then (if (0 : Int) ≤ (wr .i64 (Int.tdiv y10 8)) ∧ (wr .i64 (Int.tdiv y10 8)) < 25 then (if (0 : Int) ≤ (wr .i64 ((Int.tmod y10 8) * 8)) then (if (0 : Int) ≤ y10 ∧ y10 < 32 then (rec1 (wr .i64 (y10 + 1)) (y11.set (Int.toNat y10) (wr .u8 (shr (rd t1 (wr .i64 (Int.tdiv y10 8))) (min (Int.toNat (wr .i64 ((Int.tmod y10 8) * 8))) 64))))) else none) else none) else none) else (keccak_Sum.j2 y11)
def keccak_Sum.l1 (t1 : (List Int)) : Nat → Int → (List Int) → Option ((List Int))
  | 0, _, _ => none
  | q + 1, y10, y11 => keccak_Sum.b1 t1 (keccak_Sum.l1 t1 q) y10 y11
def keccak_Sum.j1 (k : Nat) (y1 : List Int) (y2 : List Int) : Option ((List Int)) := if (0 : Int) ≤ ((min (y1).length 136 : Nat) : Int) ∧ ((min (y1).length 136 : Nat) : Int) < 136 then ((keccak_absorb.f k y2 (((((cpy (List.replicate 136 0) 0 y1 (min (y1).length 136)).set (Int.toNat ((min (y1).length 136 : Nat) : Int)) 1).set (Int.toNat 135) (bits .or .u8 (rd ((cpy (List.replicate 136 0) 0 y1 (min (y1).length 136)).set (Int.toNat ((min (y1).length 136 : Nat) : Int)) 1) 135) 128)).drop 0).take 136)).bind fun t1 => (keccak_Sum.l1 t1 k 0 [0, 0, 0, 0, 0, 0, 0, 0, 0, 0, 0, 0, 0, 0, 0, 0, 0, 0, 0, 0, 0, 0, 0, 0, 0, 0, 0, 0, 0, 0, 0, 0])) else none
def keccak_Sum.b2 (k : Nat) (rec2 : (List Int) → (List Int) → Option ((List Int))) (y14 : List Int) (y15 : List Int) : Option ((List Int)) := if (decide (136 ≤ ((y14).length : Int))) = true then (if (0 : Int) ≤ 0 ∧ (0 : Int) ≤ 136 ∧ 136 ≤ ((y14).length : Int) then ((keccak_absorb.f k y15 (y14.take (Int.toNat 136))).bind fun t4 => (if (0 : Int) ≤ 136 ∧ (136 : Int) ≤ ((y14).length : Int) ∧ ((y14).length : Int) ≤ ((y14).length : Int) then (rec2 (y14.drop (Int.toNat 136)) t4) else none)) else none) else (keccak_Sum.j1 k y14 y15)
def keccak_Sum.l2 (k : Nat) : Nat → (List Int) → (List Int) → Option ((List Int))
  | 0, _, _ => none
  | q + 1, y14, y15 => keccak_Sum.b2 k (keccak_Sum.l2 k q) y14 y15
def keccak_Sum.f (k : Nat) (x1 : List Int) : Option ((List Int)) := keccak_Sum.l2 k k x1 [0, 0, 0, 0, 0, 0, 0, 0, 0, 0, 0, 0, 0, 0, 0, 0, 0, 0, 0, 0, 0, 0, 0, 0, 0]
theorem keccak_Sum.ok (k : Nat) : keccak_Sum.Ctr (keccak_Sum.f k) := by
  intro x1 ch_0_0 ch_0_1 r h0 mi w0 G ok hm
  delta keccak_Sum.f at h0
  refine c_enterX (n := 45) [(.sl ch_0_0 (x1).length ch_0_1 (RdS (Ty.int .u8) ch_0_0 x1))] (l := [(0, (.sl ch_0_0 (x1).length ch_0_1 (RdS (Ty.int .u8) ch_0_0 x1)))]) Tryd.func20 rfl rfl rfl rfl ok hm ?_
  clear ok hm
  intro b0 hb a S
  refine c_region ?_
  refine s_alloc S Z40 rfl ⟨rfl, trivial⟩ rfl ?_; clear S a; intro g1 a w S
  refine c_end ?_
  refine c_region ?_
  refine s_alloc S Z62 rfl ⟨rfl, trivial⟩ rfl ?_; clear S a w; intro g2 a w S
  refine c_end ?_
  refine wp_seq_k ?_
  intro K1 hK1
  have j1 : ∀ (m : Mem) (g9 : Nat) (g10 : Nat) (A1 : Option Addr) (cp1 : Nat) (y1 : List Int) (y2 : List Int) (a : Act) (w : World), St 45 m b0 [(3, (.v (.pointer (some ⟨g9, 0, none⟩)))), (2, (.v (.pointer (some ⟨g10, 0, none⟩)))), (0, (.sl A1 (y1).length cp1 (RdS (Ty.int .u8) A1 y1)))] [Res.cells g9 62 [.ints .u64 y2 25], Res.cells g10 40 [.ints .u8 [0, 0, 0, 0, 0, 0, 0, 0, 0, 0, 0, 0, 0, 0, 0, 0, 0, 0, 0, 0, 0, 0, 0, 0, 0, 0, 0, 0, 0, 0, 0, 0] 32]] a w → keccak_Sum.j1 k y1 y2 = some r → K1 a w := by
    intro m g9 g10 A1 cp1 y1 y2 a w S h0
    delta keccak_Sum.j1 at h0
    refine hK1 a w ?_
    refine c_region ?_
    refine s_alloc S Z64 rfl ⟨rfl, trivial⟩ rfl ?_; clear S a w; intro g11 a w S
    refine c_end ?_
    refine c_region ?_
    refine s_sliceA S (i := 0) (j := 136) (o' := 0) (len := 136) (cap := 136) rfl Tryd.underlying64 T5 (.inl ⟨rfl, rfl⟩) (.inl ⟨rfl, rfl⟩) (by decide) rfl rfl rfl rfl ?_; clear S a; intro a S
    refine s_move S rfl rfl ?_; clear S a; intro a S
    refine s_copyA S (N := min (y1).length 136) (lo := 0) rfl .here rfl rfl (RdS.srcI (S.get 18 (.sl A1 (y1).length cp1 (RdS (Ty.int .u8) A1 y1)) rfl).2.2.2.1 S.frz) rfl .here (.inl rfl) (by decide) Tryd.underlying27 T5 rfl ?_; clear S a w; intro a w S
    refine s_assign S rfl rfl ?_; clear S a; intro a S
    refine c_end ?_
    refine c_region ?_
    refine s_move S rfl rfl ?_; clear S a; intro a S
    obtain ⟨c1, h1⟩ := chk_of h0; clear h0
    refine s_iaddr S rfl rfl Tryd.underlying64 T5 c1.1 c1.2 (mul1 _ _) rfl ?_; clear S a; intro a S
    refine s_storei S (i := ((min (y1).length 136 : Nat) : Int)) rfl rfl .here T5 .here rfl c1.1 c1.2 ?_; clear S w; intro w S
    refine c_end ?_
    refine c_region ?_
    refine s_iaddr S (o' := 135) rfl rfl Tryd.underlying64 T5 (by decide) (by decide) rfl rfl ?_; clear S a; intro a S
    refine s_loadi S (i := 135) rfl .here T5 .here rfl (by decide) (by decide) rfl ?_; clear S a; intro a S
    refine s_bin S rfl rfl rfl rfl ?_; clear S a; intro a S
    refine s_iaddr S (o' := 135) rfl rfl Tryd.underlying64 T5 (by decide) (by decide) rfl rfl ?_; clear S a; intro a S
    refine s_storei S (i := 135) rfl rfl .here T5 .here rfl (by decide) (by decide) ?_; clear S w; intro w S
    refine c_end ?_
    refine wp_seq (c_heldS S (.take 0 (.take 1 (.alts (.run 2 true (.alts (.run 3 false .done .nil)) .nil)))) 3 [Res.cells g9 62 [.ints .u64 y2 25], Res.cells g10 40 [.ints .u8 [0, 0, 0, 0, 0, 0, 0, 0, 0, 0, 0, 0, 0, 0, 0, 0, 0, 0, 0, 0, 0, 0, 0, 0, 0, 0, 0, 0, 0, 0, 0, 0] 32]] (.cons (.there .here) (.cons (.there .here) .nil)) ⟨Res.stay_cells, Res.stay_cells, trivial⟩ [(4, (.v (.pointer (some ⟨g11, 0, none⟩)))), (3, (.v (.pointer (some ⟨g9, 0, none⟩))))] ⟨rfl, rfl, trivial⟩ (by kernel_rfl) (by kernel_rfl) ?_); clear S; intro w S CL hw le
    refine h_loada S CL hw le ⟨rfl, rfl, trivial⟩ rfl .here T62 (s' := [.ints .u64 y2 25]) rfl rfl rfl trivial ?_; clear S CL a; intro a S CL
    refine h_sliceA S CL hw le ⟨rfl, rfl, rfl, trivial⟩ (i := 0) (j := 136) (o' := 0) (len := 136) (cap := 136) rfl Tryd.underlying64 T5 (.inl ⟨rfl, rfl⟩) (.inl ⟨rfl, rfl⟩) (by decide) rfl rfl rfl rfl rfl trivial ?_; clear S CL a; intro a S CL
    refine h_run' S rfl trivial ?_
    replace S := S.freeze .here
    obtain ⟨m, le1, S⟩ := S
    replace le := le.trans le1
    replace S := (S.slup' (u := 27) (lo := 0) (c := 136) (ys := ((((cpy (List.replicate 136 0) 0 y1 (min (y1).length 136)).set (Int.toNat ((min (y1).length 136 : Nat) : Int)) 1).set (Int.toNat 135) (bits .or .u8 (rd ((cpy (List.replicate 136 0) 0 y1 (min (y1).length 136)).set (Int.toNat ((min (y1).length 136 : Nat) : Int)) 1) 135) 128)).drop 0).take 136) rfl (Pull.mem .here).1 .here (.inl rfl) (by decide) (by decide) rfl).2
    replace CL := CL.drop (lq' := [(26, (.agg [.ints .u64 y2 25])), (4, (.v (.pointer (some ⟨g11, 0, none⟩)))), (3, (.v (.pointer (some ⟨g9, 0, none⟩))))]) ⟨rfl, rfl, rfl, trivial⟩
    obtain ⟨t1, et1, h2⟩ := bind_of h1; clear h1
    refine s_callX S (ds' := [(.agg [.ints .u64 y2 25]), (.sl (some ⟨g11, 0, none⟩) (((((cpy (List.replicate 136 0) 0 y1 (min (y1).length 136)).set (Int.toNat ((min (y1).length 136 : Nat) : Int)) 1).set (Int.toNat 135) (bits .or .u8 (rd ((cpy (List.replicate 136 0) 0 y1 (min (y1).length 136)).set (Int.toNat ((min (y1).length 136 : Nat) : Int)) 1) 135) 128)).drop 0).take 136).length 136 (RdS (Ty.int .u8) (some ⟨g11, 0, none⟩) (((((cpy (List.replicate 136 0) 0 y1 (min (y1).length 136)).set (Int.toNat ((min (y1).length 136 : Nat) : Int)) 1).set (Int.toNat 135) (bits .or .u8 (rd ((cpy (List.replicate 136 0) 0 y1 (min (y1).length 136)).set (Int.toNat ((min (y1).length 136 : Nat) : Int)) 1) 135) 128)).drop 0).take 136)))]) (ds := [(.agg [.ints .u64 y2 25]), (.sl (some ⟨g11, 0, none⟩) (((((cpy (List.replicate 136 0) 0 y1 (min (y1).length 136)).set (Int.toNat ((min (y1).length 136 : Nat) : Int)) 1).set (Int.toNat 135) (bits .or .u8 (rd ((cpy (List.replicate 136 0) 0 y1 (min (y1).length 136)).set (Int.toNat ((min (y1).length 136 : Nat) : Int)) 1) 135) 128)).drop 0).take 136).length 136 (RdS (Ty.int .u8) (some ⟨g11, 0, none⟩) (((((cpy (List.replicate 136 0) 0 y1 (min (y1).length 136)).set (Int.toNat ((min (y1).length 136 : Nat) : Int)) 1).set (Int.toNat 135) (bits .or .u8 (rd ((cpy (List.replicate 136 0) 0 y1 (min (y1).length 136)).set (Int.toNat ((min (y1).length 136 : Nat) : Int)) 1) 135) 128)).drop 0).take 136)))]) [] [Res.fro g11 64 [.ints .u8 (((cpy (List.replicate 136 0) 0 y1 (min (y1).length 136)).set (Int.toNat ((min (y1).length 136 : Nat) : Int)) 1).set (Int.toNat 135) (bits .or .u8 (rd ((cpy (List.replicate 136 0) 0 y1 (min (y1).length 136)).set (Int.toNat ((min (y1).length 136 : Nat) : Int)) 1) 135) 128)) 136], Res.cells g9 62 [.ints .u64 y2 25], Res.cells g10 40 [.ints .u8 [0, 0, 0, 0, 0, 0, 0, 0, 0, 0, 0, 0, 0, 0, 0, 0, 0, 0, 0, 0, 0, 0, 0, 0, 0, 0, 0, 0, 0, 0, 0, 0] 32]] (fun (ch : Unit) => ((.agg [.ints .u64 t1 25]) : D)) (fun (ch : Unit) => []) (fun (ch : Unit) => [Res.fro g11 64 [.ints .u8 (((cpy (List.replicate 136 0) 0 y1 (min (y1).length 136)).set (Int.toNat ((min (y1).length 136 : Nat) : Int)) 1).set (Int.toNat 135) (bits .or .u8 (rd ((cpy (List.replicate 136 0) 0 y1 (min (y1).length 136)).set (Int.toNat ((min (y1).length 136 : Nat) : Int)) 1) 135) 128)) 136], Res.cells g9 62 [.ints .u64 y2 25], Res.cells g10 40 [.ints .u8 [0, 0, 0, 0, 0, 0, 0, 0, 0, 0, 0, 0, 0, 0, 0, 0, 0, 0, 0, 0, 0, 0, 0, 0, 0, 0, 0, 0, 0, 0, 0, 0] 32]]) (fun _ => rfl) N36 rfl rfl (fun ok => ok) (.cons .here (.cons .here (.cons .here .nil))) rfl (keccak_absorb.ok k y2 (((((cpy (List.replicate 136 0) 0 y1 (min (y1).length 136)).set (Int.toNat ((min (y1).length 136 : Nat) : Int)) 1).set (Int.toNat 135) (bits .or .u8 (rd ((cpy (List.replicate 136 0) 0 y1 (min (y1).length 136)).set (Int.toNat ((min (y1).length 136 : Nat) : Int)) 1) 135) 128)).drop 0).take 136) (some ⟨g11, 0, none⟩) 136 t1 et1 _ _ (G.mono (S.leB hb))) ?_; clear S a; intro ch1 m le1 a w S
    replace le := le.trans le1
    replace hw := CL.again hw S (.cons (.there .here) (.cons (.there .here) .nil)) le
    refine h_back ⟨fun _ => hw, ?_⟩
    refine h_run' S rfl trivial ?_
    refine s_store S rfl rfl rfl (s' := [.ints .u64 t1 25]) (.there .here) T62 rfl rfl ?_; clear S; intro w S
    refine h_back ⟨fun h => (nomatch h), ?_⟩
    refine h_done ?_; clear CL hw le
    refine x_thenN ?_
    refine c_region ?_
    refine s_alloc S Z40 rfl ⟨rfl, trivial⟩ rfl ?_; clear S a w; intro g12 a w S
    refine c_end ?_
    refine wp_seq_k ?_
    intro K2 hK2
    have j2 : ∀ (m : Mem) (g22 : Nat) (g23 : Nat) (y7 : List Int) (a : Act) (w : World), St 45 m b0 [(6, (.v (.pointer (some ⟨g22, 0, none⟩)))), (2, (.v (.pointer (some ⟨g23, 0, none⟩))))] [Res.cells g22 40 [.ints .u8 y7 32], Res.cells g23 40 [.ints .u8 [0, 0, 0, 0, 0, 0, 0, 0, 0, 0, 0, 0, 0, 0, 0, 0, 0, 0, 0, 0, 0, 0, 0, 0, 0, 0, 0, 0, 0, 0, 0, 0] 32]] a w → keccak_Sum.j2 y7 = some r → K2 a w := by
      intro m g22 g23 y7 a w S h0
      delta keccak_Sum.j2 at h0
      refine hK2 a w ?_
      refine c_region ?_
      refine s_loada S rfl .here T40 (s' := [.ints .u8 y7 32]) rfl rfl ?_; clear S a; intro a S
      refine s_store S rfl rfl rfl (s' := [.ints .u8 y7 32]) (.there .here) T40 rfl rfl ?_; clear S w; intro w S
      refine c_end ?_
      refine wp_ret ?_
      obtain rfl := Option.some.inj h0
      exact b_ret1 (d := (.agg [.ints .u8 y7 32])) S rfl (resD_cell rfl (.there .here) T40 rfl rfl) fun ok => S.retX (Hx := []) hb _ _ (() : Unit) .nil ok
    refine c_region ?_
    refine s_move S rfl rfl ?_; clear S a; intro a S
    refine c_end ?_
    refine wp_block ?_
    refine c_loop (fun q1 a w => ∃ (m : Mem) (y10 : Int) (g30 : Nat) (g31 : Nat) (g32 : Nat) (y11 : List Int), St 45 m b0 [(29, (.v (.int .i64 y10))), (6, (.v (.pointer (some ⟨g30, 0, none⟩)))), (3, (.v (.pointer (some ⟨g31, 0, none⟩)))), (2, (.v (.pointer (some ⟨g32, 0, none⟩))))] [Res.cells g30 40 [.ints .u8 y11 32], Res.cells g31 62 [.ints .u64 t1 25], Res.cells g32 40 [.ints .u8 [0, 0, 0, 0, 0, 0, 0, 0, 0, 0, 0, 0, 0, 0, 0, 0, 0, 0, 0, 0, 0, 0, 0, 0, 0, 0, 0, 0, 0, 0, 0, 0] 32]] a w ∧ keccak_Sum.l1 t1 q1 y10 y11 = some r) ?_ ?_ (k := k) ⟨_, 0, g12, g9, g10, [0, 0, 0, 0, 0, 0, 0, 0, 0, 0, 0, 0, 0, 0, 0, 0, 0, 0, 0, 0, 0, 0, 0, 0, 0, 0, 0, 0, 0, 0, 0, 0], (S.sub ⟨rfl, rfl, rfl, rfl, trivial⟩ (.cons .here (.cons (.there .here) (.cons (.there .here) .nil)))), h2⟩
    · rintro a w ⟨m, y10, g30, g31, g32, y11, S, h0⟩
      exact (nomatch (show (none : Option ((List Int))) = some r from h0))
    · clear S h2
      rintro q1 a w ⟨m, y10, g30, g31, g32, y11, S, h0⟩
      replace h0 : keccak_Sum.b1 t1 (keccak_Sum.l1 t1 q1) y10 y11 = some r := h0
      delta keccak_Sum.b1 at h0
      refine c_region ?_
      refine s_bin S rfl rfl rfl rfl ?_; clear S a; intro a S
      refine c_end ?_
      refine wp_seq ?_
      rcases ite_of h0 with ⟨c2, h1⟩ | ⟨c2, h1⟩ <;> clear h0
      · refine c_condT S rfl c2 ?_
        refine wp_skip ?_
        refine x_thenN ?_
        refine wp_seq ?_
        refine wp_block ?_
        refine c_region ?_
        refine s_move S rfl rfl ?_; clear S a; intro a S
        refine s_assign S rfl rfl ?_; clear S a; intro a S
        refine c_end ?_
        refine c_region' ?_
        refine s_move S rfl rfl ?_; clear S a; intro a S
        refine s_move S rfl rfl ?_; clear S a; intro a S
        refine s_quo S rfl rfl (by decide) rfl ?_; clear S a; intro a S
        obtain ⟨c3, h2⟩ := chk_of h1; clear h1
        refine s_iaddr S rfl rfl Tryd.underlying62 T24 c3.1 c3.2 (mul1 _ _) rfl ?_; clear S a; intro a S
        refine s_loadi S (i := (wr .i64 (Int.tdiv y10 8))) rfl (.there .here) T24 .here rfl c3.1 c3.2 rfl ?_; clear S a; intro a S
        refine s_move S rfl rfl ?_; clear S a; intro a S
        refine s_rem S rfl rfl (by decide) rfl ?_; clear S a; intro a S
        refine s_bin S rfl rfl rfl rfl ?_; clear S a; intro a S
        obtain ⟨c4, h3⟩ := chk_of h2; clear h2
        refine s_shr S (e := (min (Int.toNat (wr .i64 ((Int.tmod y10 8) * 8))) 64)) rfl rfl c4 rfl rfl ?_; clear S a; intro a S
        refine s_conv S rfl rfl Tryd.underlying5 rfl ?_; clear S a; intro a S
        obtain ⟨c5, h4⟩ := chk_of h3; clear h3
        refine s_iaddr S rfl rfl Tryd.underlying40 T5 c5.1 c5.2 (mul1 _ _) rfl ?_; clear S a; intro a S
        refine s_storei S (i := y10) rfl rfl .here T5 .here rfl c5.1 c5.2 ?_; clear S w; intro w S
        refine c_end' ?_
        refine x_blockN ?_
        refine x_thenN ?_
        refine c_region' ?_
        refine s_bin S rfl rfl rfl rfl ?_; clear S a; intro a S
        refine s_move S rfl rfl ?_; clear S a; intro a S
        refine c_end' ?_
        refine x_thenN ?_
        exact ⟨_, (wr .i64 (y10 + 1)), g30, g31, g32, (y11.set (Int.toNat y10) (wr .u8 (shr (rd t1 (wr .i64 (Int.tdiv y10 8))) (min (Int.toNat (wr .i64 ((Int.tmod y10 8) * 8))) 64)))), (S.sub ⟨rfl, rfl, rfl, rfl, trivial⟩ (.cons .here (.cons .here (.cons .here .nil)))), h4⟩
      · refine c_condF S rfl c2 ?_
        refine wp_exit ?_
        refine x_thenX ?_
        refine x_thenX ?_
        refine x_blockX ?_
        refine x_thenN ?_
        exact j2 _ g30 g32 y11 a w (S.sub ⟨rfl, rfl, trivial⟩ (.cons .here (.cons (.there .here) .nil))) h1
  refine wp_block ?_
  refine c_loop (fun q2 a w => ∃ (m : Mem) (g37 : Nat) (g38 : Nat) (A2 : Option Addr) (cp7 : Nat) (y14 : List Int) (y15 : List Int), St 45 m b0 [(3, (.v (.pointer (some ⟨g37, 0, none⟩)))), (2, (.v (.pointer (some ⟨g38, 0, none⟩)))), (0, (.sl A2 (y14).length cp7 (RdS (Ty.int .u8) A2 y14)))] [Res.cells g37 62 [.ints .u64 y15 25], Res.cells g38 40 [.ints .u8 [0, 0, 0, 0, 0, 0, 0, 0, 0, 0, 0, 0, 0, 0, 0, 0, 0, 0, 0, 0, 0, 0, 0, 0, 0, 0, 0, 0, 0, 0, 0, 0] 32]] a w ∧ keccak_Sum.l2 k q2 y14 y15 = some r) ?_ ?_ (k := k) ⟨_, g2, g1, ch_0_0, ch_0_1, x1, [0, 0, 0, 0, 0, 0, 0, 0, 0, 0, 0, 0, 0, 0, 0, 0, 0, 0, 0, 0, 0, 0, 0, 0, 0], (S.sub ⟨rfl, rfl, rfl, trivial⟩ (.cons .here (.cons .here .nil))), h0⟩
  · rintro a w ⟨m, g37, g38, A2, cp7, y14, y15, S, h0⟩
    exact (nomatch (show (none : Option ((List Int))) = some r from h0))
  · clear S h0
    rintro q2 a w ⟨m, g37, g38, A2, cp7, y14, y15, S, h0⟩
    replace h0 : keccak_Sum.b2 k (keccak_Sum.l2 k q2) y14 y15 = some r := h0
    delta keccak_Sum.b2 at h0
    refine wp_seq ?_
    refine c_region ?_
    refine s_move S rfl rfl ?_; clear S a; intro a S
    refine s_lenS S rfl Tryd.underlying27 rfl ?_; clear S a; intro a S
    refine s_bin S rfl rfl rfl rfl ?_; clear S a; intro a S
    refine c_end ?_
    rcases ite_of h0 with ⟨c6, h1⟩ | ⟨c6, h1⟩ <;> clear h0
    · refine c_condT S rfl c6 ?_
      refine wp_skip ?_
      refine x_thenN ?_
      refine wp_block ?_
      refine wp_seq (c_heldS S (.take 0 (.take 1 (.take 2 (.alts (.run 3 true (.alts (.run 4 false .done .nil)) .nil))))) 4 [Res.cells g37 62 [.ints .u64 y15 25], Res.cells g38 40 [.ints .u8 [0, 0, 0, 0, 0, 0, 0, 0, 0, 0, 0, 0, 0, 0, 0, 0, 0, 0, 0, 0, 0, 0, 0, 0, 0, 0, 0, 0, 0, 0, 0, 0] 32]] (.cons .here (.cons .here .nil)) ⟨Res.stay_cells, Res.stay_cells, trivial⟩ [(3, (.v (.pointer (some ⟨g37, 0, none⟩)))), (0, (.sl A2 (y14).length cp7 (RdS (Ty.int .u8) A2 y14)))] ⟨rfl, rfl, trivial⟩ (by kernel_rfl) (by kernel_rfl) ?_); clear S; intro w S CL hw le
      refine h_loada S CL hw le ⟨rfl, rfl, trivial⟩ rfl .here T62 (s' := [.ints .u64 y15 25]) rfl rfl rfl trivial ?_; clear S CL a; intro a S CL
      refine h_move S CL hw le ⟨rfl, rfl, rfl, trivial⟩ rfl rfl rfl trivial ?_; clear S CL a; intro a S CL
      obtain ⟨c7, h2⟩ := chk_of h1; clear h1
      refine h_cutS S CL hw le ⟨rfl, rfl, rfl, rfl, trivial⟩ (i := 0) (j := 136) (ys := y14.take (Int.toNat 136)) rfl rfl Tryd.underlying27 T5 (.inl ⟨rfl, rfl⟩) (.inr ⟨_, _, rfl, rfl⟩) c7 rfl (by simp) rfl trivial ?_; clear S CL a; intro A3 cp8 a S CL
      refine h_run' S rfl trivial ?_
      obtain ⟨t4, et4, h3⟩ := bind_of h2; clear h2
      refine s_callX S (ds' := [(.agg [.ints .u64 y15 25]), (.sl A3 (y14.take (Int.toNat 136)).length cp8 (RdS (Ty.int .u8) A3 (y14.take (Int.toNat 136))))]) (ds := [(.agg [.ints .u64 y15 25]), (.sl A3 (y14.take (Int.toNat 136)).length cp8 (RdS (Ty.int .u8) A3 (y14.take (Int.toNat 136))))]) [] [Res.cells g37 62 [.ints .u64 y15 25], Res.cells g38 40 [.ints .u8 [0, 0, 0, 0, 0, 0, 0, 0, 0, 0, 0, 0, 0, 0, 0, 0, 0, 0, 0, 0, 0, 0, 0, 0, 0, 0, 0, 0, 0, 0, 0, 0] 32]] (fun (ch : Unit) => ((.agg [.ints .u64 t4 25]) : D)) (fun (ch : Unit) => []) (fun (ch : Unit) => [Res.cells g37 62 [.ints .u64 y15 25], Res.cells g38 40 [.ints .u8 [0, 0, 0, 0, 0, 0, 0, 0, 0, 0, 0, 0, 0, 0, 0, 0, 0, 0, 0, 0, 0, 0, 0, 0, 0, 0, 0, 0, 0, 0, 0, 0] 32]]) (fun _ => rfl) N36 rfl rfl (fun ok => ok) (.cons .here (.cons .here .nil)) rfl (keccak_absorb.ok k y15 (y14.take (Int.toNat 136)) A3 cp8 t4 et4 _ _ (G.mono (S.leB hb))) ?_; clear S a; intro ch2 m le1 a w S
      replace le := le.trans le1
      replace hw := CL.again hw S (.cons .here (.cons .here .nil)) le
      refine h_back ⟨fun _ => hw, ?_⟩
      refine h_run' S rfl trivial ?_
      refine s_store S rfl rfl rfl (s' := [.ints .u64 t4 25]) .here T62 rfl rfl ?_; clear S; intro w S
      refine h_back ⟨fun h => (nomatch h), ?_⟩
      refine h_done ?_; clear CL hw le
      refine x_thenN ?_
      refine c_region' ?_
      refine s_move S rfl rfl ?_; clear S a; intro a S
      obtain ⟨c8, h4⟩ := chk_of h3; clear h3
      refine s_cutS S (i := 136) (j := ((y14).length : Int)) (ys := y14.drop (Int.toNat 136)) rfl rfl Tryd.underlying27 T5 (.inr ⟨_, _, rfl, rfl⟩) (.inl ⟨rfl, rfl⟩) c8 rfl (by simp) ?_; clear S a; intro A4 cp9 a S
      refine s_assign S rfl rfl ?_; clear S a; intro a S
      refine c_end' ?_
      refine x_blockN ?_
      refine x_thenN ?_
      exact ⟨_, g37, g38, A4, cp9, (y14.drop (Int.toNat 136)), t4, (S.sub ⟨rfl, rfl, rfl, trivial⟩ (.cons .here (.cons .here .nil))), h4⟩
    · refine c_condF S rfl c6 ?_
      refine wp_exit ?_
      refine x_thenX ?_
      refine x_thenX ?_
      refine x_blockX ?_
      refine x_thenN ?_
      exact j1 _ g37 g38 A2 cp7 y14 y15 a w (S.sub ⟨rfl, rfl, rfl, trivial⟩ (.cons .here (.cons .here .nil))) h1
/-! smithy/word.Bytes -/
abbrev word_Bytes.Ty : Type := (List Int) → Option ((List Int))
def word_Bytes.Ctr (s : word_Bytes.Ty) : Prop := ∀ (x1 : List Int) (r : (List Int)) (h0 : s x1 = some r) (mi : Mem) (w0 : World), okL mi [(.agg [.ints .u64 x1 4])] → Pre mi [] w0 → Calls Tryd.prog 21 (([(.agg [.ints .u64 x1 4])] : List D).map D.val).toArray w0 (RetX mi [] (fun (ch : Unit) => ((.agg [.ints .u8 r 32]) : D)) (fun (ch : Unit) => []) w0)
def word_Bytes.j1 (y1 : List Int) : Option ((List Int)) := some y1
def word_Bytes.j2 (y14 : Int) (rec1 : Int → (List Int) → Option ((List Int))) (y20 : List Int) : Option ((List Int)) := rec1 (wr .i64 (y14 + 1)) y20
def word_Bytes.b2 (x1 : List Int) (y14 : Int) (rec1 : Int → (List Int) → Option ((List Int))) (rec2 : Int → (List Int) → Option ((List Int))) (y23 : Int) (y24 : List Int) : Option ((List Int)) := if (decide (y23 < 8)) = true then (if (0 : Int) ≤ (wr .i64 (8 * y23)) then (if (0 : Int) ≤ (wr .i64 ((wr .i64 (31 - (wr .i64 (8 * y14)))) - y23)) ∧ (wr .i64 ((wr .i64 (31 - (wr .i64 (8 * y14)))) - y23)) < 32 then (rec2 (wr .i64 (y23 + 1)) (y24.set (Int.toNat (wr .i64 ((wr .i64 (31 - (wr .i64 (8 * y14)))) - y23))) (wr .u8 (shr (rd x1 y14) (min (Int.toNat (wr .i64 (8 * y23))) 64))))) else none) else none) else (word_Bytes.j2 y14 rec1 y24)
def word_Bytes.l2 (x1 : List Int) (y14 : Int) (rec1 : Int → (List Int) → Option ((List Int))) : Nat → Int → (List Int) → Option ((List Int))
  | 0, _, _ => none
  | q + 1, y23, y24 => word_Bytes.b2 x1 y14 rec1 (word_Bytes.l2 x1 y14 rec1 q) y23 y24
def word_Bytes.b1 (k : Nat) (x1 : List Int) (rec1 : Int → (List Int) → Option ((List Int))) (y14 : Int) (y15 : List Int) : Option ((List Int)) := if (decide (y14 < 4)) = true then (if (0 : Int) ≤ y14 ∧ y14 < 4 then (word_Bytes.l2 x1 y14 rec1 k 0 y15) else none) else (word_Bytes.j1 y15)
def word_Bytes.l1 (k : Nat) (x1 : List Int) : Nat → Int → (List Int) → Option ((List Int))
  | 0, _, _ => none
  | q + 1, y14, y15 => word_Bytes.b1 k x1 (word_Bytes.l1 k x1 q) y14 y15
def word_Bytes.f (k : Nat) (x1 : List Int) : Option ((List Int)) := word_Bytes.l1 k x1 k 0 [0, 0, 0, 0, 0, 0, 0, 0, 0, 0, 0, 0, 0, 0, 0, 0, 0, 0, 0, 0, 0, 0, 0, 0, 0, 0, 0, 0, 0, 0, 0, 0]
theorem word_Bytes.ok (k : Nat) : word_Bytes.Ctr (word_Bytes.f k) := by
  intro x1 r h0 mi w0 ok hm
  delta word_Bytes.f at h0
  refine c_enterX (n := 29) [(.agg [.ints .u64 x1 4])] (l := [(0, (.agg [.ints .u64 x1 4]))]) Tryd.func21 rfl rfl rfl rfl ok hm ?_
  clear ok hm
  intro b0 hb a S
  refine c_region ?_
  refine s_box S rfl rfl rfl ?_; clear S a; intro g1 a w S
  refine s_alloc S Z39 rfl ⟨rfl, trivial⟩ rfl ?_; clear S a w; intro g2 a w S
  refine c_end ?_
  refine c_region ?_
  refine s_alloc S Z39 rfl ⟨rfl, trivial⟩ rfl ?_; clear S a w; intro g3 a w S
  refine c_end ?_
  refine wp_seq_k ?_
  intro K1 hK1
  have j1 : ∀ (m : Mem) (g26 : Nat) (g27 : Nat) (y1 : List Int) (a : Act) (w : World), St 29 m b0 [(3, (.v (.pointer (some ⟨g26, 0, none⟩)))), (2, (.v (.pointer (some ⟨g27, 0, none⟩))))] [Res.cells g26 39 [.ints .u8 y1 32], Res.cells g27 39 [.ints .u8 [0, 0, 0, 0, 0, 0, 0, 0, 0, 0, 0, 0, 0, 0, 0, 0, 0, 0, 0, 0, 0, 0, 0, 0, 0, 0, 0, 0, 0, 0, 0, 0] 32]] a w → word_Bytes.j1 y1 = some r → K1 a w := by
    intro m g26 g27 y1 a w S h0
    delta word_Bytes.j1 at h0
    refine hK1 a w ?_
    refine c_region ?_
    refine s_loada S rfl .here T39 (s' := [.ints .u8 y1 32]) rfl rfl ?_; clear S a; intro a S
    refine s_store S rfl rfl rfl (s' := [.ints .u8 y1 32]) (.there .here) T39 rfl rfl ?_; clear S w; intro w S
    refine c_end ?_
    refine wp_ret ?_
    obtain rfl := Option.some.inj h0
    exact b_ret1 (d := (.agg [.ints .u8 y1 32])) S rfl (resD_cell rfl (.there .here) T39 rfl rfl) fun ok => S.retX (Hx := []) hb _ _ (() : Unit) .nil ok
  refine c_region ?_
  refine s_loada S rfl (.there (.there .here)) T26 (s' := [.ints .u64 x1 4]) rfl rfl ?_; clear S a; intro a S
  refine s_move S rfl rfl ?_; clear S a; intro a S
  refine c_end ?_
  refine wp_block ?_
  refine c_loop (fun q1 a w => ∃ (m : Mem) (y14 : Int) (g48 : Nat) (g49 : Nat) (y15 : List Int), St 29 m b0 [(8, (.v (.int .i64 y14))), (7, (.agg [.ints .u64 x1 4])), (3, (.v (.pointer (some ⟨g48, 0, none⟩)))), (2, (.v (.pointer (some ⟨g49, 0, none⟩))))] [Res.cells g48 39 [.ints .u8 y15 32], Res.cells g49 39 [.ints .u8 [0, 0, 0, 0, 0, 0, 0, 0, 0, 0, 0, 0, 0, 0, 0, 0, 0, 0, 0, 0, 0, 0, 0, 0, 0, 0, 0, 0, 0, 0, 0, 0] 32]] a w ∧ word_Bytes.l1 k x1 q1 y14 y15 = some r) ?_ ?_ (k := k) ⟨_, 0, g3, g2, [0, 0, 0, 0, 0, 0, 0, 0, 0, 0, 0, 0, 0, 0, 0, 0, 0, 0, 0, 0, 0, 0, 0, 0, 0, 0, 0, 0, 0, 0, 0, 0], (S.sub ⟨rfl, rfl, rfl, rfl, trivial⟩ (.cons .here (.cons .here .nil))), h0⟩
  · rintro a w ⟨m, y14, g48, g49, y15, S, h0⟩
    exact (nomatch (show (none : Option ((List Int))) = some r from h0))
  · clear S h0
    rintro q1 a w ⟨m, y14, g48, g49, y15, S, h0⟩
    replace h0 : word_Bytes.b1 k x1 (word_Bytes.l1 k x1 q1) y14 y15 = some r := h0
    delta word_Bytes.b1 at h0
    refine c_region ?_
    refine s_bin S rfl rfl rfl rfl ?_; clear S a; intro a S
    refine c_end ?_
    refine wp_seq ?_
    rcases ite_of h0 with ⟨c1, h1⟩ | ⟨c1, h1⟩ <;> clear h0
    · refine c_condT S rfl c1 ?_
      refine wp_skip ?_
      refine x_thenN ?_
      refine wp_seq_k ?_
      intro K2 hK2
      have j2 : ∀ (m : Mem) (g56 : Nat) (g57 : Nat) (y20 : List Int) (a : Act) (w : World), St 29 m b0 [(8, (.v (.int .i64 y14))), (7, (.agg [.ints .u64 x1 4])), (3, (.v (.pointer (some ⟨g56, 0, none⟩)))), (2, (.v (.pointer (some ⟨g57, 0, none⟩))))] [Res.cells g56 39 [.ints .u8 y20 32], Res.cells g57 39 [.ints .u8 [0, 0, 0, 0, 0, 0, 0, 0, 0, 0, 0, 0, 0, 0, 0, 0, 0, 0, 0, 0, 0, 0, 0, 0, 0, 0, 0, 0, 0, 0, 0, 0] 32]] a w → word_Bytes.j2 y14 (word_Bytes.l1 k x1 q1) y20 = some r → K2 a w := by
        intro m g56 g57 y20 a w S h0
        delta word_Bytes.j2 at h0
        refine hK2 a w ?_
        refine c_region' ?_
        refine s_bin S rfl rfl rfl rfl ?_; clear S a; intro a S
        refine s_move S rfl rfl ?_; clear S a; intro a S
        refine c_end' ?_
        refine x_thenN ?_
        exact ⟨_, (wr .i64 (y14 + 1)), g56, g57, y20, (S.sub ⟨rfl, rfl, rfl, rfl, trivial⟩ (.cons .here (.cons .here .nil))), h0⟩
      refine wp_block ?_
      refine c_region ?_
      refine s_move S rfl rfl ?_; clear S a; intro a S
      obtain ⟨c2, h2⟩ := chk_of h1; clear h1
      refine s_index S rfl rfl Tryd.underlying26 T24 c2.1 c2.2 rfl ?_; clear S a; intro a S
      refine s_assign S rfl rfl ?_; clear S a; intro a S
      refine s_assign S rfl rfl ?_; clear S a; intro a S
      refine c_end ?_
      refine c_region ?_
      refine s_move S rfl rfl ?_; clear S a; intro a S
      refine c_end ?_
      refine wp_block ?_
      refine c_loop (fun q2 a w => ∃ (m : Mem) (y23 : Int) (g62 : Nat) (g63 : Nat) (y24 : List Int), St 29 m b0 [(12, (.v (.int .i64 y23))), (5, (.v (.int .u64 (rd x1 y14)))), (4, (.v (.int .i64 y14))), (8, (.v (.int .i64 y14))), (7, (.agg [.ints .u64 x1 4])), (3, (.v (.pointer (some ⟨g62, 0, none⟩)))), (2, (.v (.pointer (some ⟨g63, 0, none⟩))))] [Res.cells g62 39 [.ints .u8 y24 32], Res.cells g63 39 [.ints .u8 [0, 0, 0, 0, 0, 0, 0, 0, 0, 0, 0, 0, 0, 0, 0, 0, 0, 0, 0, 0, 0, 0, 0, 0, 0, 0, 0, 0, 0, 0, 0, 0] 32]] a w ∧ word_Bytes.l2 x1 y14 (word_Bytes.l1 k x1 q1) q2 y23 y24 = some r) ?_ ?_ (k := k) ⟨_, 0, g48, g49, y15, (S.sub ⟨rfl, rfl, rfl, rfl, rfl, rfl, rfl, trivial⟩ (.cons .here (.cons .here .nil))), h2⟩
      · rintro a w ⟨m, y23, g62, g63, y24, S, h0⟩
        exact (nomatch (show (none : Option ((List Int))) = some r from h0))
      · clear S h2
        rintro q2 a w ⟨m, y23, g62, g63, y24, S, h0⟩
        replace h0 : word_Bytes.b2 x1 y14 (word_Bytes.l1 k x1 q1) (word_Bytes.l2 x1 y14 (word_Bytes.l1 k x1 q1) q2) y23 y24 = some r := h0
        delta word_Bytes.b2 at h0
        refine c_region ?_
        refine s_bin S rfl rfl rfl rfl ?_; clear S a; intro a S
        refine c_end ?_
        refine wp_seq ?_
        rcases ite_of h0 with ⟨c3, h1⟩ | ⟨c3, h1⟩ <;> clear h0
        · refine c_condT S rfl c3 ?_
          refine wp_skip ?_
          refine x_thenN ?_
          refine wp_seq ?_
          refine wp_block ?_
          refine c_region ?_
          refine s_move S rfl rfl ?_; clear S a; intro a S
          refine s_assign S rfl rfl ?_; clear S a; intro a S
          refine c_end ?_
          refine c_region' ?_
          refine s_move S rfl rfl ?_; clear S a; intro a S
          refine s_bin S rfl rfl rfl rfl ?_; clear S a; intro a S
          refine s_bin S rfl rfl rfl rfl ?_; clear S a; intro a S
          refine s_move S rfl rfl ?_; clear S a; intro a S
          refine s_bin S rfl rfl rfl rfl ?_; clear S a; intro a S
          refine s_move S rfl rfl ?_; clear S a; intro a S
          refine s_move S rfl rfl ?_; clear S a; intro a S
          refine s_bin S rfl rfl rfl rfl ?_; clear S a; intro a S
          obtain ⟨c4, h2⟩ := chk_of h1; clear h1
          refine s_shr S (e := (min (Int.toNat (wr .i64 (8 * y23))) 64)) rfl rfl c4 rfl rfl ?_; clear S a; intro a S
          refine s_conv S rfl rfl Tryd.underlying5 rfl ?_; clear S a; intro a S
          obtain ⟨c5, h3⟩ := chk_of h2; clear h2
          refine s_iaddr S rfl rfl Tryd.underlying39 T5 c5.1 c5.2 (mul1 _ _) rfl ?_; clear S a; intro a S
          refine s_storei S (i := (wr .i64 ((wr .i64 (31 - (wr .i64 (8 * y14)))) - y23))) rfl rfl .here T5 .here rfl c5.1 c5.2 ?_; clear S w; intro w S
          refine c_end' ?_
          refine x_blockN ?_
          refine x_thenN ?_
          refine c_region' ?_
          refine s_bin S rfl rfl rfl rfl ?_; clear S a; intro a S
          refine s_move S rfl rfl ?_; clear S a; intro a S
          refine c_end' ?_
          refine x_thenN ?_
          exact ⟨_, (wr .i64 (y23 + 1)), g62, g63, (y24.set (Int.toNat (wr .i64 ((wr .i64 (31 - (wr .i64 (8 * y14)))) - y23))) (wr .u8 (shr (rd x1 y14) (min (Int.toNat (wr .i64 (8 * y23))) 64)))), (S.sub ⟨rfl, rfl, rfl, rfl, rfl, rfl, rfl, trivial⟩ (.cons .here (.cons .here .nil))), h3⟩
        · refine c_condF S rfl c3 ?_
          refine wp_exit ?_
          refine x_thenX ?_
          refine x_thenX ?_
          refine x_blockX ?_
          refine x_blockN ?_
          refine x_thenN ?_
          exact j2 _ g62 g63 y24 a w (S.sub ⟨rfl, rfl, rfl, rfl, trivial⟩ (.cons .here (.cons .here .nil))) h1
    · refine c_condF S rfl c1 ?_
      refine wp_exit ?_
      refine x_thenX ?_
      refine x_thenX ?_
      refine x_blockX ?_
      refine x_thenN ?_
      exact j1 _ g48 g49 y15 a w (S.sub ⟨rfl, rfl, trivial⟩ (.cons .here (.cons .here .nil))) h1
/-! smithy/word.From -/
abbrev word_From.Ty : Type := (List Int) → Option ((List Int))
def word_From.Ctr (s : word_From.Ty) : Prop := ∀ (x1 : List Int) (ch_0_0 : Option Addr) (ch_0_1 : Nat) (r : (List Int)) (h0 : s x1 = some r) (mi : Mem) (w0 : World), okL mi [(.sl ch_0_0 (x1).length ch_0_1 (RdS (Ty.int .u8) ch_0_0 x1))] → Pre mi [] w0 → Calls Tryd.prog 27 (([(.sl ch_0_0 (x1).length ch_0_1 (RdS (Ty.int .u8) ch_0_0 x1))] : List D).map D.val).toArray w0 (RetX mi [] (fun (ch : Unit) => ((.agg [.ints .u64 r 4]) : D)) (fun (ch : Unit) => []) w0)
def word_From.j2 (y16 : List Int) : Option ((List Int)) := some y16
def word_From.j3 (y29 : Int) (rec1 : Int → (List Int) → Option ((List Int))) (y35 : List Int) : Option ((List Int)) := rec1 (wr .i64 (y29 + 1)) y35
def word_From.b2 (y1 : List Int) (y29 : Int) (rec1 : Int → (List Int) → Option ((List Int))) (rec2 : Int → (List Int) → Option ((List Int))) (y38 : Int) (y39 : List Int) : Option ((List Int)) := if (decide (y38 < 8)) = true then (if (0 : Int) ≤ y29 ∧ y29 < 4 then (if (0 : Int) ≤ (wr .i64 ((wr .i64 (31 - (wr .i64 (8 * y29)))) - y38)) ∧ (wr .i64 ((wr .i64 (31 - (wr .i64 (8 * y29)))) - y38)) < 32 then (if (0 : Int) ≤ (wr .i64 (8 * y38)) then (rec2 (wr .i64 (y38 + 1)) (y39.set (Int.toNat y29) (bits .or .u64 (rd y39 y29) (shl .u64 (wr .u64 (rd (cpy [0, 0, 0, 0, 0, 0, 0, 0, 0, 0, 0, 0, 0, 0, 0, 0, 0, 0, 0, 0, 0, 0, 0, 0, 0, 0, 0, 0, 0, 0, 0, 0] (Int.toNat (wr .i64 (32 - ((y1).length : Int)))) y1 (min (y1).length (Int.toNat 32 - Int.toNat (wr .i64 (32 - ((y1).length : Int)))))) (wr .i64 ((wr .i64 (31 - (wr .i64 (8 * y29)))) - y38)))) (min (Int.toNat (wr .i64 (8 * y38))) 64))))) else none) else none) else none) else (word_From.j3 y29 rec1 y39)
def word_From.l2 (y1 : List Int) (y29 : Int) (rec1 : Int → (List Int) → Option ((List Int))) : Nat → Int → (List Int) → Option ((List Int))
  | 0, _, _ => none
  | q + 1, y38, y39 => word_From.b2 y1 y29 rec1 (word_From.l2 y1 y29 rec1 q) y38 y39
def word_From.b1 (k : Nat) (y1 : List Int) (rec1 : Int → (List Int) → Option ((List Int))) (y29 : Int) (y30 : List Int) : Option ((List Int)) := if (decide (y29 < 4)) = true then (word_From.l2 y1 y29 rec1 k 0 y30) else (word_From.j2 y30)
def word_From.l1 (k : Nat) (y1 : List Int) : Nat → Int → (List Int) → Option ((List Int))
  | 0, _, _ => none
  | q + 1, y29, y30 => word_From.b1 k y1 (word_From.l1 k y1 q) y29 y30
def word_From.j1 (k : Nat) (y1 : List Int) : Option ((List Int)) := if (0 : Int) ≤ (wr .i64 (32 - ((y1).length : Int))) ∧ ((wr .i64 (32 - ((y1).length : Int))) : Int) ≤ 32 ∧ 32 ≤ ((32 : Nat) : Int) then (word_From.l1 k y1 k 0 [0, 0, 0, 0]) else none
def word_From.f (k : Nat) (x1 : List Int) : Option ((List Int)) := if (decide (32 < ((x1).length : Int))) = true then (if (0 : Int) ≤ (wr .i64 (((x1).length : Int) - 32)) ∧ ((wr .i64 (((x1).length : Int) - 32)) : Int) ≤ ((x1).length : Int) ∧ ((x1).length : Int) ≤ ((x1).length : Int) then (word_From.j1 k (x1.drop (Int.toNat (wr .i64 (((x1).length : Int) - 32))))) else none) else (word_From.j1 k x1)
theorem word_From.ok (k : Nat) : word_From.Ctr (word_From.f k) := by
  intro x1 ch_0_0 ch_0_1 r h0 mi w0 ok hm
  delta word_From.f at h0
  refine c_enterX (n := 46) [(.sl ch_0_0 (x1).length ch_0_1 (RdS (Ty.int .u8) ch_0_0 x1))] (l := [(0, (.sl ch_0_0 (x1).length ch_0_1 (RdS (Ty.int .u8) ch_0_0 x1)))]) Tryd.func27 rfl rfl rfl rfl ok hm ?_
  clear ok hm
  intro b0 hb a S
  refine c_region ?_
  refine s_alloc S Z26 rfl ⟨rfl, trivial⟩ rfl ?_; clear S a; intro g1 a w S
  refine c_end ?_
  refine c_region ?_
  refine s_alloc S Z39 rfl ⟨rfl, trivial⟩ rfl ?_; clear S a w; intro g2 a w S
  refine c_end ?_
  refine wp_seq_k ?_
  intro K1 hK1
  have j1 : ∀ (m : Mem) (A1 : Option Addr) (cp1 : Nat) (y1 : List Int) (g3 : Nat) (g4 : Nat) (a : Act) (w : World), St 46 m b0 [(0, (.sl A1 (y1).length cp1 (RdS (Ty.int .u8) A1 y1))), (3, (.v (.pointer (some ⟨g3, 0, none⟩)))), (2, (.v (.pointer (some ⟨g4, 0, none⟩))))] [Res.cells g3 39 [.ints .u8 [0, 0, 0, 0, 0, 0, 0, 0, 0, 0, 0, 0, 0, 0, 0, 0, 0, 0, 0, 0, 0, 0, 0, 0, 0, 0, 0, 0, 0, 0, 0, 0] 32], Res.cells g4 26 [.ints .u64 [0, 0, 0, 0] 4]] a w → word_From.j1 k y1 = some r → K1 a w := by
    intro m A1 cp1 y1 g3 g4 a w S h0
    delta word_From.j1 at h0
    refine hK1 a w ?_
    refine c_region ?_
    refine s_move S rfl rfl ?_; clear S a; intro a S
    refine s_lenS S rfl Tryd.underlying27 rfl ?_; clear S a; intro a S
    refine s_bin S rfl rfl rfl rfl ?_; clear S a; intro a S
    obtain ⟨c1, h1⟩ := chk_of h0; clear h0
    refine s_sliceA S (i := (wr .i64 (32 - ((y1).length : Int)))) (j := 32) (o' := if 32 = Int.toNat (wr .i64 (32 - ((y1).length : Int))) then 0 else 0 + Int.toNat (wr .i64 (32 - ((y1).length : Int))) * 1) (len := Int.toNat 32 - Int.toNat (wr .i64 (32 - ((y1).length : Int)))) (cap := 32 - Int.toNat (wr .i64 (32 - ((y1).length : Int)))) rfl Tryd.underlying39 T5 (.inr ⟨_, _, rfl, rfl⟩) (.inl ⟨rfl, rfl⟩) c1 rfl rfl rfl rfl ?_; clear S a; intro a S
    refine s_move S rfl rfl ?_; clear S a; intro a S
    refine s_copyA S (N := min (y1).length (Int.toNat 32 - Int.toNat (wr .i64 (32 - ((y1).length : Int))))) (lo := Int.toNat (wr .i64 (32 - ((y1).length : Int)))) rfl .here rfl rfl (RdS.srcI (S.get 19 (.sl A1 (y1).length cp1 (RdS (Ty.int .u8) A1 y1)) rfl).2.2.2.1 S.frz) rfl .here (ho_if c1) (hl_if c1) Tryd.underlying27 T5 rfl ?_; clear S a w; intro a w S
    refine c_end ?_
    refine c_region ?_
    refine s_alloc S Z26 rfl ⟨rfl, trivial⟩ rfl ?_; clear S a w; intro g5 a w S
    refine c_end ?_
    refine wp_seq_k ?_
    intro K2 hK2
    have j2 : ∀ (m : Mem) (g39 : Nat) (g40 : Nat) (y16 : List Int) (a : Act) (w : World), St 46 m b0 [(4, (.v (.pointer (some ⟨g39, 0, none⟩)))), (2, (.v (.pointer (some ⟨g40, 0, none⟩))))] [Res.cells g39 26 [.ints .u64 y16 4], Res.cells g40 26 [.ints .u64 [0, 0, 0, 0] 4]] a w → word_From.j2 y16 = some r → K2 a w := by
      intro m g39 g40 y16 a w S h0
      delta word_From.j2 at h0
      refine hK2 a w ?_
      refine c_region ?_
      refine s_loada S rfl .here T26 (s' := [.ints .u64 y16 4]) rfl rfl ?_; clear S a; intro a S
      refine s_store S rfl rfl rfl (s' := [.ints .u64 y16 4]) (.there .here) T26 rfl rfl ?_; clear S w; intro w S
      refine c_end ?_
      refine wp_ret ?_
      obtain rfl := Option.some.inj h0
      exact b_ret1 (d := (.agg [.ints .u64 y16 4])) S rfl (resD_cell rfl (.there .here) T26 rfl rfl) fun ok => S.retX (Hx := []) hb _ _ (() : Unit) .nil ok
    refine c_region ?_
    refine s_move S rfl rfl ?_; clear S a; intro a S
    refine c_end ?_
    refine wp_block ?_
    refine c_loop (fun q1 a w => ∃ (m : Mem) (y29 : Int) (g71 : Nat) (g72 : Nat) (g73 : Nat) (y30 : List Int), St 46 m b0 [(21, (.v (.int .i64 y29))), (4, (.v (.pointer (some ⟨g71, 0, none⟩)))), (3, (.v (.pointer (some ⟨g72, 0, none⟩)))), (2, (.v (.pointer (some ⟨g73, 0, none⟩))))] [Res.cells g71 26 [.ints .u64 y30 4], Res.cells g72 39 [.ints .u8 (cpy [0, 0, 0, 0, 0, 0, 0, 0, 0, 0, 0, 0, 0, 0, 0, 0, 0, 0, 0, 0, 0, 0, 0, 0, 0, 0, 0, 0, 0, 0, 0, 0] (Int.toNat (wr .i64 (32 - ((y1).length : Int)))) y1 (min (y1).length (Int.toNat 32 - Int.toNat (wr .i64 (32 - ((y1).length : Int)))))) 32], Res.cells g73 26 [.ints .u64 [0, 0, 0, 0] 4]] a w ∧ word_From.l1 k y1 q1 y29 y30 = some r) ?_ ?_ (k := k) ⟨_, 0, g5, g3, g4, [0, 0, 0, 0], (S.sub ⟨rfl, rfl, rfl, rfl, trivial⟩ (.cons .here (.cons .here (.cons .here .nil)))), h1⟩
    · rintro a w ⟨m, y29, g71, g72, g73, y30, S, h0⟩
      exact (nomatch (show (none : Option ((List Int))) = some r from h0))
    · clear S h1
      rintro q1 a w ⟨m, y29, g71, g72, g73, y30, S, h0⟩
      replace h0 : word_From.b1 k y1 (word_From.l1 k y1 q1) y29 y30 = some r := h0
      delta word_From.b1 at h0
      refine c_region ?_
      refine s_bin S rfl rfl rfl rfl ?_; clear S a; intro a S
      refine c_end ?_
      refine wp_seq ?_
      rcases ite_of h0 with ⟨c2, h1⟩ | ⟨c2, h1⟩ <;> clear h0
      · refine c_condT S rfl c2 ?_
        refine wp_skip ?_
        refine x_thenN ?_
        refine wp_seq_k ?_
        intro K3 hK3
        have j3 : ∀ (m : Mem) (g83 : Nat) (g84 : Nat) (g85 : Nat) (y35 : List Int) (a : Act) (w : World), St 46 m b0 [(21, (.v (.int .i64 y29))), (4, (.v (.pointer (some ⟨g83, 0, none⟩)))), (3, (.v (.pointer (some ⟨g84, 0, none⟩)))), (2, (.v (.pointer (some ⟨g85, 0, none⟩))))] [Res.cells g83 26 [.ints .u64 y35 4], Res.cells g84 39 [.ints .u8 (cpy [0, 0, 0, 0, 0, 0, 0, 0, 0, 0, 0, 0, 0, 0, 0, 0, 0, 0, 0, 0, 0, 0, 0, 0, 0, 0, 0, 0, 0, 0, 0, 0] (Int.toNat (wr .i64 (32 - ((y1).length : Int)))) y1 (min (y1).length (Int.toNat 32 - Int.toNat (wr .i64 (32 - ((y1).length : Int)))))) 32], Res.cells g85 26 [.ints .u64 [0, 0, 0, 0] 4]] a w → word_From.j3 y29 (word_From.l1 k y1 q1) y35 = some r → K3 a w := by
          intro m g83 g84 g85 y35 a w S h0
          delta word_From.j3 at h0
          refine hK3 a w ?_
          refine c_region' ?_
          refine s_bin S rfl rfl rfl rfl ?_; clear S a; intro a S
          refine s_move S rfl rfl ?_; clear S a; intro a S
          refine c_end' ?_
          refine x_thenN ?_
          exact ⟨_, (wr .i64 (y29 + 1)), g83, g84, g85, y35, (S.sub ⟨rfl, rfl, rfl, rfl, trivial⟩ (.cons .here (.cons .here (.cons .here .nil)))), h0⟩
        refine wp_block ?_
        refine c_region ?_
        refine s_move S rfl rfl ?_; clear S a; intro a S
        refine s_assign S rfl rfl ?_; clear S a; intro a S
        refine c_end ?_
        refine c_region ?_
        refine s_move S rfl rfl ?_; clear S a; intro a S
        refine c_end ?_
        refine wp_block ?_
        refine c_loop (fun q2 a w => ∃ (m : Mem) (y38 : Int) (g92 : Nat) (g93 : Nat) (g94 : Nat) (y39 : List Int), St 46 m b0 [(24, (.v (.int .i64 y38))), (5, (.v (.int .i64 y29))), (21, (.v (.int .i64 y29))), (4, (.v (.pointer (some ⟨g92, 0, none⟩)))), (3, (.v (.pointer (some ⟨g93, 0, none⟩)))), (2, (.v (.pointer (some ⟨g94, 0, none⟩))))] [Res.cells g92 26 [.ints .u64 y39 4], Res.cells g93 39 [.ints .u8 (cpy [0, 0, 0, 0, 0, 0, 0, 0, 0, 0, 0, 0, 0, 0, 0, 0, 0, 0, 0, 0, 0, 0, 0, 0, 0, 0, 0, 0, 0, 0, 0, 0] (Int.toNat (wr .i64 (32 - ((y1).length : Int)))) y1 (min (y1).length (Int.toNat 32 - Int.toNat (wr .i64 (32 - ((y1).length : Int)))))) 32], Res.cells g94 26 [.ints .u64 [0, 0, 0, 0] 4]] a w ∧ word_From.l2 y1 y29 (word_From.l1 k y1 q1) q2 y38 y39 = some r) ?_ ?_ (k := k) ⟨_, 0, g71, g72, g73, y30, (S.sub ⟨rfl, rfl, rfl, rfl, rfl, rfl, trivial⟩ (.cons .here (.cons .here (.cons .here .nil)))), h1⟩
        · rintro a w ⟨m, y38, g92, g93, g94, y39, S, h0⟩
          exact (nomatch (show (none : Option ((List Int))) = some r from h0))
        · clear S h1
          rintro q2 a w ⟨m, y38, g92, g93, g94, y39, S, h0⟩
          replace h0 : word_From.b2 y1 y29 (word_From.l1 k y1 q1) (word_From.l2 y1 y29 (word_From.l1 k y1 q1) q2) y38 y39 = some r := h0
          delta word_From.b2 at h0
          refine c_region ?_
          refine s_bin S rfl rfl rfl rfl ?_; clear S a; intro a S
          refine c_end ?_
          refine wp_seq ?_
          rcases ite_of h0 with ⟨c3, h1⟩ | ⟨c3, h1⟩ <;> clear h0
          · refine c_condT S rfl c3 ?_
            refine wp_skip ?_
            refine x_thenN ?_
            refine wp_seq ?_
            refine wp_block ?_
            refine c_region ?_
            refine s_move S rfl rfl ?_; clear S a; intro a S
            refine s_assign S rfl rfl ?_; clear S a; intro a S
            refine c_end ?_
            refine c_heldS S (.take 0 (.take 1 (.take 2 (.take 3 (.take 4 (.take 5 (.take 6 (.take 7 (.take 8 (.take 9 (.take 10 (.take 11 (.take 12 (.take 13 (.take 14 (.take 15 (.alts (.run 16 false .done .nil)))))))))))))))))) 16 [Res.cells g92 26 [.ints .u64 y39 4], Res.cells g93 39 [.ints .u8 (cpy [0, 0, 0, 0, 0, 0, 0, 0, 0, 0, 0, 0, 0, 0, 0, 0, 0, 0, 0, 0, 0, 0, 0, 0, 0, 0, 0, 0, 0, 0, 0, 0] (Int.toNat (wr .i64 (32 - ((y1).length : Int)))) y1 (min (y1).length (Int.toNat 32 - Int.toNat (wr .i64 (32 - ((y1).length : Int)))))) 32], Res.cells g94 26 [.ints .u64 [0, 0, 0, 0] 4]] (.cons .here (.cons .here (.cons .here .nil))) ⟨Res.stay_cells, Res.stay_cells, Res.stay_cells, trivial⟩ [(6, (.v (.int .i64 y38))), (5, (.v (.int .i64 y29))), (4, (.v (.pointer (some ⟨g92, 0, none⟩)))), (3, (.v (.pointer (some ⟨g93, 0, none⟩))))] ⟨rfl, rfl, rfl, rfl, trivial⟩ (by kernel_rfl) (by kernel_rfl) ?_; clear S; intro w S CL hw le
            refine h_move S CL hw le ⟨rfl, rfl, rfl, rfl, trivial⟩ rfl rfl rfl trivial ?_; clear S CL a; intro a S CL
            obtain ⟨c4, h2⟩ := chk_of h1; clear h1
            refine h_iaddr S CL hw le ⟨rfl, rfl, rfl, rfl, rfl, trivial⟩ rfl rfl Tryd.underlying26 T24 c4.1 c4.2 (mul1 _ _) rfl rfl trivial ?_; clear S CL a; intro a S CL
            refine h_loadi S CL hw le ⟨rfl, rfl, rfl, rfl, rfl, rfl, trivial⟩ (i := y29) rfl .here T24 .here rfl c4.1 c4.2 rfl rfl trivial ?_; clear S CL a; intro a S CL
            refine h_move S CL hw le ⟨rfl, rfl, rfl, rfl, rfl, rfl, rfl, trivial⟩ rfl rfl rfl trivial ?_; clear S CL a; intro a S CL
            refine h_bin S CL hw le ⟨rfl, rfl, rfl, rfl, rfl, rfl, rfl, rfl, trivial⟩ rfl rfl rfl rfl rfl trivial ?_; clear S CL a; intro a S CL
            refine h_bin S CL hw le ⟨rfl, rfl, rfl, rfl, rfl, rfl, rfl, rfl, rfl, trivial⟩ rfl rfl rfl rfl rfl trivial ?_; clear S CL a; intro a S CL
            refine h_move S CL hw le ⟨rfl, rfl, rfl, rfl, rfl, rfl, rfl, rfl, rfl, rfl, trivial⟩ rfl rfl rfl trivial ?_; clear S CL a; intro a S CL
            refine h_bin S CL hw le ⟨rfl, rfl, rfl, rfl, rfl, rfl, rfl, rfl, rfl, rfl, rfl, trivial⟩ rfl rfl rfl rfl rfl trivial ?_; clear S CL a; intro a S CL
            obtain ⟨c5, h3⟩ := chk_of h2; clear h2
            refine h_iaddr S CL hw le ⟨rfl, rfl, rfl, rfl, rfl, rfl, rfl, rfl, rfl, rfl, rfl, rfl, trivial⟩ rfl rfl Tryd.underlying39 T5 c5.1 c5.2 (mul1 _ _) rfl rfl trivial ?_; clear S CL a; intro a S CL
            refine h_loadi S CL hw le ⟨rfl, rfl, rfl, rfl, rfl, rfl, rfl, rfl, rfl, rfl, rfl, rfl, rfl, trivial⟩ (i := (wr .i64 ((wr .i64 (31 - (wr .i64 (8 * y29)))) - y38))) rfl (.there .here) T5 .here rfl c5.1 c5.2 rfl rfl trivial ?_; clear S CL a; intro a S CL
            refine h_conv S CL hw le ⟨rfl, rfl, rfl, rfl, rfl, rfl, rfl, rfl, rfl, rfl, rfl, rfl, rfl, rfl, trivial⟩ rfl rfl Tryd.underlying24 rfl rfl trivial ?_; clear S CL a; intro a S CL
            refine h_move S CL hw le ⟨rfl, rfl, rfl, rfl, rfl, rfl, rfl, rfl, rfl, rfl, rfl, rfl, rfl, rfl, rfl, trivial⟩ rfl rfl rfl trivial ?_; clear S CL a; intro a S CL
            refine h_bin S CL hw le ⟨rfl, rfl, rfl, rfl, rfl, rfl, rfl, rfl, rfl, rfl, rfl, rfl, rfl, rfl, rfl, rfl, trivial⟩ rfl rfl rfl rfl rfl trivial ?_; clear S CL a; intro a S CL
            obtain ⟨c6, h4⟩ := chk_of h3; clear h3
            refine h_shl S CL hw le ⟨rfl, rfl, rfl, rfl, rfl, rfl, rfl, rfl, rfl, rfl, rfl, rfl, rfl, rfl, rfl, rfl, rfl, trivial⟩ (e := (min (Int.toNat (wr .i64 (8 * y38))) 64)) rfl rfl c6 rfl rfl rfl trivial ?_; clear S CL a; intro a S CL
            refine h_bin S CL hw le ⟨rfl, rfl, rfl, rfl, rfl, rfl, rfl, rfl, rfl, rfl, rfl, rfl, rfl, rfl, rfl, rfl, rfl, rfl, trivial⟩ rfl rfl rfl rfl rfl trivial ?_; clear S CL a; intro a S CL
            refine h_iaddr S CL hw le ⟨rfl, rfl, rfl, rfl, rfl, rfl, rfl, rfl, rfl, rfl, rfl, rfl, rfl, rfl, rfl, rfl, rfl, rfl, rfl, trivial⟩ rfl rfl Tryd.underlying26 T24 c4.1 c4.2 (mul1 _ _) rfl rfl trivial ?_; clear S CL a; intro a S CL
            refine h_run' S rfl trivial ?_
            refine s_storei S (i := y29) rfl rfl .here T24 .here rfl c4.1 c4.2 ?_; clear S; intro w S
            refine h_back ⟨fun h => (nomatch h), ?_⟩
            refine h_done ?_; clear CL hw le
            refine x_blockN ?_
            refine x_thenN ?_
            refine c_region' ?_
            refine s_bin S rfl rfl rfl rfl ?_; clear S a; intro a S
            refine s_move S rfl rfl ?_; clear S a; intro a S
            refine c_end' ?_
            refine x_thenN ?_
            exact ⟨_, (wr .i64 (y38 + 1)), g92, g93, g94, (y39.set (Int.toNat y29) (bits .or .u64 (rd y39 y29) (shl .u64 (wr .u64 (rd (cpy [0, 0, 0, 0, 0, 0, 0, 0, 0, 0, 0, 0, 0, 0, 0, 0, 0, 0, 0, 0, 0, 0, 0, 0, 0, 0, 0, 0, 0, 0, 0, 0] (Int.toNat (wr .i64 (32 - ((y1).length : Int)))) y1 (min (y1).length (Int.toNat 32 - Int.toNat (wr .i64 (32 - ((y1).length : Int)))))) (wr .i64 ((wr .i64 (31 - (wr .i64 (8 * y29)))) - y38)))) (min (Int.toNat (wr .i64 (8 * y38))) 64)))), (S.sub ⟨rfl, rfl, rfl, rfl, rfl, rfl, trivial⟩ (.cons .here (.cons .here (.cons .here .nil)))), h4⟩
          · refine c_condF S rfl c3 ?_
            refine wp_exit ?_
            refine x_thenX ?_
            refine x_thenX ?_
            refine x_blockX ?_
            refine x_blockN ?_
            refine x_thenN ?_
            exact j3 _ g92 g93 g94 y39 a w (S.sub ⟨rfl, rfl, rfl, rfl, trivial⟩ (.cons .here (.cons .here (.cons .here .nil)))) h1
      · refine c_condF S rfl c2 ?_
        refine wp_exit ?_
        refine x_thenX ?_
        refine x_thenX ?_
        refine x_blockX ?_
        refine x_thenN ?_
        exact j2 _ g71 g73 y30 a w (S.sub ⟨rfl, rfl, trivial⟩ (.cons .here (.cons (.there .here) .nil))) h1
  refine c_region ?_
  refine s_move S rfl rfl ?_; clear S a; intro a S
  refine s_lenS S rfl Tryd.underlying27 rfl ?_; clear S a; intro a S
  refine s_bin S rfl rfl rfl rfl ?_; clear S a; intro a S
  refine c_end ?_
  rcases ite_of h0 with ⟨c7, h1⟩ | ⟨c7, h1⟩ <;> clear h0
  · refine c_condT S rfl c7 ?_
    refine c_region' ?_
    refine s_move S rfl rfl ?_; clear S a; intro a S
    refine s_move S rfl rfl ?_; clear S a; intro a S
    refine s_lenS S rfl Tryd.underlying27 rfl ?_; clear S a; intro a S
    refine s_bin S rfl rfl rfl rfl ?_; clear S a; intro a S
    obtain ⟨c8, h2⟩ := chk_of h1; clear h1
    refine s_cutS S (i := (wr .i64 (((x1).length : Int) - 32))) (j := ((x1).length : Int)) (ys := x1.drop (Int.toNat (wr .i64 (((x1).length : Int) - 32)))) rfl rfl Tryd.underlying27 T5 (.inr ⟨_, _, rfl, rfl⟩) (.inl ⟨rfl, rfl⟩) c8 rfl (by simp) ?_; clear S a; intro A2 cp2 a S
    refine s_assign S rfl rfl ?_; clear S a; intro a S
    refine c_end' ?_
    refine x_thenN ?_
    exact j1 _ A2 cp2 (x1.drop (Int.toNat (wr .i64 (((x1).length : Int) - 32)))) g2 g1 a w (S.sub ⟨rfl, rfl, rfl, trivial⟩ (.cons .here (.cons .here .nil))) h2
  · refine c_condF S rfl c7 ?_
    refine wp_skip ?_
    refine x_thenN ?_
    exact j1 _ ch_0_0 ch_0_1 x1 g2 g1 a w (S.sub ⟨rfl, rfl, rfl, trivial⟩ (.cons .here (.cons .here .nil))) h1
/-! smithy/keccak.Word -/
abbrev keccak_Word.Ty : Type := (List Int) → Option ((List Int))
def keccak_Word.Ctr (s : keccak_Word.Ty) : Prop := ∀ (x1 : List Int) (ch_0_0 : Option Addr) (ch_0_1 : Nat) (r : (List Int)) (h0 : s x1 = some r) (mi : Mem) (w0 : World) (G : Glob mi), okL mi [(.sl ch_0_0 (x1).length ch_0_1 (RdS (Ty.int .u8) ch_0_0 x1))] → Pre mi [] w0 → Calls Tryd.prog 22 (([(.sl ch_0_0 (x1).length ch_0_1 (RdS (Ty.int .u8) ch_0_0 x1))] : List D).map D.val).toArray w0 (RetX mi [] (fun (ch : Unit) => ((.agg [.ints .u64 r 4]) : D)) (fun (ch : Unit) => []) w0)
def keccak_Word.f (k : Nat) (x1 : List Int) : Option ((List Int)) := (keccak_Sum.f k x1).bind fun t1 => ((word_From.f k (((t1).drop 0).take 32)).bind fun t2 => (some t2))
theorem keccak_Word.ok (k : Nat) : keccak_Word.Ctr (keccak_Word.f k) := by
  intro x1 ch_0_0 ch_0_1 r h0 mi w0 G ok hm
  delta keccak_Word.f at h0
  refine c_enterX (n := 8) [(.sl ch_0_0 (x1).length ch_0_1 (RdS (Ty.int .u8) ch_0_0 x1))] (l := [(0, (.sl ch_0_0 (x1).length ch_0_1 (RdS (Ty.int .u8) ch_0_0 x1)))]) Tryd.func22 rfl rfl rfl rfl ok hm ?_
  clear ok hm
  intro b0 hb a S
  refine c_region ?_
  refine s_alloc S Z26 rfl ⟨rfl, trivial⟩ rfl ?_; clear S a; intro g1 a w S
  refine c_end ?_
  refine c_region ?_
  refine s_move S rfl rfl ?_; clear S a; intro a S
  obtain ⟨t1, et1, h1⟩ := bind_of h0; clear h0
  refine s_callX S (ds' := [(.sl ch_0_0 (x1).length ch_0_1 (RdS (Ty.int .u8) ch_0_0 x1))]) (ds := [(.sl ch_0_0 (x1).length ch_0_1 (RdS (Ty.int .u8) ch_0_0 x1))]) [] [Res.cells g1 26 [.ints .u64 [0, 0, 0, 0] 4]] (fun (ch : Unit) => ((.agg [.ints .u8 t1 32]) : D)) (fun (ch : Unit) => []) (fun (ch : Unit) => [Res.cells g1 26 [.ints .u64 [0, 0, 0, 0] 4]]) (fun _ => rfl) N20 rfl rfl (fun ok => ok) (.cons .here .nil) rfl (keccak_Sum.ok k x1 ch_0_0 ch_0_1 t1 et1 _ _ (G.mono (S.leB hb))) ?_; clear S a w; intro ch1 m le1 a w S
  refine s_alloc S Z40 rfl ⟨rfl, trivial⟩ rfl ?_; clear S a w; intro g2 a w S
  refine s_store S rfl rfl rfl (s' := [.ints .u8 t1 32]) .here T40 rfl rfl ?_; clear S w; intro w S
  refine c_end ?_
  refine c_region ?_
  refine s_sliceA S (i := 0) (j := 32) (o' := 0) (len := 32) (cap := 32) rfl Tryd.underlying40 T5 (.inl ⟨rfl, rfl⟩) (.inl ⟨rfl, rfl⟩) (by decide) rfl rfl rfl rfl ?_; clear S a; intro a S
  replace S := S.freeze .here
  obtain ⟨m, le1, S⟩ := S
  replace S := (S.slup' (u := 6) (lo := 0) (c := 32) (ys := ((t1).drop 0).take 32) rfl (Pull.mem .here).1 .here (.inl rfl) (by decide) (by decide) rfl).2
  obtain ⟨t2, et2, h2⟩ := bind_of h1; clear h1
  refine s_callX S (ds' := [(.sl (some ⟨g2, 0, none⟩) (((t1).drop 0).take 32).length 32 (RdS (Ty.int .u8) (some ⟨g2, 0, none⟩) (((t1).drop 0).take 32)))]) (ds := [(.sl (some ⟨g2, 0, none⟩) (((t1).drop 0).take 32).length 32 (RdS (Ty.int .u8) (some ⟨g2, 0, none⟩) (((t1).drop 0).take 32)))]) [] [Res.fro g2 40 [.ints .u8 t1 32], Res.cells g1 26 [.ints .u64 [0, 0, 0, 0] 4]] (fun (ch : Unit) => ((.agg [.ints .u64 t2 4]) : D)) (fun (ch : Unit) => []) (fun (ch : Unit) => [Res.fro g2 40 [.ints .u8 t1 32], Res.cells g1 26 [.ints .u64 [0, 0, 0, 0] 4]]) (fun _ => rfl) N27 rfl rfl (fun ok => ok) (.cons .here (.cons .here .nil)) rfl (word_From.ok k (((t1).drop 0).take 32) (some ⟨g2, 0, none⟩) 32 t2 et2 _ _) ?_; clear S a w; intro ch2 m le1 a w S
  refine s_store S rfl rfl rfl (s' := [.ints .u64 t2 4]) (.there .here) T26 rfl rfl ?_; clear S w; intro w S
  refine c_end ?_
  refine wp_ret ?_
  obtain rfl := Option.some.inj h2
  exact b_ret1 (d := (.agg [.ints .u64 t2 4])) S rfl (resD_cell rfl (.there .here) T26 rfl rfl) fun ok => S.retX (Hx := []) hb _ _ (() : Unit) .nil ok
/-! smithy/addr.Of -/
abbrev addr_Of.Ty : Type := (List Int) → Option ((List Int))
def addr_Of.Ctr (s : addr_Of.Ty) : Prop := ∀ (x1 : List Int) (r : (List Int)) (h0 : s x1 = some r) (mi : Mem) (w0 : World), okL mi [(.agg [.ints .u64 x1 4])] → Pre mi [] w0 → Calls Tryd.prog 12 (([(.agg [.ints .u64 x1 4])] : List D).map D.val).toArray w0 (RetX mi [] (fun (ch : Unit) => ((.agg [.ints .u8 r 20]) : D)) (fun (ch : Unit) => []) w0)
def addr_Of.f (k : Nat) (x1 : List Int) : Option ((List Int)) := (word_Bytes.f k x1).bind fun t1 => (some (((t1).drop 12).take 20))
theorem addr_Of.ok (k : Nat) : addr_Of.Ctr (addr_Of.f k) := by
  intro x1 r h0 mi w0 ok hm
  delta addr_Of.f at h0
  refine c_enterX (n := 9) [(.agg [.ints .u64 x1 4])] (l := [(0, (.agg [.ints .u64 x1 4]))]) Tryd.func12 rfl rfl rfl rfl ok hm ?_
  clear ok hm
  intro b0 hb a S
  refine c_region ?_
  refine s_box S rfl rfl rfl ?_; clear S a; intro g1 a w S
  refine s_alloc S Z23 rfl ⟨rfl, trivial⟩ rfl ?_; clear S a w; intro g2 a w S
  refine c_end ?_
  refine c_region ?_
  refine s_loada S rfl (.there .here) T26 (s' := [.ints .u64 x1 4]) rfl rfl ?_; clear S a; intro a S
  obtain ⟨t1, et1, h1⟩ := bind_of h0; clear h0
  refine s_callX S (ds' := [(.agg [.ints .u64 x1 4])]) (ds := [(.agg [.ints .u64 x1 4])]) [] [Res.cells g2 23 [.ints .u8 [0, 0, 0, 0, 0, 0, 0, 0, 0, 0, 0, 0, 0, 0, 0, 0, 0, 0, 0, 0] 20], Res.cells g1 26 [.ints .u64 x1 4]] (fun (ch : Unit) => ((.agg [.ints .u8 t1 32]) : D)) (fun (ch : Unit) => []) (fun (ch : Unit) => [Res.cells g2 23 [.ints .u8 [0, 0, 0, 0, 0, 0, 0, 0, 0, 0, 0, 0, 0, 0, 0, 0, 0, 0, 0, 0] 20], Res.cells g1 26 [.ints .u64 x1 4]]) (fun _ => rfl) N21 rfl rfl (fun ok => ok) (.cons .here (.cons .here .nil)) rfl (word_Bytes.ok k x1 t1 et1 _ _) ?_; clear S a w; intro ch1 m le1 a w S
  refine s_alloc S Z39 rfl ⟨rfl, trivial⟩ rfl ?_; clear S a w; intro g3 a w S
  refine s_store S rfl rfl rfl (s' := [.ints .u8 t1 32]) .here T39 rfl rfl ?_; clear S w; intro w S
  refine c_end ?_
  refine c_region ?_
  refine s_sliceA S (i := 12) (j := 32) (o' := 12) (len := 20) (cap := 20) rfl Tryd.underlying39 T5 (.inr ⟨_, _, rfl, rfl⟩) (.inl ⟨rfl, rfl⟩) (by decide) rfl rfl rfl rfl ?_; clear S a; intro a S
  refine s_arrp S rfl Tryd.underlying23 (by decide) rfl ?_; clear S a; intro a S
  refine s_ldInts S (lo := 12) (ys := ((t1).drop 12).take 20) rfl .here T23 .here rfl (by decide) rfl rfl ?_; clear S a; intro a S
  refine s_store S rfl rfl rfl (s' := [.ints .u8 (((t1).drop 12).take 20) 20]) (.there .here) T23 rfl rfl ?_; clear S w; intro w S
  refine c_end ?_
  refine wp_ret ?_
  obtain rfl := Option.some.inj h1
  exact b_ret1 (d := (.agg [.ints .u8 (((t1).drop 12).take 20) 20])) S rfl (resD_cell rfl (.there .here) T23 rfl rfl) fun ok => S.retX (Hx := []) hb _ _ (() : Unit) .nil ok
/-! smithy/addr.Create2 -/
abbrev addr_Create2.Ty : Type := (List Int) → (List Int) → (List Int) → Option ((List Int))
def addr_Create2.Ctr (s : addr_Create2.Ty) : Prop := ∀ (x1 : List Int) (x2 : List Int) (x3 : List Int) (ch_2_0 : Option Addr) (ch_2_1 : Nat) (r : (List Int)) (h0 : s x1 x2 x3 = some r) (mi : Mem) (w0 : World) (G : Glob mi), okL mi [(.agg [.ints .u8 x1 20]), (.agg [.ints .u64 x2 4]), (.sl ch_2_0 (x3).length ch_2_1 (RdS (Ty.int .u8) ch_2_0 x3))] → Pre mi [] w0 → Calls Tryd.prog 8 (([(.agg [.ints .u8 x1 20]), (.agg [.ints .u64 x2 4]), (.sl ch_2_0 (x3).length ch_2_1 (RdS (Ty.int .u8) ch_2_0 x3))] : List D).map D.val).toArray w0 (RetX mi [] (fun (ch : Unit) => ((.agg [.ints .u8 r 20]) : D)) (fun (ch : Unit) => []) w0)
def addr_Create2.j1 (k : Nat) (x1 : List Int) (y1 : List Int) (y2 : List Int) : Option ((List Int)) := if (([255]).length + (((x1).drop 0).take 20).length) * 1 ≤ 140737488355328 then (if (([255] ++ (((x1).drop 0).take 20)).length + (((y1).drop 0).take 32).length) * 1 ≤ 140737488355328 then (if ((([255] ++ (((x1).drop 0).take 20)) ++ (((y1).drop 0).take 32)).length + (((y2).drop 0).take 32).length) * 1 ≤ 140737488355328 then ((keccak_Word.f k ((([255] ++ (((x1).drop 0).take 20)) ++ (((y1).drop 0).take 32)) ++ (((y2).drop 0).take 32))).bind fun t1 => ((addr_Of.f k t1).bind fun t2 => (some t2))) else none) else none) else none
def addr_Create2.f (k : Nat) (x1 : List Int) (x2 : List Int) (x3 : List Int) : Option ((List Int)) := (keccak_Sum.f k x3).bind fun t3 => ((word_Bytes.f k x2).bind fun t4 => (addr_Create2.j1 k x1 t4 t3))
theorem addr_Create2.ok (k : Nat) : addr_Create2.Ctr (addr_Create2.f k) := by
  intro x1 x2 x3 ch_2_0 ch_2_1 r h0 mi w0 G ok hm
  delta addr_Create2.f at h0
  refine c_enterX (n := 27) [(.agg [.ints .u8 x1 20]), (.agg [.ints .u64 x2 4]), (.sl ch_2_0 (x3).length ch_2_1 (RdS (Ty.int .u8) ch_2_0 x3))] (l := [(0, (.agg [.ints .u8 x1 20])), (1, (.agg [.ints .u64 x2 4])), (2, (.sl ch_2_0 (x3).length ch_2_1 (RdS (Ty.int .u8) ch_2_0 x3)))]) Tryd.func8 rfl rfl rfl rfl ok hm ?_
  clear ok hm
  intro b0 hb a S
  refine c_region ?_
  refine s_box S rfl rfl rfl ?_; clear S a; intro g1 a w S
  refine s_box S rfl rfl rfl ?_; clear S a w; intro g2 a w S
  refine s_alloc S Z23 rfl ⟨rfl, trivial⟩ rfl ?_; clear S a w; intro g3 a w S
  refine c_end ?_
  refine wp_seq_k ?_
  intro K1 hK1
  have j1 : ∀ (m : Mem) (g6 : Nat) (g7 : Nat) (g8 : Nat) (g9 : Nat) (y1 : List Int) (y2 : List Int) (a : Act) (w : World), St 27 m b0 [(8, (.v (.pointer (some ⟨g6, 0, none⟩)))), (7, (.v (.pointer (some ⟨g7, 0, none⟩)))), (6, (.v (.pointer (some ⟨g8, 0, none⟩)))), (3, (.v (.pointer (some ⟨g9, 0, none⟩))))] [Res.cells g6 39 [.ints .u8 y1 32], Res.cells g7 40 [.ints .u8 y2 32], Res.cells g8 23 [.ints .u8 [0, 0, 0, 0, 0, 0, 0, 0, 0, 0, 0, 0, 0, 0, 0, 0, 0, 0, 0, 0] 20], Res.cells g9 23 [.ints .u8 x1 20]] a w → addr_Create2.j1 k x1 y1 y2 = some r → K1 a w := by
    intro m g6 g7 g8 g9 y1 y2 a w S h0
    delta addr_Create2.j1 at h0
    refine hK1 a w ?_
    refine c_region ?_
    refine s_bldSl S (ty' := (Ty.int .u8)) (ds := [(0, (.v (.int .u8 255)))]) (z := 0) (c0 := ()) (ys := [255]) (cs := [()]) rfl Tryd.underlying27 J5 Z5 rfl ⟨rfl, trivial⟩ rfl rfl rfl rfl rfl rfl ?_; clear S a w; intro g10 a w S
    refine s_assign S rfl rfl ?_; clear S a; intro a S
    refine c_end ?_
    refine c_region ?_
    refine s_move S rfl rfl ?_; clear S a; intro a S
    refine s_sliceA S (i := 0) (j := 20) (o' := 0) (len := 20) (cap := 20) rfl Tryd.underlying23 T5 (.inl ⟨rfl, rfl⟩) (.inl ⟨rfl, rfl⟩) (by decide) rfl rfl rfl rfl ?_; clear S a; intro a S
    replace S := S.freeze (.there (.there (.there (.there .here))))
    obtain ⟨m, le1, S⟩ := S
    replace S := (S.slup' (u := 16) (lo := 0) (c := 20) (ys := ((x1).drop 0).take 20) rfl (Pull.mem (.there (.there (.there (.there .here))))).1 .here (.inl rfl) (by decide) (by decide) rfl).2
    obtain ⟨c1, h1⟩ := chk_of h0; clear h0
    refine s_app S (k2 := ((((x1).drop 0).take 20).length)) (ys := (((x1).drop 0).take 20)) rfl (fun _ _ => .here) rfl rfl rfl (RdS.src (S.get 16 (.sl (some ⟨g9, 0, none⟩) (((x1).drop 0).take 20).length 20 (RdS (Ty.int .u8) (some ⟨g9, 0, none⟩) (((x1).drop 0).take 20))) rfl).2.2.2.1 (by decide) S.frz) Tryd.underlying27 J5 c1 rfl ?_; clear S a w; intro A1 cp1 a w S
    refine s_assign S rfl rfl ?_; clear S a; intro a S
    refine c_end ?_
    refine c_region ?_
    refine s_move S rfl rfl ?_; clear S a; intro a S
    refine s_sliceA S (i := 0) (j := 32) (o' := 0) (len := 32) (cap := 32) rfl Tryd.underlying39 T5 (.inl ⟨rfl, rfl⟩) (.inl ⟨rfl, rfl⟩) (by decide) rfl rfl rfl rfl ?_; clear S a; intro a S
    replace S := S.freeze (.there .here)
    obtain ⟨m, le1, S⟩ := S
    replace S := (S.slup' (u := 19) (lo := 0) (c := 32) (ys := ((y1).drop 0).take 32) rfl (Pull.mem (.there .here)).1 .here (.inl rfl) (by decide) (by decide) rfl).2
    obtain ⟨c2, h2⟩ := chk_of h1; clear h1
    refine s_app S (k2 := ((((y1).drop 0).take 32).length)) (ys := (((y1).drop 0).take 32)) rfl (fun _ _ => .here) rfl rfl rfl (RdS.src (S.get 19 (.sl (some ⟨g6, 0, none⟩) (((y1).drop 0).take 32).length 32 (RdS (Ty.int .u8) (some ⟨g6, 0, none⟩) (((y1).drop 0).take 32))) rfl).2.2.2.1 (by decide) S.frz) Tryd.underlying27 J5 c2 rfl ?_; clear S a w; intro A2 cp2 a w S
    refine s_assign S rfl rfl ?_; clear S a; intro a S
    refine c_end ?_
    refine c_region ?_
    refine s_move S rfl rfl ?_; clear S a; intro a S
    refine s_sliceA S (i := 0) (j := 32) (o' := 0) (len := 32) (cap := 32) rfl Tryd.underlying40 T5 (.inl ⟨rfl, rfl⟩) (.inl ⟨rfl, rfl⟩) (by decide) rfl rfl rfl rfl ?_; clear S a; intro a S
    replace S := S.freeze (.there (.there .here))
    obtain ⟨m, le1, S⟩ := S
    replace S := (S.slup' (u := 22) (lo := 0) (c := 32) (ys := ((y2).drop 0).take 32) rfl (Pull.mem (.there (.there .here))).1 .here (.inl rfl) (by decide) (by decide) rfl).2
    obtain ⟨c3, h3⟩ := chk_of h2; clear h2
    refine s_app S (k2 := ((((y2).drop 0).take 32).length)) (ys := (((y2).drop 0).take 32)) rfl (fun _ _ => .here) rfl rfl rfl (RdS.src (S.get 22 (.sl (some ⟨g7, 0, none⟩) (((y2).drop 0).take 32).length 32 (RdS (Ty.int .u8) (some ⟨g7, 0, none⟩) (((y2).drop 0).take 32))) rfl).2.2.2.1 (by decide) S.frz) Tryd.underlying27 J5 c3 rfl ?_; clear S a w; intro A3 cp3 a w S
    refine s_assign S rfl rfl ?_; clear S a; intro a S
    refine c_end ?_
    refine c_region ?_
    refine s_move S rfl rfl ?_; clear S a; intro a S
    replace S := S.rowfro .here
    obtain ⟨m, le1, S, hro⟩ := S
    replace S := S.slotro (u := 24) rfl hro
    replace S := S.slotro (u := 9) rfl hro
    replace S := S.slotro (u := 23) rfl hro
    obtain ⟨t1, et1, h4⟩ := bind_of h3; clear h3
    refine s_callX S (ds' := [(.sl A3 ((([255] ++ (((x1).drop 0).take 20)) ++ (((y1).drop 0).take 32)) ++ (((y2).drop 0).take 32)).length cp3 (RdS (Ty.int .u8) A3 ((([255] ++ (((x1).drop 0).take 20)) ++ (((y1).drop 0).take 32)) ++ (((y2).drop 0).take 32))))]) (ds := [(.sl A3 ((([255] ++ (((x1).drop 0).take 20)) ++ (((y1).drop 0).take 32)) ++ (((y2).drop 0).take 32)).length cp3 (RdS (Ty.int .u8) A3 ((([255] ++ (((x1).drop 0).take 20)) ++ (((y1).drop 0).take 32)) ++ (((y2).drop 0).take 32))))]) [] [Res.fro g6 39 [.ints .u8 y1 32], Res.fro g7 40 [.ints .u8 y2 32], Res.cells g8 23 [.ints .u8 [0, 0, 0, 0, 0, 0, 0, 0, 0, 0, 0, 0, 0, 0, 0, 0, 0, 0, 0, 0] 20], Res.fro g9 23 [.ints .u8 x1 20]] (fun (ch : Unit) => ((.agg [.ints .u64 t1 4]) : D)) (fun (ch : Unit) => []) (fun (ch : Unit) => [Res.fro g6 39 [.ints .u8 y1 32], Res.fro g7 40 [.ints .u8 y2 32], Res.cells g8 23 [.ints .u8 [0, 0, 0, 0, 0, 0, 0, 0, 0, 0, 0, 0, 0, 0, 0, 0, 0, 0, 0, 0] 20], Res.fro g9 23 [.ints .u8 x1 20]]) (fun _ => rfl) N22 rfl rfl (fun ok => ok) (.cons .here (.cons .here (.cons .here (.cons .here .nil)))) rfl (keccak_Word.ok k ((([255] ++ (((x1).drop 0).take 20)) ++ (((y1).drop 0).take 32)) ++ (((y2).drop 0).take 32)) A3 cp3 t1 et1 _ _ (G.mono (S.leB hb))) ?_; clear S a w; intro ch1 m le1 a w S
    obtain ⟨t2, et2, h5⟩ := bind_of h4; clear h4
    refine s_callX S (ds' := [(.agg [.ints .u64 t1 4])]) (ds := [(.agg [.ints .u64 t1 4])]) [] [Res.fro g6 39 [.ints .u8 y1 32], Res.fro g7 40 [.ints .u8 y2 32], Res.cells g8 23 [.ints .u8 [0, 0, 0, 0, 0, 0, 0, 0, 0, 0, 0, 0, 0, 0, 0, 0, 0, 0, 0, 0] 20], Res.fro g9 23 [.ints .u8 x1 20]] (fun (ch : Unit) => ((.agg [.ints .u8 t2 20]) : D)) (fun (ch : Unit) => []) (fun (ch : Unit) => [Res.fro g6 39 [.ints .u8 y1 32], Res.fro g7 40 [.ints .u8 y2 32], Res.cells g8 23 [.ints .u8 [0, 0, 0, 0, 0, 0, 0, 0, 0, 0, 0, 0, 0, 0, 0, 0, 0, 0, 0, 0] 20], Res.fro g9 23 [.ints .u8 x1 20]]) (fun _ => rfl) N12 rfl rfl (fun ok => ok) (.cons .here (.cons .here (.cons .here (.cons .here .nil)))) rfl (addr_Of.ok k t1 t2 et2 _ _) ?_; clear S a w; intro ch2 m le1 a w S
    refine s_store S rfl rfl rfl (s' := [.ints .u8 t2 20]) (.there (.there .here)) T23 rfl rfl ?_; clear S w; intro w S
    refine c_end ?_
    refine wp_ret ?_
    obtain rfl := Option.some.inj h5
    exact b_ret1 (d := (.agg [.ints .u8 t2 20])) S rfl (resD_cell rfl (.there (.there .here)) T23 rfl rfl) fun ok => S.retX (Hx := []) hb _ _ (() : Unit) .nil ok
  refine c_heldS S (.take 0 (.take 2 (.alts (.run 1 true (.alts (.run 3 true (.alts (.run 4 true (.alts (.run 5 true (.alts (.run 6 true (.alts (.run 7 false .done .nil)) .nil)) .nil)) (.run 5 true (.alts (.run 4 true (.alts (.run 6 true (.alts (.run 7 false .done .nil)) .nil)) .nil)) .nil))) (.run 4 true (.alts (.run 3 true (.alts (.run 5 true (.alts (.run 6 true (.alts (.run 7 false .done .nil)) .nil)) .nil)) (.run 5 true (.alts (.run 3 true (.alts (.run 6 true (.alts (.run 7 false .done .nil)) .nil)) .nil)) .nil))) (.run 5 true (.alts (.run 3 true (.alts (.run 4 true (.alts (.run 6 true (.alts (.run 7 false .done .nil)) .nil)) .nil)) (.run 4 true (.alts (.run 3 true (.alts (.run 6 true (.alts (.run 7 false .done .nil)) .nil)) .nil)) .nil))) .nil)))) (.run 4 true (.alts (.run 1 true (.alts (.run 3 true (.alts (.run 5 true (.alts (.run 6 true (.alts (.run 7 false .done .nil)) .nil)) .nil)) (.run 5 true (.alts (.run 3 true (.alts (.run 6 true (.alts (.run 7 false .done .nil)) .nil)) .nil)) .nil))) (.run 5 true (.alts (.run 1 true (.alts (.run 3 true (.alts (.run 6 true (.alts (.run 7 false .done .nil)) .nil)) .nil)) .nil)) .nil))) (.run 5 true (.alts (.run 1 true (.alts (.run 3 true (.alts (.run 4 true (.alts (.run 6 true (.alts (.run 7 false .done .nil)) .nil)) .nil)) (.run 4 true (.alts (.run 3 true (.alts (.run 6 true (.alts (.run 7 false .done .nil)) .nil)) .nil)) .nil))) (.run 4 true (.alts (.run 1 true (.alts (.run 3 true (.alts (.run 6 true (.alts (.run 7 false .done .nil)) .nil)) .nil)) .nil)) .nil))) .nil)))))) 7 [Res.cells g3 23 [.ints .u8 [0, 0, 0, 0, 0, 0, 0, 0, 0, 0, 0, 0, 0, 0, 0, 0, 0, 0, 0, 0] 20], Res.cells g2 26 [.ints .u64 x2 4], Res.cells g1 23 [.ints .u8 x1 20]] (.cons .here (.cons .here (.cons .here .nil))) ⟨Res.stay_cells, Res.stay_cells, Res.stay_cells, trivial⟩ [(4, (.v (.pointer (some ⟨g2, 0, none⟩)))), (2, (.sl ch_2_0 (x3).length ch_2_1 (RdS (Ty.int .u8) ch_2_0 x3)))] ⟨rfl, rfl, trivial⟩ (by kernel_rfl) (by kernel_rfl) ?_; clear S; intro w S CL hw le
  refine h_move S CL hw le ⟨rfl, rfl, trivial⟩ rfl rfl rfl trivial ?_; clear S CL a; intro a S CL
  refine h_loada S CL hw le ⟨rfl, rfl, rfl, trivial⟩ rfl (.there .here) T26 (s' := [.ints .u64 x2 4]) rfl rfl rfl trivial ?_; clear S CL a; intro a S CL
  obtain ⟨t3, et3, h1⟩ := bind_of h0; clear h0
  obtain ⟨t4, et4, h2⟩ := bind_of h1; clear h1
  refine h_alts ?_
  refine h_runO S rfl trivial ?_ ?_
  · refine s_callX S (ds' := [(.sl ch_2_0 (x3).length ch_2_1 (RdS (Ty.int .u8) ch_2_0 x3))]) (ds := [(.sl ch_2_0 (x3).length ch_2_1 (RdS (Ty.int .u8) ch_2_0 x3))]) [] [Res.cells g3 23 [.ints .u8 [0, 0, 0, 0, 0, 0, 0, 0, 0, 0, 0, 0, 0, 0, 0, 0, 0, 0, 0, 0] 20], Res.cells g2 26 [.ints .u64 x2 4], Res.cells g1 23 [.ints .u8 x1 20]] (fun (ch : Unit) => ((.agg [.ints .u8 t3 32]) : D)) (fun (ch : Unit) => []) (fun (ch : Unit) => [Res.cells g3 23 [.ints .u8 [0, 0, 0, 0, 0, 0, 0, 0, 0, 0, 0, 0, 0, 0, 0, 0, 0, 0, 0, 0] 20], Res.cells g2 26 [.ints .u64 x2 4], Res.cells g1 23 [.ints .u8 x1 20]]) (fun _ => rfl) N20 rfl rfl (fun ok => ok) (.cons .here (.cons .here (.cons .here .nil))) rfl (keccak_Sum.ok k x3 ch_2_0 ch_2_1 t3 et3 _ _ (G.mono (S.leB hb))) ?_; clear S a; intro ch3 m le1 a w S
    replace le := le.trans le1
    replace hw := CL.again hw S (.cons .here (.cons .here (.cons .here .nil))) le
    refine h_back ⟨fun _ => hw, ?_⟩
    refine h_alts ?_
    refine h_runO S rfl trivial ?_ ?_
    · refine s_callX S (ds' := [(.agg [.ints .u64 x2 4])]) (ds := [(.agg [.ints .u64 x2 4])]) [] [Res.cells g3 23 [.ints .u8 [0, 0, 0, 0, 0, 0, 0, 0, 0, 0, 0, 0, 0, 0, 0, 0, 0, 0, 0, 0] 20], Res.cells g2 26 [.ints .u64 x2 4], Res.cells g1 23 [.ints .u8 x1 20]] (fun (ch : Unit) => ((.agg [.ints .u8 t4 32]) : D)) (fun (ch : Unit) => []) (fun (ch : Unit) => [Res.cells g3 23 [.ints .u8 [0, 0, 0, 0, 0, 0, 0, 0, 0, 0, 0, 0, 0, 0, 0, 0, 0, 0, 0, 0] 20], Res.cells g2 26 [.ints .u64 x2 4], Res.cells g1 23 [.ints .u8 x1 20]]) (fun _ => rfl) N21 rfl rfl (fun ok => ok) (.cons .here (.cons .here (.cons .here .nil))) rfl (word_Bytes.ok k x2 t4 et4 _ _) ?_; clear S a; intro ch4 m le1 a w S
      replace le := le.trans le1
      replace hw := CL.again hw S (.cons .here (.cons .here (.cons .here .nil))) le
      refine h_back ⟨fun _ => hw, ?_⟩
      refine h_alts ?_
      refine h_runO S rfl trivial ?_ ?_
      · refine s_alloc S Z40 rfl ⟨rfl, trivial⟩ rfl ?_; clear S a; intro g11 a w S
        replace hw := CL.again hw S (.cons (.there .here) (.cons (.there .here) (.cons (.there .here) .nil))) le
        refine h_back ⟨fun _ => hw, ?_⟩
        refine h_run' S rfl trivial ?_
        refine s_alloc S Z39 rfl ⟨rfl, trivial⟩ rfl ?_; clear S a; intro g12 a w S
        replace hw := CL.again hw S (.cons (.there (.there .here)) (.cons (.there (.there .here)) (.cons (.there (.there .here)) .nil))) le
        refine h_back ⟨fun _ => hw, ?_⟩
        refine h_run' S rfl trivial ?_
        refine s_store S rfl rfl rfl (s' := [.ints .u8 t3 32]) (.there .here) T40 rfl rfl ?_; clear S; intro w S
        replace hw := CL.again hw S (.cons (.there (.there .here)) (.cons (.there (.there .here)) (.cons (.there (.there .here)) .nil))) le
        refine h_back ⟨fun _ => hw, ?_⟩
        refine h_run' S rfl trivial ?_
        refine s_store S rfl rfl rfl (s' := [.ints .u8 t4 32]) .here T39 rfl rfl ?_; clear S; intro w S
        refine h_back ⟨fun h => (nomatch h), ?_⟩
        refine h_done ?_; clear CL hw le
        refine x_thenN ?_
        exact j1 _ g12 g11 g3 g1 t4 t3 a w (S.sub ⟨rfl, rfl, rfl, rfl, trivial⟩ (.cons .here (.cons .here (.cons .here (.cons (.there .here) .nil))))) h2
      refine h_runO S rfl trivial ?_ ?_
      · refine s_alloc S Z39 rfl ⟨rfl, trivial⟩ rfl ?_; clear S a; intro g11 a w S
        replace hw := CL.again hw S (.cons (.there .here) (.cons (.there .here) (.cons (.there .here) .nil))) le
        refine h_back ⟨fun _ => hw, ?_⟩
        refine h_run' S rfl trivial ?_
        refine s_alloc S Z40 rfl ⟨rfl, trivial⟩ rfl ?_; clear S a; intro g12 a w S
        replace hw := CL.again hw S (.cons (.there (.there .here)) (.cons (.there (.there .here)) (.cons (.there (.there .here)) .nil))) le
        refine h_back ⟨fun _ => hw, ?_⟩
        refine h_run' S rfl trivial ?_
        refine s_store S rfl rfl rfl (s' := [.ints .u8 t3 32]) .here T40 rfl rfl ?_; clear S; intro w S
        replace hw := CL.again hw S (.cons (.there (.there .here)) (.cons (.there (.there .here)) (.cons (.there (.there .here)) .nil))) le
        refine h_back ⟨fun _ => hw, ?_⟩
        refine h_run' S rfl trivial ?_
        refine s_store S rfl rfl rfl (s' := [.ints .u8 t4 32]) (.there .here) T39 rfl rfl ?_; clear S; intro w S
        refine h_back ⟨fun h => (nomatch h), ?_⟩
        refine h_done ?_; clear CL hw le
        refine x_thenN ?_
        exact j1 _ g11 g12 g3 g1 t4 t3 a w (S.sub ⟨rfl, rfl, rfl, rfl, trivial⟩ (.cons (.there .here) (.cons .here (.cons .here (.cons (.there .here) .nil))))) h2
      exact h_nil
    refine h_runO S rfl trivial ?_ ?_
    · refine s_alloc S Z40 rfl ⟨rfl, trivial⟩ rfl ?_; clear S a; intro g11 a w S
      replace hw := CL.again hw S (.cons (.there .here) (.cons (.there .here) (.cons (.there .here) .nil))) le
      refine h_back ⟨fun _ => hw, ?_⟩
      refine h_alts ?_
      refine h_runO S rfl trivial ?_ ?_
      · refine s_callX S (ds' := [(.agg [.ints .u64 x2 4])]) (ds := [(.agg [.ints .u64 x2 4])]) [] [Res.cells g11 40 [.ints .u8 [0, 0, 0, 0, 0, 0, 0, 0, 0, 0, 0, 0, 0, 0, 0, 0, 0, 0, 0, 0, 0, 0, 0, 0, 0, 0, 0, 0, 0, 0, 0, 0] 32], Res.cells g3 23 [.ints .u8 [0, 0, 0, 0, 0, 0, 0, 0, 0, 0, 0, 0, 0, 0, 0, 0, 0, 0, 0, 0] 20], Res.cells g2 26 [.ints .u64 x2 4], Res.cells g1 23 [.ints .u8 x1 20]] (fun (ch : Unit) => ((.agg [.ints .u8 t4 32]) : D)) (fun (ch : Unit) => []) (fun (ch : Unit) => [Res.cells g11 40 [.ints .u8 [0, 0, 0, 0, 0, 0, 0, 0, 0, 0, 0, 0, 0, 0, 0, 0, 0, 0, 0, 0, 0, 0, 0, 0, 0, 0, 0, 0, 0, 0, 0, 0] 32], Res.cells g3 23 [.ints .u8 [0, 0, 0, 0, 0, 0, 0, 0, 0, 0, 0, 0, 0, 0, 0, 0, 0, 0, 0, 0] 20], Res.cells g2 26 [.ints .u64 x2 4], Res.cells g1 23 [.ints .u8 x1 20]]) (fun _ => rfl) N21 rfl rfl (fun ok => ok) (.cons .here (.cons .here (.cons .here (.cons .here .nil)))) rfl (word_Bytes.ok k x2 t4 et4 _ _) ?_; clear S a; intro ch4 m le1 a w S
        replace le := le.trans le1
        replace hw := CL.again hw S (.cons (.there .here) (.cons (.there .here) (.cons (.there .here) .nil))) le
        refine h_back ⟨fun _ => hw, ?_⟩
        refine h_run' S rfl trivial ?_
        refine s_alloc S Z39 rfl ⟨rfl, trivial⟩ rfl ?_; clear S a; intro g12 a w S
        replace hw := CL.again hw S (.cons (.there (.there .here)) (.cons (.there (.there .here)) (.cons (.there (.there .here)) .nil))) le
        refine h_back ⟨fun _ => hw, ?_⟩
        refine h_run' S rfl trivial ?_
        refine s_store S rfl rfl rfl (s' := [.ints .u8 t3 32]) (.there .here) T40 rfl rfl ?_; clear S; intro w S
        replace hw := CL.again hw S (.cons (.there (.there .here)) (.cons (.there (.there .here)) (.cons (.there (.there .here)) .nil))) le
        refine h_back ⟨fun _ => hw, ?_⟩
        refine h_run' S rfl trivial ?_
        refine s_store S rfl rfl rfl (s' := [.ints .u8 t4 32]) .here T39 rfl rfl ?_; clear S; intro w S
        refine h_back ⟨fun h => (nomatch h), ?_⟩
        refine h_done ?_; clear CL hw le
        refine x_thenN ?_
        exact j1 _ g12 g11 g3 g1 t4 t3 a w (S.sub ⟨rfl, rfl, rfl, rfl, trivial⟩ (.cons .here (.cons .here (.cons .here (.cons (.there .here) .nil))))) h2
      refine h_runO S rfl trivial ?_ ?_
      · refine s_alloc S Z39 rfl ⟨rfl, trivial⟩ rfl ?_; clear S a; intro g12 a w S
        replace hw := CL.again hw S (.cons (.there (.there .here)) (.cons (.there (.there .here)) (.cons (.there (.there .here)) .nil))) le
        refine h_back ⟨fun _ => hw, ?_⟩
        refine h_run' S rfl trivial ?_
        refine s_callX S (ds' := [(.agg [.ints .u64 x2 4])]) (ds := [(.agg [.ints .u64 x2 4])]) [] [Res.cells g12 39 [.ints .u8 [0, 0, 0, 0, 0, 0, 0, 0, 0, 0, 0, 0, 0, 0, 0, 0, 0, 0, 0, 0, 0, 0, 0, 0, 0, 0, 0, 0, 0, 0, 0, 0] 32], Res.cells g11 40 [.ints .u8 [0, 0, 0, 0, 0, 0, 0, 0, 0, 0, 0, 0, 0, 0, 0, 0, 0, 0, 0, 0, 0, 0, 0, 0, 0, 0, 0, 0, 0, 0, 0, 0] 32], Res.cells g3 23 [.ints .u8 [0, 0, 0, 0, 0, 0, 0, 0, 0, 0, 0, 0, 0, 0, 0, 0, 0, 0, 0, 0] 20], Res.cells g2 26 [.ints .u64 x2 4], Res.cells g1 23 [.ints .u8 x1 20]] (fun (ch : Unit) => ((.agg [.ints .u8 t4 32]) : D)) (fun (ch : Unit) => []) (fun (ch : Unit) => [Res.cells g12 39 [.ints .u8 [0, 0, 0, 0, 0, 0, 0, 0, 0, 0, 0, 0, 0, 0, 0, 0, 0, 0, 0, 0, 0, 0, 0, 0, 0, 0, 0, 0, 0, 0, 0, 0] 32], Res.cells g11 40 [.ints .u8 [0, 0, 0, 0, 0, 0, 0, 0, 0, 0, 0, 0, 0, 0, 0, 0, 0, 0, 0, 0, 0, 0, 0, 0, 0, 0, 0, 0, 0, 0, 0, 0] 32], Res.cells g3 23 [.ints .u8 [0, 0, 0, 0, 0, 0, 0, 0, 0, 0, 0, 0, 0, 0, 0, 0, 0, 0, 0, 0] 20], Res.cells g2 26 [.ints .u64 x2 4], Res.cells g1 23 [.ints .u8 x1 20]]) (fun _ => rfl) N21 rfl rfl (fun ok => ok) (.cons .here (.cons .here (.cons .here (.cons .here (.cons .here .nil))))) rfl (word_Bytes.ok k x2 t4 et4 _ _) ?_; clear S a; intro ch4 m le1 a w S
        replace le := le.trans le1
        replace hw := CL.again hw S (.cons (.there (.there .here)) (.cons (.there (.there .here)) (.cons (.there (.there .here)) .nil))) le
        refine h_back ⟨fun _ => hw, ?_⟩
        refine h_run' S rfl trivial ?_
        refine s_store S rfl rfl rfl (s' := [.ints .u8 t3 32]) (.there .here) T40 rfl rfl ?_; clear S; intro w S
        replace hw := CL.again hw S (.cons (.there (.there .here)) (.cons (.there (.there .here)) (.cons (.there (.there .here)) .nil))) le
        refine h_back ⟨fun _ => hw, ?_⟩
        refine h_run' S rfl trivial ?_
        refine s_store S rfl rfl rfl (s' := [.ints .u8 t4 32]) .here T39 rfl rfl ?_; clear S; intro w S
        refine h_back ⟨fun h => (nomatch h), ?_⟩
        refine h_done ?_; clear CL hw le
        refine x_thenN ?_
        exact j1 _ g12 g11 g3 g1 t4 t3 a w (S.sub ⟨rfl, rfl, rfl, rfl, trivial⟩ (.cons .here (.cons .here (.cons .here (.cons (.there .here) .nil))))) h2
      exact h_nil
    refine h_runO S rfl trivial ?_ ?_
    · refine s_alloc S Z39 rfl ⟨rfl, trivial⟩ rfl ?_; clear S a; intro g11 a w S
      replace hw := CL.again hw S (.cons (.there .here) (.cons (.there .here) (.cons (.there .here) .nil))) le
      refine h_back ⟨fun _ => hw, ?_⟩
      refine h_alts ?_
      refine h_runO S rfl trivial ?_ ?_
      · refine s_callX S (ds' := [(.agg [.ints .u64 x2 4])]) (ds := [(.agg [.ints .u64 x2 4])]) [] [Res.cells g11 39 [.ints .u8 [0, 0, 0, 0, 0, 0, 0, 0, 0, 0, 0, 0, 0, 0, 0, 0, 0, 0, 0, 0, 0, 0, 0, 0, 0, 0, 0, 0, 0, 0, 0, 0] 32], Res.cells g3 23 [.ints .u8 [0, 0, 0, 0, 0, 0, 0, 0, 0, 0, 0, 0, 0, 0, 0, 0, 0, 0, 0, 0] 20], Res.cells g2 26 [.ints .u64 x2 4], Res.cells g1 23 [.ints .u8 x1 20]] (fun (ch : Unit) => ((.agg [.ints .u8 t4 32]) : D)) (fun (ch : Unit) => []) (fun (ch : Unit) => [Res.cells g11 39 [.ints .u8 [0, 0, 0, 0, 0, 0, 0, 0, 0, 0, 0, 0, 0, 0, 0, 0, 0, 0, 0, 0, 0, 0, 0, 0, 0, 0, 0, 0, 0, 0, 0, 0] 32], Res.cells g3 23 [.ints .u8 [0, 0, 0, 0, 0, 0, 0, 0, 0, 0, 0, 0, 0, 0, 0, 0, 0, 0, 0, 0] 20], Res.cells g2 26 [.ints .u64 x2 4], Res.cells g1 23 [.ints .u8 x1 20]]) (fun _ => rfl) N21 rfl rfl (fun ok => ok) (.cons .here (.cons .here (.cons .here (.cons .here .nil)))) rfl (word_Bytes.ok k x2 t4 et4 _ _) ?_; clear S a; intro ch4 m le1 a w S
        replace le := le.trans le1
        replace hw := CL.again hw S (.cons (.there .here) (.cons (.there .here) (.cons (.there .here) .nil))) le
        refine h_back ⟨fun _ => hw, ?_⟩
        refine h_run' S rfl trivial ?_
        refine s_alloc S Z40 rfl ⟨rfl, trivial⟩ rfl ?_; clear S a; intro g12 a w S
        replace hw := CL.again hw S (.cons (.there (.there .here)) (.cons (.there (.there .here)) (.cons (.there (.there .here)) .nil))) le
        refine h_back ⟨fun _ => hw, ?_⟩
        refine h_run' S rfl trivial ?_
        refine s_store S rfl rfl rfl (s' := [.ints .u8 t3 32]) .here T40 rfl rfl ?_; clear S; intro w S
        replace hw := CL.again hw S (.cons (.there (.there .here)) (.cons (.there (.there .here)) (.cons (.there (.there .here)) .nil))) le
        refine h_back ⟨fun _ => hw, ?_⟩
        refine h_run' S rfl trivial ?_
        refine s_store S rfl rfl rfl (s' := [.ints .u8 t4 32]) (.there .here) T39 rfl rfl ?_; clear S; intro w S
        refine h_back ⟨fun h => (nomatch h), ?_⟩
        refine h_done ?_; clear CL hw le
        refine x_thenN ?_
        exact j1 _ g11 g12 g3 g1 t4 t3 a w (S.sub ⟨rfl, rfl, rfl, rfl, trivial⟩ (.cons (.there .here) (.cons .here (.cons .here (.cons (.there .here) .nil))))) h2
      refine h_runO S rfl trivial ?_ ?_
      · refine s_alloc S Z40 rfl ⟨rfl, trivial⟩ rfl ?_; clear S a; intro g12 a w S
        replace hw := CL.again hw S (.cons (.there (.there .here)) (.cons (.there (.there .here)) (.cons (.there (.there .here)) .nil))) le
        refine h_back ⟨fun _ => hw, ?_⟩
        refine h_run' S rfl trivial ?_
        refine s_callX S (ds' := [(.agg [.ints .u64 x2 4])]) (ds := [(.agg [.ints .u64 x2 4])]) [] [Res.cells g12 40 [.ints .u8 [0, 0, 0, 0, 0, 0, 0, 0, 0, 0, 0, 0, 0, 0, 0, 0, 0, 0, 0, 0, 0, 0, 0, 0, 0, 0, 0, 0, 0, 0, 0, 0] 32], Res.cells g11 39 [.ints .u8 [0, 0, 0, 0, 0, 0, 0, 0, 0, 0, 0, 0, 0, 0, 0, 0, 0, 0, 0, 0, 0, 0, 0, 0, 0, 0, 0, 0, 0, 0, 0, 0] 32], Res.cells g3 23 [.ints .u8 [0, 0, 0, 0, 0, 0, 0, 0, 0, 0, 0, 0, 0, 0, 0, 0, 0, 0, 0, 0] 20], Res.cells g2 26 [.ints .u64 x2 4], Res.cells g1 23 [.ints .u8 x1 20]] (fun (ch : Unit) => ((.agg [.ints .u8 t4 32]) : D)) (fun (ch : Unit) => []) (fun (ch : Unit) => [Res.cells g12 40 [.ints .u8 [0, 0, 0, 0, 0, 0, 0, 0, 0, 0, 0, 0, 0, 0, 0, 0, 0, 0, 0, 0, 0, 0, 0, 0, 0, 0, 0, 0, 0, 0, 0, 0] 32], Res.cells g11 39 [.ints .u8 [0, 0, 0, 0, 0, 0, 0, 0, 0, 0, 0, 0, 0, 0, 0, 0, 0, 0, 0, 0, 0, 0, 0, 0, 0, 0, 0, 0, 0, 0, 0, 0] 32], Res.cells g3 23 [.ints .u8 [0, 0, 0, 0, 0, 0, 0, 0, 0, 0, 0, 0, 0, 0, 0, 0, 0, 0, 0, 0] 20], Res.cells g2 26 [.ints .u64 x2 4], Res.cells g1 23 [.ints .u8 x1 20]]) (fun _ => rfl) N21 rfl rfl (fun ok => ok) (.cons .here (.cons .here (.cons .here (.cons .here (.cons .here .nil))))) rfl (word_Bytes.ok k x2 t4 et4 _ _) ?_; clear S a; intro ch4 m le1 a w S
        replace le := le.trans le1
        replace hw := CL.again hw S (.cons (.there (.there .here)) (.cons (.there (.there .here)) (.cons (.there (.there .here)) .nil))) le
        refine h_back ⟨fun _ => hw, ?_⟩
        refine h_run' S rfl trivial ?_
        refine s_store S rfl rfl rfl (s' := [.ints .u8 t3 32]) .here T40 rfl rfl ?_; clear S; intro w S
        replace hw := CL.again hw S (.cons (.there (.there .here)) (.cons (.there (.there .here)) (.cons (.there (.there .here)) .nil))) le
        refine h_back ⟨fun _ => hw, ?_⟩
        refine h_run' S rfl trivial ?_
        refine s_store S rfl rfl rfl (s' := [.ints .u8 t4 32]) (.there .here) T39 rfl rfl ?_; clear S; intro w S
        refine h_back ⟨fun h => (nomatch h), ?_⟩
        refine h_done ?_; clear CL hw le
        refine x_thenN ?_
        exact j1 _ g11 g12 g3 g1 t4 t3 a w (S.sub ⟨rfl, rfl, rfl, rfl, trivial⟩ (.cons (.there .here) (.cons .here (.cons .here (.cons (.there .here) .nil))))) h2
      exact h_nil
    exact h_nil
  refine h_runO S rfl trivial ?_ ?_
  · refine s_alloc S Z40 rfl ⟨rfl, trivial⟩ rfl ?_; clear S a; intro g11 a w S
    replace hw := CL.again hw S (.cons (.there .here) (.cons (.there .here) (.cons (.there .here) .nil))) le
    refine h_back ⟨fun _ => hw, ?_⟩
    refine h_alts ?_
    refine h_runO S rfl trivial ?_ ?_
    · refine s_callX S (ds' := [(.sl ch_2_0 (x3).length ch_2_1 (RdS (Ty.int .u8) ch_2_0 x3))]) (ds := [(.sl ch_2_0 (x3).length ch_2_1 (RdS (Ty.int .u8) ch_2_0 x3))]) [] [Res.cells g11 40 [.ints .u8 [0, 0, 0, 0, 0, 0, 0, 0, 0, 0, 0, 0, 0, 0, 0, 0, 0, 0, 0, 0, 0, 0, 0, 0, 0, 0, 0, 0, 0, 0, 0, 0] 32], Res.cells g3 23 [.ints .u8 [0, 0, 0, 0, 0, 0, 0, 0, 0, 0, 0, 0, 0, 0, 0, 0, 0, 0, 0, 0] 20], Res.cells g2 26 [.ints .u64 x2 4], Res.cells g1 23 [.ints .u8 x1 20]] (fun (ch : Unit) => ((.agg [.ints .u8 t3 32]) : D)) (fun (ch : Unit) => []) (fun (ch : Unit) => [Res.cells g11 40 [.ints .u8 [0, 0, 0, 0, 0, 0, 0, 0, 0, 0, 0, 0, 0, 0, 0, 0, 0, 0, 0, 0, 0, 0, 0, 0, 0, 0, 0, 0, 0, 0, 0, 0] 32], Res.cells g3 23 [.ints .u8 [0, 0, 0, 0, 0, 0, 0, 0, 0, 0, 0, 0, 0, 0, 0, 0, 0, 0, 0, 0] 20], Res.cells g2 26 [.ints .u64 x2 4], Res.cells g1 23 [.ints .u8 x1 20]]) (fun _ => rfl) N20 rfl rfl (fun ok => ok) (.cons .here (.cons .here (.cons .here (.cons .here .nil)))) rfl (keccak_Sum.ok k x3 ch_2_0 ch_2_1 t3 et3 _ _ (G.mono (S.leB hb))) ?_; clear S a; intro ch3 m le1 a w S
      replace le := le.trans le1
      replace hw := CL.again hw S (.cons (.there .here) (.cons (.there .here) (.cons (.there .here) .nil))) le
      refine h_back ⟨fun _ => hw, ?_⟩
      refine h_alts ?_
      refine h_runO S rfl trivial ?_ ?_
      · refine s_callX S (ds' := [(.agg [.ints .u64 x2 4])]) (ds := [(.agg [.ints .u64 x2 4])]) [] [Res.cells g11 40 [.ints .u8 [0, 0, 0, 0, 0, 0, 0, 0, 0, 0, 0, 0, 0, 0, 0, 0, 0, 0, 0, 0, 0, 0, 0, 0, 0, 0, 0, 0, 0, 0, 0, 0] 32], Res.cells g3 23 [.ints .u8 [0, 0, 0, 0, 0, 0, 0, 0, 0, 0, 0, 0, 0, 0, 0, 0, 0, 0, 0, 0] 20], Res.cells g2 26 [.ints .u64 x2 4], Res.cells g1 23 [.ints .u8 x1 20]] (fun (ch : Unit) => ((.agg [.ints .u8 t4 32]) : D)) (fun (ch : Unit) => []) (fun (ch : Unit) => [Res.cells g11 40 [.ints .u8 [0, 0, 0, 0, 0, 0, 0, 0, 0, 0, 0, 0, 0, 0, 0, 0, 0, 0, 0, 0, 0, 0, 0, 0, 0, 0, 0, 0, 0, 0, 0, 0] 32], Res.cells g3 23 [.ints .u8 [0, 0, 0, 0, 0, 0, 0, 0, 0, 0, 0, 0, 0, 0, 0, 0, 0, 0, 0, 0] 20], Res.cells g2 26 [.ints .u64 x2 4], Res.cells g1 23 [.ints .u8 x1 20]]) (fun _ => rfl) N21 rfl rfl (fun ok => ok) (.cons .here (.cons .here (.cons .here (.cons .here .nil)))) rfl (word_Bytes.ok k x2 t4 et4 _ _) ?_; clear S a; intro ch4 m le1 a w S
        replace le := le.trans le1
        replace hw := CL.again hw S (.cons (.there .here) (.cons (.there .here) (.cons (.there .here) .nil))) le
        refine h_back ⟨fun _ => hw, ?_⟩
        refine h_run' S rfl trivial ?_
        refine s_alloc S Z39 rfl ⟨rfl, trivial⟩ rfl ?_; clear S a; intro g12 a w S
        replace hw := CL.again hw S (.cons (.there (.there .here)) (.cons (.there (.there .here)) (.cons (.there (.there .here)) .nil))) le
        refine h_back ⟨fun _ => hw, ?_⟩
        refine h_run' S rfl trivial ?_
        refine s_store S rfl rfl rfl (s' := [.ints .u8 t3 32]) (.there .here) T40 rfl rfl ?_; clear S; intro w S
        replace hw := CL.again hw S (.cons (.there (.there .here)) (.cons (.there (.there .here)) (.cons (.there (.there .here)) .nil))) le
        refine h_back ⟨fun _ => hw, ?_⟩
        refine h_run' S rfl trivial ?_
        refine s_store S rfl rfl rfl (s' := [.ints .u8 t4 32]) .here T39 rfl rfl ?_; clear S; intro w S
        refine h_back ⟨fun h => (nomatch h), ?_⟩
        refine h_done ?_; clear CL hw le
        refine x_thenN ?_
        exact j1 _ g12 g11 g3 g1 t4 t3 a w (S.sub ⟨rfl, rfl, rfl, rfl, trivial⟩ (.cons .here (.cons .here (.cons .here (.cons (.there .here) .nil))))) h2
      refine h_runO S rfl trivial ?_ ?_
      · refine s_alloc S Z39 rfl ⟨rfl, trivial⟩ rfl ?_; clear S a; intro g12 a w S
        replace hw := CL.again hw S (.cons (.there (.there .here)) (.cons (.there (.there .here)) (.cons (.there (.there .here)) .nil))) le
        refine h_back ⟨fun _ => hw, ?_⟩
        refine h_run' S rfl trivial ?_
        refine s_callX S (ds' := [(.agg [.ints .u64 x2 4])]) (ds := [(.agg [.ints .u64 x2 4])]) [] [Res.cells g12 39 [.ints .u8 [0, 0, 0, 0, 0, 0, 0, 0, 0, 0, 0, 0, 0, 0, 0, 0, 0, 0, 0, 0, 0, 0, 0, 0, 0, 0, 0, 0, 0, 0, 0, 0] 32], Res.cells g11 40 [.ints .u8 [0, 0, 0, 0, 0, 0, 0, 0, 0, 0, 0, 0, 0, 0, 0, 0, 0, 0, 0, 0, 0, 0, 0, 0, 0, 0, 0, 0, 0, 0, 0, 0] 32], Res.cells g3 23 [.ints .u8 [0, 0, 0, 0, 0, 0, 0, 0, 0, 0, 0, 0, 0, 0, 0, 0, 0, 0, 0, 0] 20], Res.cells g2 26 [.ints .u64 x2 4], Res.cells g1 23 [.ints .u8 x1 20]] (fun (ch : Unit) => ((.agg [.ints .u8 t4 32]) : D)) (fun (ch : Unit) => []) (fun (ch : Unit) => [Res.cells g12 39 [.ints .u8 [0, 0, 0, 0, 0, 0, 0, 0, 0, 0, 0, 0, 0, 0, 0, 0, 0, 0, 0, 0, 0, 0, 0, 0, 0, 0, 0, 0, 0, 0, 0, 0] 32], Res.cells g11 40 [.ints .u8 [0, 0, 0, 0, 0, 0, 0, 0, 0, 0, 0, 0, 0, 0, 0, 0, 0, 0, 0, 0, 0, 0, 0, 0, 0, 0, 0, 0, 0, 0, 0, 0] 32], Res.cells g3 23 [.ints .u8 [0, 0, 0, 0, 0, 0, 0, 0, 0, 0, 0, 0, 0, 0, 0, 0, 0, 0, 0, 0] 20], Res.cells g2 26 [.ints .u64 x2 4], Res.cells g1 23 [.ints .u8 x1 20]]) (fun _ => rfl) N21 rfl rfl (fun ok => ok) (.cons .here (.cons .here (.cons .here (.cons .here (.cons .here .nil))))) rfl (word_Bytes.ok k x2 t4 et4 _ _) ?_; clear S a; intro ch4 m le1 a w S
        replace le := le.trans le1
        replace hw := CL.again hw S (.cons (.there (.there .here)) (.cons (.there (.there .here)) (.cons (.there (.there .here)) .nil))) le
        refine h_back ⟨fun _ => hw, ?_⟩
        refine h_run' S rfl trivial ?_
        refine s_store S rfl rfl rfl (s' := [.ints .u8 t3 32]) (.there .here) T40 rfl rfl ?_; clear S; intro w S
        replace hw := CL.again hw S (.cons (.there (.there .here)) (.cons (.there (.there .here)) (.cons (.there (.there .here)) .nil))) le
        refine h_back ⟨fun _ => hw, ?_⟩
        refine h_run' S rfl trivial ?_
        refine s_store S rfl rfl rfl (s' := [.ints .u8 t4 32]) .here T39 rfl rfl ?_; clear S; intro w S
        refine h_back ⟨fun h => (nomatch h), ?_⟩
        refine h_done ?_; clear CL hw le
        refine x_thenN ?_
        exact j1 _ g12 g11 g3 g1 t4 t3 a w (S.sub ⟨rfl, rfl, rfl, rfl, trivial⟩ (.cons .here (.cons .here (.cons .here (.cons (.there .here) .nil))))) h2
      exact h_nil
    refine h_runO S rfl trivial ?_ ?_
    · refine s_alloc S Z39 rfl ⟨rfl, trivial⟩ rfl ?_; clear S a; intro g12 a w S
      replace hw := CL.again hw S (.cons (.there (.there .here)) (.cons (.there (.there .here)) (.cons (.there (.there .here)) .nil))) le
      refine h_back ⟨fun _ => hw, ?_⟩
      refine h_run' S rfl trivial ?_
      refine s_callX S (ds' := [(.sl ch_2_0 (x3).length ch_2_1 (RdS (Ty.int .u8) ch_2_0 x3))]) (ds := [(.sl ch_2_0 (x3).length ch_2_1 (RdS (Ty.int .u8) ch_2_0 x3))]) [] [Res.cells g12 39 [.ints .u8 [0, 0, 0, 0, 0, 0, 0, 0, 0, 0, 0, 0, 0, 0, 0, 0, 0, 0, 0, 0, 0, 0, 0, 0, 0, 0, 0, 0, 0, 0, 0, 0] 32], Res.cells g11 40 [.ints .u8 [0, 0, 0, 0, 0, 0, 0, 0, 0, 0, 0, 0, 0, 0, 0, 0, 0, 0, 0, 0, 0, 0, 0, 0, 0, 0, 0, 0, 0, 0, 0, 0] 32], Res.cells g3 23 [.ints .u8 [0, 0, 0, 0, 0, 0, 0, 0, 0, 0, 0, 0, 0, 0, 0, 0, 0, 0, 0, 0] 20], Res.cells g2 26 [.ints .u64 x2 4], Res.cells g1 23 [.ints .u8 x1 20]] (fun (ch : Unit) => ((.agg [.ints .u8 t3 32]) : D)) (fun (ch : Unit) => []) (fun (ch : Unit) => [Res.cells g12 39 [.ints .u8 [0, 0, 0, 0, 0, 0, 0, 0, 0, 0, 0, 0, 0, 0, 0, 0, 0, 0, 0, 0, 0, 0, 0, 0, 0, 0, 0, 0, 0, 0, 0, 0] 32], Res.cells g11 40 [.ints .u8 [0, 0, 0, 0, 0, 0, 0, 0, 0, 0, 0, 0, 0, 0, 0, 0, 0, 0, 0, 0, 0, 0, 0, 0, 0, 0, 0, 0, 0, 0, 0, 0] 32], Res.cells g3 23 [.ints .u8 [0, 0, 0, 0, 0, 0, 0, 0, 0, 0, 0, 0, 0, 0, 0, 0, 0, 0, 0, 0] 20], Res.cells g2 26 [.ints .u64 x2 4], Res.cells g1 23 [.ints .u8 x1 20]]) (fun _ => rfl) N20 rfl rfl (fun ok => ok) (.cons .here (.cons .here (.cons .here (.cons .here (.cons .here .nil))))) rfl (keccak_Sum.ok k x3 ch_2_0 ch_2_1 t3 et3 _ _ (G.mono (S.leB hb))) ?_; clear S a; intro ch3 m le1 a w S
      replace le := le.trans le1
      replace hw := CL.again hw S (.cons (.there (.there .here)) (.cons (.there (.there .here)) (.cons (.there (.there .here)) .nil))) le
      refine h_back ⟨fun _ => hw, ?_⟩
      refine h_run' S rfl trivial ?_
      refine s_callX S (ds' := [(.agg [.ints .u64 x2 4])]) (ds := [(.agg [.ints .u64 x2 4])]) [] [Res.cells g12 39 [.ints .u8 [0, 0, 0, 0, 0, 0, 0, 0, 0, 0, 0, 0, 0, 0, 0, 0, 0, 0, 0, 0, 0, 0, 0, 0, 0, 0, 0, 0, 0, 0, 0, 0] 32], Res.cells g11 40 [.ints .u8 [0, 0, 0, 0, 0, 0, 0, 0, 0, 0, 0, 0, 0, 0, 0, 0, 0, 0, 0, 0, 0, 0, 0, 0, 0, 0, 0, 0, 0, 0, 0, 0] 32], Res.cells g3 23 [.ints .u8 [0, 0, 0, 0, 0, 0, 0, 0, 0, 0, 0, 0, 0, 0, 0, 0, 0, 0, 0, 0] 20], Res.cells g2 26 [.ints .u64 x2 4], Res.cells g1 23 [.ints .u8 x1 20]] (fun (ch : Unit) => ((.agg [.ints .u8 t4 32]) : D)) (fun (ch : Unit) => []) (fun (ch : Unit) => [Res.cells g12 39 [.ints .u8 [0, 0, 0, 0, 0, 0, 0, 0, 0, 0, 0, 0, 0, 0, 0, 0, 0, 0, 0, 0, 0, 0, 0, 0, 0, 0, 0, 0, 0, 0, 0, 0] 32], Res.cells g11 40 [.ints .u8 [0, 0, 0, 0, 0, 0, 0, 0, 0, 0, 0, 0, 0, 0, 0, 0, 0, 0, 0, 0, 0, 0, 0, 0, 0, 0, 0, 0, 0, 0, 0, 0] 32], Res.cells g3 23 [.ints .u8 [0, 0, 0, 0, 0, 0, 0, 0, 0, 0, 0, 0, 0, 0, 0, 0, 0, 0, 0, 0] 20], Res.cells g2 26 [.ints .u64 x2 4], Res.cells g1 23 [.ints .u8 x1 20]]) (fun _ => rfl) N21 rfl rfl (fun ok => ok) (.cons .here (.cons .here (.cons .here (.cons .here (.cons .here .nil))))) rfl (word_Bytes.ok k x2 t4 et4 _ _) ?_; clear S a; intro ch4 m le1 a w S
      replace le := le.trans le1
      replace hw := CL.again hw S (.cons (.there (.there .here)) (.cons (.there (.there .here)) (.cons (.there (.there .here)) .nil))) le
      refine h_back ⟨fun _ => hw, ?_⟩
      refine h_run' S rfl trivial ?_
      refine s_store S rfl rfl rfl (s' := [.ints .u8 t3 32]) (.there .here) T40 rfl rfl ?_; clear S; intro w S
      replace hw := CL.again hw S (.cons (.there (.there .here)) (.cons (.there (.there .here)) (.cons (.there (.there .here)) .nil))) le
      refine h_back ⟨fun _ => hw, ?_⟩
      refine h_run' S rfl trivial ?_
      refine s_store S rfl rfl rfl (s' := [.ints .u8 t4 32]) .here T39 rfl rfl ?_; clear S; intro w S
      refine h_back ⟨fun h => (nomatch h), ?_⟩
      refine h_done ?_; clear CL hw le
      refine x_thenN ?_
      exact j1 _ g12 g11 g3 g1 t4 t3 a w (S.sub ⟨rfl, rfl, rfl, rfl, trivial⟩ (.cons .here (.cons .here (.cons .here (.cons (.there .here) .nil))))) h2
    exact h_nil
  refine h_runO S rfl trivial ?_ ?_
  · refine s_alloc S Z39 rfl ⟨rfl, trivial⟩ rfl ?_; clear S a; intro g11 a w S
    replace hw := CL.again hw S (.cons (.there .here) (.cons (.there .here) (.cons (.there .here) .nil))) le
    refine h_back ⟨fun _ => hw, ?_⟩
    refine h_alts ?_
    refine h_runO S rfl trivial ?_ ?_
    · refine s_callX S (ds' := [(.sl ch_2_0 (x3).length ch_2_1 (RdS (Ty.int .u8) ch_2_0 x3))]) (ds := [(.sl ch_2_0 (x3).length ch_2_1 (RdS (Ty.int .u8) ch_2_0 x3))]) [] [Res.cells g11 39 [.ints .u8 [0, 0, 0, 0, 0, 0, 0, 0, 0, 0, 0, 0, 0, 0, 0, 0, 0, 0, 0, 0, 0, 0, 0, 0, 0, 0, 0, 0, 0, 0, 0, 0] 32], Res.cells g3 23 [.ints .u8 [0, 0, 0, 0, 0, 0, 0, 0, 0, 0, 0, 0, 0, 0, 0, 0, 0, 0, 0, 0] 20], Res.cells g2 26 [.ints .u64 x2 4], Res.cells g1 23 [.ints .u8 x1 20]] (fun (ch : Unit) => ((.agg [.ints .u8 t3 32]) : D)) (fun (ch : Unit) => []) (fun (ch : Unit) => [Res.cells g11 39 [.ints .u8 [0, 0, 0, 0, 0, 0, 0, 0, 0, 0, 0, 0, 0, 0, 0, 0, 0, 0, 0, 0, 0, 0, 0, 0, 0, 0, 0, 0, 0, 0, 0, 0] 32], Res.cells g3 23 [.ints .u8 [0, 0, 0, 0, 0, 0, 0, 0, 0, 0, 0, 0, 0, 0, 0, 0, 0, 0, 0, 0] 20], Res.cells g2 26 [.ints .u64 x2 4], Res.cells g1 23 [.ints .u8 x1 20]]) (fun _ => rfl) N20 rfl rfl (fun ok => ok) (.cons .here (.cons .here (.cons .here (.cons .here .nil)))) rfl (keccak_Sum.ok k x3 ch_2_0 ch_2_1 t3 et3 _ _ (G.mono (S.leB hb))) ?_; clear S a; intro ch3 m le1 a w S
      replace le := le.trans le1
      replace hw := CL.again hw S (.cons (.there .here) (.cons (.there .here) (.cons (.there .here) .nil))) le
      refine h_back ⟨fun _ => hw, ?_⟩
      refine h_alts ?_
      refine h_runO S rfl trivial ?_ ?_
      · refine s_callX S (ds' := [(.agg [.ints .u64 x2 4])]) (ds := [(.agg [.ints .u64 x2 4])]) [] [Res.cells g11 39 [.ints .u8 [0, 0, 0, 0, 0, 0, 0, 0, 0, 0, 0, 0, 0, 0, 0, 0, 0, 0, 0, 0, 0, 0, 0, 0, 0, 0, 0, 0, 0, 0, 0, 0] 32], Res.cells g3 23 [.ints .u8 [0, 0, 0, 0, 0, 0, 0, 0, 0, 0, 0, 0, 0, 0, 0, 0, 0, 0, 0, 0] 20], Res.cells g2 26 [.ints .u64 x2 4], Res.cells g1 23 [.ints .u8 x1 20]] (fun (ch : Unit) => ((.agg [.ints .u8 t4 32]) : D)) (fun (ch : Unit) => []) (fun (ch : Unit) => [Res.cells g11 39 [.ints .u8 [0, 0, 0, 0, 0, 0, 0, 0, 0, 0, 0, 0, 0, 0, 0, 0, 0, 0, 0, 0, 0, 0, 0, 0, 0, 0, 0, 0, 0, 0, 0, 0] 32], Res.cells g3 23 [.ints .u8 [0, 0, 0, 0, 0, 0, 0, 0, 0, 0, 0, 0, 0, 0, 0, 0, 0, 0, 0, 0] 20], Res.cells g2 26 [.ints .u64 x2 4], Res.cells g1 23 [.ints .u8 x1 20]]) (fun _ => rfl) N21 rfl rfl (fun ok => ok) (.cons .here (.cons .here (.cons .here (.cons .here .nil)))) rfl (word_Bytes.ok k x2 t4 et4 _ _) ?_; clear S a; intro ch4 m le1 a w S
        replace le := le.trans le1
        replace hw := CL.again hw S (.cons (.there .here) (.cons (.there .here) (.cons (.there .here) .nil))) le
        refine h_back ⟨fun _ => hw, ?_⟩
        refine h_run' S rfl trivial ?_
        refine s_alloc S Z40 rfl ⟨rfl, trivial⟩ rfl ?_; clear S a; intro g12 a w S
        replace hw := CL.again hw S (.cons (.there (.there .here)) (.cons (.there (.there .here)) (.cons (.there (.there .here)) .nil))) le
        refine h_back ⟨fun _ => hw, ?_⟩
        refine h_run' S rfl trivial ?_
        refine s_store S rfl rfl rfl (s' := [.ints .u8 t3 32]) .here T40 rfl rfl ?_; clear S; intro w S
        replace hw := CL.again hw S (.cons (.there (.there .here)) (.cons (.there (.there .here)) (.cons (.there (.there .here)) .nil))) le
        refine h_back ⟨fun _ => hw, ?_⟩
        refine h_run' S rfl trivial ?_
        refine s_store S rfl rfl rfl (s' := [.ints .u8 t4 32]) (.there .here) T39 rfl rfl ?_; clear S; intro w S
        refine h_back ⟨fun h => (nomatch h), ?_⟩
        refine h_done ?_; clear CL hw le
        refine x_thenN ?_
        exact j1 _ g11 g12 g3 g1 t4 t3 a w (S.sub ⟨rfl, rfl, rfl, rfl, trivial⟩ (.cons (.there .here) (.cons .here (.cons .here (.cons (.there .here) .nil))))) h2
      refine h_runO S rfl trivial ?_ ?_
      · refine s_alloc S Z40 rfl ⟨rfl, trivial⟩ rfl ?_; clear S a; intro g12 a w S
        replace hw := CL.again hw S (.cons (.there (.there .here)) (.cons (.there (.there .here)) (.cons (.there (.there .here)) .nil))) le
        refine h_back ⟨fun _ => hw, ?_⟩
        refine h_run' S rfl trivial ?_
        refine s_callX S (ds' := [(.agg [.ints .u64 x2 4])]) (ds := [(.agg [.ints .u64 x2 4])]) [] [Res.cells g12 40 [.ints .u8 [0, 0, 0, 0, 0, 0, 0, 0, 0, 0, 0, 0, 0, 0, 0, 0, 0, 0, 0, 0, 0, 0, 0, 0, 0, 0, 0, 0, 0, 0, 0, 0] 32], Res.cells g11 39 [.ints .u8 [0, 0, 0, 0, 0, 0, 0, 0, 0, 0, 0, 0, 0, 0, 0, 0, 0, 0, 0, 0, 0, 0, 0, 0, 0, 0, 0, 0, 0, 0, 0, 0] 32], Res.cells g3 23 [.ints .u8 [0, 0, 0, 0, 0, 0, 0, 0, 0, 0, 0, 0, 0, 0, 0, 0, 0, 0, 0, 0] 20], Res.cells g2 26 [.ints .u64 x2 4], Res.cells g1 23 [.ints .u8 x1 20]] (fun (ch : Unit) => ((.agg [.ints .u8 t4 32]) : D)) (fun (ch : Unit) => []) (fun (ch : Unit) => [Res.cells g12 40 [.ints .u8 [0, 0, 0, 0, 0, 0, 0, 0, 0, 0, 0, 0, 0, 0, 0, 0, 0, 0, 0, 0, 0, 0, 0, 0, 0, 0, 0, 0, 0, 0, 0, 0] 32], Res.cells g11 39 [.ints .u8 [0, 0, 0, 0, 0, 0, 0, 0, 0, 0, 0, 0, 0, 0, 0, 0, 0, 0, 0, 0, 0, 0, 0, 0, 0, 0, 0, 0, 0, 0, 0, 0] 32], Res.cells g3 23 [.ints .u8 [0, 0, 0, 0, 0, 0, 0, 0, 0, 0, 0, 0, 0, 0, 0, 0, 0, 0, 0, 0] 20], Res.cells g2 26 [.ints .u64 x2 4], Res.cells g1 23 [.ints .u8 x1 20]]) (fun _ => rfl) N21 rfl rfl (fun ok => ok) (.cons .here (.cons .here (.cons .here (.cons .here (.cons .here .nil))))) rfl (word_Bytes.ok k x2 t4 et4 _ _) ?_; clear S a; intro ch4 m le1 a w S
        replace le := le.trans le1
        replace hw := CL.again hw S (.cons (.there (.there .here)) (.cons (.there (.there .here)) (.cons (.there (.there .here)) .nil))) le
        refine h_back ⟨fun _ => hw, ?_⟩
        refine h_run' S rfl trivial ?_
        refine s_store S rfl rfl rfl (s' := [.ints .u8 t3 32]) .here T40 rfl rfl ?_; clear S; intro w S
        replace hw := CL.again hw S (.cons (.there (.there .here)) (.cons (.there (.there .here)) (.cons (.there (.there .here)) .nil))) le
        refine h_back ⟨fun _ => hw, ?_⟩
        refine h_run' S rfl trivial ?_
        refine s_store S rfl rfl rfl (s' := [.ints .u8 t4 32]) (.there .here) T39 rfl rfl ?_; clear S; intro w S
        refine h_back ⟨fun h => (nomatch h), ?_⟩
        refine h_done ?_; clear CL hw le
        refine x_thenN ?_
        exact j1 _ g11 g12 g3 g1 t4 t3 a w (S.sub ⟨rfl, rfl, rfl, rfl, trivial⟩ (.cons (.there .here) (.cons .here (.cons .here (.cons (.there .here) .nil))))) h2
      exact h_nil
    refine h_runO S rfl trivial ?_ ?_
    · refine s_alloc S Z40 rfl ⟨rfl, trivial⟩ rfl ?_; clear S a; intro g12 a w S
      replace hw := CL.again hw S (.cons (.there (.there .here)) (.cons (.there (.there .here)) (.cons (.there (.there .here)) .nil))) le
      refine h_back ⟨fun _ => hw, ?_⟩
      refine h_run' S rfl trivial ?_
      refine s_callX S (ds' := [(.sl ch_2_0 (x3).length ch_2_1 (RdS (Ty.int .u8) ch_2_0 x3))]) (ds := [(.sl ch_2_0 (x3).length ch_2_1 (RdS (Ty.int .u8) ch_2_0 x3))]) [] [Res.cells g12 40 [.ints .u8 [0, 0, 0, 0, 0, 0, 0, 0, 0, 0, 0, 0, 0, 0, 0, 0, 0, 0, 0, 0, 0, 0, 0, 0, 0, 0, 0, 0, 0, 0, 0, 0] 32], Res.cells g11 39 [.ints .u8 [0, 0, 0, 0, 0, 0, 0, 0, 0, 0, 0, 0, 0, 0, 0, 0, 0, 0, 0, 0, 0, 0, 0, 0, 0, 0, 0, 0, 0, 0, 0, 0] 32], Res.cells g3 23 [.ints .u8 [0, 0, 0, 0, 0, 0, 0, 0, 0, 0, 0, 0, 0, 0, 0, 0, 0, 0, 0, 0] 20], Res.cells g2 26 [.ints .u64 x2 4], Res.cells g1 23 [.ints .u8 x1 20]] (fun (ch : Unit) => ((.agg [.ints .u8 t3 32]) : D)) (fun (ch : Unit) => []) (fun (ch : Unit) => [Res.cells g12 40 [.ints .u8 [0, 0, 0, 0, 0, 0, 0, 0, 0, 0, 0, 0, 0, 0, 0, 0, 0, 0, 0, 0, 0, 0, 0, 0, 0, 0, 0, 0, 0, 0, 0, 0] 32], Res.cells g11 39 [.ints .u8 [0, 0, 0, 0, 0, 0, 0, 0, 0, 0, 0, 0, 0, 0, 0, 0, 0, 0, 0, 0, 0, 0, 0, 0, 0, 0, 0, 0, 0, 0, 0, 0] 32], Res.cells g3 23 [.ints .u8 [0, 0, 0, 0, 0, 0, 0, 0, 0, 0, 0, 0, 0, 0, 0, 0, 0, 0, 0, 0] 20], Res.cells g2 26 [.ints .u64 x2 4], Res.cells g1 23 [.ints .u8 x1 20]]) (fun _ => rfl) N20 rfl rfl (fun ok => ok) (.cons .here (.cons .here (.cons .here (.cons .here (.cons .here .nil))))) rfl (keccak_Sum.ok k x3 ch_2_0 ch_2_1 t3 et3 _ _ (G.mono (S.leB hb))) ?_; clear S a; intro ch3 m le1 a w S
      replace le := le.trans le1
      replace hw := CL.again hw S (.cons (.there (.there .here)) (.cons (.there (.there .here)) (.cons (.there (.there .here)) .nil))) le
      refine h_back ⟨fun _ => hw, ?_⟩
      refine h_run' S rfl trivial ?_
      refine s_callX S (ds' := [(.agg [.ints .u64 x2 4])]) (ds := [(.agg [.ints .u64 x2 4])]) [] [Res.cells g12 40 [.ints .u8 [0, 0, 0, 0, 0, 0, 0, 0, 0, 0, 0, 0, 0, 0, 0, 0, 0, 0, 0, 0, 0, 0, 0, 0, 0, 0, 0, 0, 0, 0, 0, 0] 32], Res.cells g11 39 [.ints .u8 [0, 0, 0, 0, 0, 0, 0, 0, 0, 0, 0, 0, 0, 0, 0, 0, 0, 0, 0, 0, 0, 0, 0, 0, 0, 0, 0, 0, 0, 0, 0, 0] 32], Res.cells g3 23 [.ints .u8 [0, 0, 0, 0, 0, 0, 0, 0, 0, 0, 0, 0, 0, 0, 0, 0, 0, 0, 0, 0] 20], Res.cells g2 26 [.ints .u64 x2 4], Res.cells g1 23 [.ints .u8 x1 20]] (fun (ch : Unit) => ((.agg [.ints .u8 t4 32]) : D)) (fun (ch : Unit) => []) (fun (ch : Unit) => [Res.cells g12 40 [.ints .u8 [0, 0, 0, 0, 0, 0, 0, 0, 0, 0, 0, 0, 0, 0, 0, 0, 0, 0, 0, 0, 0, 0, 0, 0, 0, 0, 0, 0, 0, 0, 0, 0] 32], Res.cells g11 39 [.ints .u8 [0, 0, 0, 0, 0, 0, 0, 0, 0, 0, 0, 0, 0, 0, 0, 0, 0, 0, 0, 0, 0, 0, 0, 0, 0, 0, 0, 0, 0, 0, 0, 0] 32], Res.cells g3 23 [.ints .u8 [0, 0, 0, 0, 0, 0, 0, 0, 0, 0, 0, 0, 0, 0, 0, 0, 0, 0, 0, 0] 20], Res.cells g2 26 [.ints .u64 x2 4], Res.cells g1 23 [.ints .u8 x1 20]]) (fun _ => rfl) N21 rfl rfl (fun ok => ok) (.cons .here (.cons .here (.cons .here (.cons .here (.cons .here .nil))))) rfl (word_Bytes.ok k x2 t4 et4 _ _) ?_; clear S a; intro ch4 m le1 a w S
      replace le := le.trans le1
      replace hw := CL.again hw S (.cons (.there (.there .here)) (.cons (.there (.there .here)) (.cons (.there (.there .here)) .nil))) le
      refine h_back ⟨fun _ => hw, ?_⟩
      refine h_run' S rfl trivial ?_
      refine s_store S rfl rfl rfl (s' := [.ints .u8 t3 32]) .here T40 rfl rfl ?_; clear S; intro w S
      replace hw := CL.again hw S (.cons (.there (.there .here)) (.cons (.there (.there .here)) (.cons (.there (.there .here)) .nil))) le
      refine h_back ⟨fun _ => hw, ?_⟩
      refine h_run' S rfl trivial ?_
      refine s_store S rfl rfl rfl (s' := [.ints .u8 t4 32]) (.there .here) T39 rfl rfl ?_; clear S; intro w S
      refine h_back ⟨fun h => (nomatch h), ?_⟩
      refine h_done ?_; clear CL hw le
      refine x_thenN ?_
      exact j1 _ g11 g12 g3 g1 t4 t3 a w (S.sub ⟨rfl, rfl, rfl, rfl, trivial⟩ (.cons (.there .here) (.cons .here (.cons .here (.cons (.there .here) .nil))))) h2
    exact h_nil
  exact h_nil
/-! smithy/smithylaw08.fixed -/
abbrev smithylaw08_fixed.Ty : Type := Option Bool
def smithylaw08_fixed.Ctr (s : smithylaw08_fixed.Ty) : Prop := ∀ (r : Bool) (h0 : s = some r) (mi : Mem) (w0 : World) (G : Glob mi), okL mi [] → Pre mi [] w0 → Calls Tryd.prog 7 (([] : List D).map D.val).toArray w0 (RetX mi [] (fun (ch : Unit) => ((.v (.bool r)) : D)) (fun (ch : Unit) => []) w0)
def smithylaw08_fixed.f (k : Nat) : Option Bool := (addr_Create2.f k [0, 0, 0, 0, 0, 0, 0, 0, 0, 0, 0, 0, 0, 0, 0, 0, 0, 0, 0, 0] [0, 0, 0, 0] [0]).bind fun t1 => (if ((rd t1 0) == 77) = true then (if ((rd t1 1) == 26) = true then (if ((rd t1 18) == 191) = true then (some ((rd t1 19) == 56)) else (some false)) else (some false)) else (some false))
theorem smithylaw08_fixed.ok (k : Nat) : smithylaw08_fixed.Ctr (smithylaw08_fixed.f k) := by
  intro r h0 mi w0 G ok hm
  delta smithylaw08_fixed.f at h0
  refine c_enterX (n := 24) [] (l := []) Tryd.func7 rfl rfl rfl rfl ok hm ?_
  clear ok hm
  intro b0 hb a S
  refine c_region ?_
  refine s_assign S rfl rfl ?_; clear S a; intro a S
  refine c_end ?_
  refine c_region ?_
  refine s_build S (ds := []) (dv := (.agg [.ints .u8 [0, 0, 0, 0, 0, 0, 0, 0, 0, 0, 0, 0, 0, 0, 0, 0, 0, 0, 0, 0] 20])) rfl (fun _ => by kernel_rfl) ⟨rfl, trivial⟩ rfl ?_; clear S a; intro a S
  refine s_build S (ds := []) (dv := (.agg [.ints .u64 [0, 0, 0, 0] 4])) rfl (fun _ => by kernel_rfl) ⟨rfl, trivial⟩ rfl ?_; clear S a; intro a S
  refine s_bldSl S (ty' := (Ty.int .u8)) (ds := [(0, (.v (.int .u8 0)))]) (z := 0) (c0 := ()) (ys := [0]) (cs := [()]) rfl Tryd.underlying27 J5 Z5 rfl ⟨rfl, trivial⟩ rfl rfl rfl rfl rfl rfl ?_; clear S a; intro g1 a w S
  replace S := S.rowfro .here
  obtain ⟨m, le1, S, hro⟩ := S
  replace S := S.slotro (u := 4) rfl hro
  obtain ⟨t1, et1, h1⟩ := bind_of h0; clear h0
  refine s_callX S (ds' := [(.agg [.ints .u8 [0, 0, 0, 0, 0, 0, 0, 0, 0, 0, 0, 0, 0, 0, 0, 0, 0, 0, 0, 0] 20]), (.agg [.ints .u64 [0, 0, 0, 0] 4]), (.sl (some ⟨g1, 0, none⟩) ([0]).length 1 (RdS (Ty.int .u8) (some ⟨g1, 0, none⟩) [0]))]) (ds := [(.agg [.ints .u8 [0, 0, 0, 0, 0, 0, 0, 0, 0, 0, 0, 0, 0, 0, 0, 0, 0, 0, 0, 0] 20]), (.agg [.ints .u64 [0, 0, 0, 0] 4]), (.sl (some ⟨g1, 0, none⟩) ([0]).length 1 (RdS (Ty.int .u8) (some ⟨g1, 0, none⟩) [0]))]) [] [] (fun (ch : Unit) => ((.agg [.ints .u8 t1 20]) : D)) (fun (ch : Unit) => []) (fun (ch : Unit) => []) (fun _ => rfl) N8 rfl rfl (fun ok => ok) .nil rfl (addr_Create2.ok k [0, 0, 0, 0, 0, 0, 0, 0, 0, 0, 0, 0, 0, 0, 0, 0, 0, 0, 0, 0] [0, 0, 0, 0] [0] (some ⟨g1, 0, none⟩) 1 t1 et1 _ _ (G.mono (S.leB hb))) ?_; clear S a w; intro ch1 m le1 a w S
  refine s_alloc S Z23 rfl ⟨rfl, trivial⟩ rfl ?_; clear S a w; intro g2 a w S
  refine s_store S rfl rfl rfl (s' := [.ints .u8 t1 20]) .here T23 rfl rfl ?_; clear S w; intro w S
  refine c_end ?_
  refine c_region ?_
  refine s_iaddr S (o' := 0) rfl rfl Tryd.underlying23 T5 (by decide) (by decide) rfl rfl ?_; clear S a; intro a S
  refine s_loadi S (i := 0) rfl .here T5 .here rfl (by decide) (by decide) rfl ?_; clear S a; intro a S
  refine s_bin S rfl rfl rfl rfl ?_; clear S a; intro a S
  refine s_move S rfl rfl ?_; clear S a; intro a S
  rcases ite_of h1 with ⟨c1, h2⟩ | ⟨c1, h2⟩ <;> clear h1
  · refine s_gT S (b := ((rd t1 0) == 77)) rfl rfl c1 ?_
    refine s_iaddr S (o' := 1) rfl rfl Tryd.underlying23 T5 (by decide) (by decide) rfl rfl ?_; clear S a; intro a S
    refine s_gT S (b := ((rd t1 0) == 77)) rfl rfl c1 ?_
    refine s_loadi S (i := 1) rfl .here T5 .here rfl (by decide) (by decide) rfl ?_; clear S a; intro a S
    refine s_gT S (b := ((rd t1 0) == 77)) rfl rfl c1 ?_
    refine s_bin S rfl rfl rfl rfl ?_; clear S a; intro a S
    refine s_pick S (b := true) (hc_of rfl c1) rfl rfl ?_; clear S a; intro a S
    refine s_move S rfl rfl ?_; clear S a; intro a S
    rcases ite_of h2 with ⟨c2, h3⟩ | ⟨c2, h3⟩ <;> clear h2
    · refine s_gT S (b := ((rd t1 1) == 26)) rfl rfl c2 ?_
      refine s_iaddr S (o' := 18) rfl rfl Tryd.underlying23 T5 (by decide) (by decide) rfl rfl ?_; clear S a; intro a S
      refine s_gT S (b := ((rd t1 1) == 26)) rfl rfl c2 ?_
      refine s_loadi S (i := 18) rfl .here T5 .here rfl (by decide) (by decide) rfl ?_; clear S a; intro a S
      refine s_gT S (b := ((rd t1 1) == 26)) rfl rfl c2 ?_
      refine s_bin S rfl rfl rfl rfl ?_; clear S a; intro a S
      refine s_pick S (b := true) (hc_of rfl c2) rfl rfl ?_; clear S a; intro a S
      refine s_move S rfl rfl ?_; clear S a; intro a S
      rcases ite_of h3 with ⟨c3, h4⟩ | ⟨c3, h4⟩ <;> clear h3
      · refine s_gT S (b := ((rd t1 18) == 191)) rfl rfl c3 ?_
        refine s_iaddr S (o' := 19) rfl rfl Tryd.underlying23 T5 (by decide) (by decide) rfl rfl ?_; clear S a; intro a S
        refine s_gT S (b := ((rd t1 18) == 191)) rfl rfl c3 ?_
        refine s_loadi S (i := 19) rfl .here T5 .here rfl (by decide) (by decide) rfl ?_; clear S a; intro a S
        refine s_gT S (b := ((rd t1 18) == 191)) rfl rfl c3 ?_
        refine s_bin S rfl rfl rfl rfl ?_; clear S a; intro a S
        refine s_pick S (b := true) (hc_of rfl c3) rfl rfl ?_; clear S a; intro a S
        refine s_assign S rfl rfl ?_; clear S a; intro a S
        refine c_end ?_
        refine wp_ret ?_
        obtain rfl := Option.some.inj h4
        exact b_ret1 (d := (.v (.bool ((rd t1 19) == 56)))) S rfl rfl fun ok => S.retX (Hx := []) hb _ _ (() : Unit) .nil ok
      · refine s_gF S (b := ((rd t1 18) == 191)) rfl rfl c3 rfl ?_; clear S a; intro a S
        refine s_gF S (b := ((rd t1 18) == 191)) rfl rfl c3 rfl ?_; clear S a; intro a S
        refine s_gF S (b := ((rd t1 18) == 191)) rfl rfl c3 rfl ?_; clear S a; intro a S
        refine s_pick S (b := false) (hc_of rfl c3) rfl rfl ?_; clear S a; intro a S
        refine s_assign S rfl rfl ?_; clear S a; intro a S
        refine c_end ?_
        refine wp_ret ?_
        obtain rfl := Option.some.inj h4
        exact b_ret1 (d := (.v (.bool false))) S rfl rfl fun ok => S.retX (Hx := []) hb _ _ (() : Unit) .nil ok
    · refine s_gF S (b := ((rd t1 1) == 26)) rfl rfl c2 rfl ?_; clear S a; intro a S
      refine s_gF S (b := ((rd t1 1) == 26)) rfl rfl c2 rfl ?_; clear S a; intro a S
      refine s_gF S (b := ((rd t1 1) == 26)) rfl rfl c2 rfl ?_; clear S a; intro a S
      refine s_pick S (b := false) (hc_of rfl c2) rfl rfl ?_; clear S a; intro a S
      refine s_move S rfl rfl ?_; clear S a; intro a S
      refine s_gF S (b := false) rfl rfl rfl rfl ?_; clear S a; intro a S
      refine s_gF S (b := false) rfl rfl rfl rfl ?_; clear S a; intro a S
      refine s_gF S (b := false) rfl rfl rfl rfl ?_; clear S a; intro a S
      refine s_pick S (b := false) (hc_of rfl rfl) rfl rfl ?_; clear S a; intro a S
      refine s_assign S rfl rfl ?_; clear S a; intro a S
      refine c_end ?_
      refine wp_ret ?_
      obtain rfl := Option.some.inj h3
      exact b_ret1 (d := (.v (.bool false))) S rfl rfl fun ok => S.retX (Hx := []) hb _ _ (() : Unit) .nil ok
  · refine s_gF S (b := ((rd t1 0) == 77)) rfl rfl c1 rfl ?_; clear S a; intro a S
    refine s_gF S (b := ((rd t1 0) == 77)) rfl rfl c1 rfl ?_; clear S a; intro a S
    refine s_gF S (b := ((rd t1 0) == 77)) rfl rfl c1 rfl ?_; clear S a; intro a S
    refine s_pick S (b := false) (hc_of rfl c1) rfl rfl ?_; clear S a; intro a S
    refine s_move S rfl rfl ?_; clear S a; intro a S
    refine s_gF S (b := false) rfl rfl rfl rfl ?_; clear S a; intro a S
    refine s_gF S (b := false) rfl rfl rfl rfl ?_; clear S a; intro a S
    refine s_gF S (b := false) rfl rfl rfl rfl ?_; clear S a; intro a S
    refine s_pick S (b := false) (hc_of rfl rfl) rfl rfl ?_; clear S a; intro a S
    refine s_move S rfl rfl ?_; clear S a; intro a S
    refine s_gF S (b := false) rfl rfl rfl rfl ?_; clear S a; intro a S
    refine s_gF S (b := false) rfl rfl rfl rfl ?_; clear S a; intro a S
    refine s_gF S (b := false) rfl rfl rfl rfl ?_; clear S a; intro a S
    refine s_pick S (b := false) (hc_of rfl rfl) rfl rfl ?_; clear S a; intro a S
    refine s_assign S rfl rfl ?_; clear S a; intro a S
    refine c_end ?_
    refine wp_ret ?_
    obtain rfl := Option.some.inj h2
    exact b_ret1 (d := (.v (.bool false))) S rfl rfl fun ok => S.retX (Hx := []) hb _ _ (() : Unit) .nil ok
end GW
