/-
  Printed by a program of these sessions (wip/gw/gw.py): for each Go function a Lean function with the same answers, and the walk that shows it.
-/
import Derived.Test.YtomjijlopdcojaaDoorProg
import Derived.Test.YtomjijlopdcojaaDoorGWLQui
set_option linter.unusedVariables false
set_option maxRecDepth 10000
namespace GW
open Go Go.RowKit Go.Proofs
def tbl_keccak_constants : List Int := [1, 32898, 9223372036854808714, 9223372039002292224, 32907, 2147483649, 9223372039002292353, 9223372036854808585, 138, 136, 2147516425, 2147483658, 2147516555, 9223372036854775947, 9223372036854808713, 9223372036854808579, 9223372036854808578, 9223372036854775936, 32778, 9223372039002259466, 9223372039002292353, 9223372036854808704, 2147483649, 9223372039002292232]
def tbl_keccak_places : List Int := [10, 7, 11, 17, 18, 3, 5, 16, 8, 21, 24, 4, 15, 23, 19, 13, 12, 2, 20, 14, 22, 9, 6, 1]
def tbl_keccak_turns : List Int := [1, 3, 6, 10, 15, 21, 28, 36, 45, 55, 2, 14, 27, 41, 56, 8, 25, 43, 62, 18, 39, 61, 20, 44]
def Glob (m : Mem) : Prop := FroAt m 1 [.ints .u64 tbl_keccak_constants 24] ∧ FroAt m 2 [.ints .i64 tbl_keccak_places 24] ∧ FroAt m 3 [.ints .i64 tbl_keccak_turns 24]
theorem Glob.mono {m m' : Mem} (h : Glob m) (hm : LeM m m') : Glob m' := ⟨(FroAt.mono hm h.1), (FroAt.mono hm h.2.1), (FroAt.mono hm h.2.2)⟩
theorem Z39 : zeroI Tryd.prog 39 = some (D.val (.agg [.ints .u8 [0, 0, 0, 0, 0, 0, 0, 0, 0, 0, 0, 0, 0, 0, 0, 0, 0, 0, 0, 0, 0, 0, 0, 0, 0, 0, 0, 0, 0, 0, 0, 0] 32])) := by kernel_rfl
theorem T26 : tyI Tryd.prog 26 = some (true, 4) := by kernel_rfl
theorem T24 : tyI Tryd.prog 24 = some (false, 1) := by kernel_rfl
theorem T5 : tyI Tryd.prog 5 = some (false, 1) := by kernel_rfl
theorem T39 : tyI Tryd.prog 39 = some (true, 32) := by kernel_rfl
theorem Z23 : zeroI Tryd.prog 23 = some (D.val (.agg [.ints .u8 [0, 0, 0, 0, 0, 0, 0, 0, 0, 0, 0, 0, 0, 0, 0, 0, 0, 0, 0, 0] 20])) := by kernel_rfl
theorem N21 : Fn_ Tryd.prog 21 := ⟨_, Tryd.func21, rfl, by decide⟩
theorem T23 : tyI Tryd.prog 23 = some (true, 20) := by kernel_rfl
theorem Z62 : zeroI Tryd.prog 62 = some (D.val (.agg [.ints .u64 [0, 0, 0, 0, 0, 0, 0, 0, 0, 0, 0, 0, 0, 0, 0, 0, 0, 0, 0, 0, 0, 0, 0, 0, 0] 25])) := by kernel_rfl
theorem Z79 : zeroI Tryd.prog 79 = some (D.val (.agg [.ints .u64 [0, 0, 0, 0, 0] 5])) := by kernel_rfl
theorem N51 : Fn_ Tryd.prog 51 := ⟨_, Tryd.func51, rfl, by decide⟩
theorem T82 : tyI Tryd.prog 82 = some (true, 24) := by kernel_rfl
theorem T3 : tyI Tryd.prog 3 = some (false, 1) := by kernel_rfl
theorem T79 : tyI Tryd.prog 79 = some (true, 5) := by kernel_rfl
theorem T62 : tyI Tryd.prog 62 = some (true, 25) := by kernel_rfl
theorem T72 : tyI Tryd.prog 72 = some (true, 24) := by kernel_rfl
theorem N48 : Fn_ Tryd.prog 48 := ⟨_, Tryd.func48, rfl, by decide⟩
theorem N42 : Fn_ Tryd.prog 42 := ⟨_, Tryd.func42, rfl, by decide⟩
theorem Z40 : zeroI Tryd.prog 40 = some (D.val (.agg [.ints .u8 [0, 0, 0, 0, 0, 0, 0, 0, 0, 0, 0, 0, 0, 0, 0, 0, 0, 0, 0, 0, 0, 0, 0, 0, 0, 0, 0, 0, 0, 0, 0, 0] 32])) := by kernel_rfl
theorem N36 : Fn_ Tryd.prog 36 := ⟨_, Tryd.func36, rfl, by decide⟩
theorem Z64 : zeroI Tryd.prog 64 = some (D.val (.agg [.ints .u8 (List.replicate 136 0) 136])) := by kernel_rfl
theorem T40 : tyI Tryd.prog 40 = some (true, 32) := by kernel_rfl
theorem Z26 : zeroI Tryd.prog 26 = some (D.val (.agg [.ints .u64 [0, 0, 0, 0] 4])) := by kernel_rfl
theorem N20 : Fn_ Tryd.prog 20 := ⟨_, Tryd.func20, rfl, by decide⟩
theorem N27 : Fn_ Tryd.prog 27 := ⟨_, Tryd.func27, rfl, by decide⟩
theorem J5 : appI Tryd.prog 5 = some (1, 1) := by kernel_rfl
theorem Z5 : zeroI Tryd.prog 5 = some (D.val (.v (.int .u8 0))) := by kernel_rfl
theorem N22 : Fn_ Tryd.prog 22 := ⟨_, Tryd.func22, rfl, by decide⟩
theorem N12 : Fn_ Tryd.prog 12 := ⟨_, Tryd.func12, rfl, by decide⟩
theorem N8 : Fn_ Tryd.prog 8 := ⟨_, Tryd.func8, rfl, by decide⟩
theorem Z72 : zeroI Tryd.prog 72 = some (D.val (.agg [.ints .u64 [0, 0, 0, 0, 0, 0, 0, 0, 0, 0, 0, 0, 0, 0, 0, 0, 0, 0, 0, 0, 0, 0, 0, 0] 24])) := by kernel_rfl
theorem N49 : Fn_ Tryd.prog 49 := ⟨_, Tryd.func49, rfl, by decide⟩
theorem N43 : Fn_ Tryd.prog 43 := ⟨_, Tryd.func43, rfl, by decide⟩
theorem N44 : Fn_ Tryd.prog 44 := ⟨_, Tryd.func44, rfl, by decide⟩
theorem N37 : Fn_ Tryd.prog 37 := ⟨_, Tryd.func37, rfl, by decide⟩
theorem Z45 : zeroI Tryd.prog 45 = some (D.val (.agg [.ints .i64 [0, 0, 0, 0, 0, 0, 0, 0, 0, 0, 0, 0, 0, 0, 0, 0, 0, 0, 0, 0, 0, 0, 0, 0, 0, 0, 0, 0, 0, 0, 0, 0] 32])) := by kernel_rfl
theorem T45 : tyI Tryd.prog 45 = some (true, 32) := by kernel_rfl
theorem N23 : Fn_ Tryd.prog 23 := ⟨_, Tryd.func23, rfl, by decide⟩
theorem N24 : Fn_ Tryd.prog 24 := ⟨_, Tryd.func24, rfl, by decide⟩
theorem N25 : Fn_ Tryd.prog 25 := ⟨_, Tryd.func25, rfl, by decide⟩
theorem N26 : Fn_ Tryd.prog 26 := ⟨_, Tryd.func26, rfl, by decide⟩
theorem N7 : Fn_ Tryd.prog 7 := ⟨_, Tryd.func7, rfl, by decide⟩
theorem N9 : Fn_ Tryd.prog 9 := ⟨_, Tryd.func9, rfl, by decide⟩
theorem Q23 : Tryd.prog.eqGuardType Tryd.prog.depth 23 = false := by kernel_rfl
theorem N28 : Fn_ Tryd.prog 28 := ⟨_, Tryd.func28, rfl, by decide⟩
theorem N29 : Fn_ Tryd.prog 29 := ⟨_, Tryd.func29, rfl, by decide⟩
theorem N10 : Fn_ Tryd.prog 10 := ⟨_, Tryd.func10, rfl, by decide⟩
theorem N11 : Fn_ Tryd.prog 11 := ⟨_, Tryd.func11, rfl, by decide⟩
theorem Q26 : Tryd.prog.eqGuardType Tryd.prog.depth 26 = false := by kernel_rfl
theorem N13 : Fn_ Tryd.prog 13 := ⟨_, Tryd.func13, rfl, by decide⟩
theorem N31 : Fn_ Tryd.prog 31 := ⟨_, Tryd.func31, rfl, by decide⟩
theorem N14 : Fn_ Tryd.prog 14 := ⟨_, Tryd.func14, rfl, by decide⟩
def txt0 : ByteArray := ByteArray.mk #[0, 1, 2, 2, 3, 3, 3, 3, 4, 4, 4, 4, 4, 4, 4, 4, 5, 5, 5, 5, 5, 5, 5, 5, 5, 5, 5, 5, 5, 5, 5, 5, 6, 6, 6, 6, 6, 6, 6, 6, 6, 6, 6, 6, 6, 6, 6, 6, 6, 6, 6, 6, 6, 6, 6, 6, 6, 6, 6, 6, 6, 6, 6, 6, 7, 7, 7, 7, 7, 7, 7, 7, 7, 7, 7, 7, 7, 7, 7, 7, 7, 7, 7, 7, 7, 7, 7, 7, 7, 7, 7, 7, 7, 7, 7, 7, 7, 7, 7, 7, 7, 7, 7, 7, 7, 7, 7, 7, 7, 7, 7, 7, 7, 7, 7, 7, 7, 7, 7, 7, 7, 7, 7, 7, 7, 7, 7, 7, 8, 8, 8, 8, 8, 8, 8, 8, 8, 8, 8, 8, 8, 8, 8, 8, 8, 8, 8, 8, 8, 8, 8, 8, 8, 8, 8, 8, 8, 8, 8, 8, 8, 8, 8, 8, 8, 8, 8, 8, 8, 8, 8, 8, 8, 8, 8, 8, 8, 8, 8, 8, 8, 8, 8, 8, 8, 8, 8, 8, 8, 8, 8, 8, 8, 8, 8, 8, 8, 8, 8, 8, 8, 8, 8, 8, 8, 8, 8, 8, 8, 8, 8, 8, 8, 8, 8, 8, 8, 8, 8, 8, 8, 8, 8, 8, 8, 8, 8, 8, 8, 8, 8, 8, 8, 8, 8, 8, 8, 8, 8, 8, 8, 8, 8, 8, 8, 8, 8, 8, 8, 8, 8, 8, 8, 8, 8, 8]
theorem N50 : Fn_ Tryd.prog 50 := ⟨_, Tryd.func50, rfl, by decide⟩
theorem N45 : Fn_ Tryd.prog 45 := ⟨_, Tryd.func45, rfl, by decide⟩
theorem N39 : Fn_ Tryd.prog 39 := ⟨_, Tryd.func39, rfl, by decide⟩
theorem T55 : tyI Tryd.prog 55 = some (true, 3) := by kernel_rfl
theorem N33 : Fn_ Tryd.prog 33 := ⟨_, Tryd.func33, rfl, by decide⟩
theorem N32 : Fn_ Tryd.prog 32 := ⟨_, Tryd.func32, rfl, by decide⟩
theorem P55 : ∀ w : World, ((match Tryd.prog.underlying 55 with | some (.struct fs) => fs | _ => (#[] : Array Field)).mapM fun (f : Field) => (do pure (f.offset, ← Go.sizeOf f.type) : Sem (Nat × Nat))).run Tryd.prog w = .ok #[(0, 1), (1, 1), (2, 1)] w := fun _ => by kernel_rfl
theorem Z55 : zeroI Tryd.prog 55 = some (D.val (.agg [.one (.bool false), .one (.slice none 0 0), .one (.int .i64 0)])) := by kernel_rfl
def Gd5 : Int → Prop := fun x => inK .u8 x
def Gd27 : (List Int) → Prop := fun xs => (∀ y ∈ xs, Gd5 y) ∧ xs.length ≤ maxLen
/-! smithy/word.Bytes -/
def word_Bytes.j1 (y1 : List Int) : Option (List Int) := some y1
def word_Bytes.j2 (y6 : Int) (rec1 : Int → (List Int) → Option (List Int)) (y8 : List Int) : Option (List Int) := rec1 (wr .i64 (y6 + 1)) y8
def word_Bytes.b2 (x1 : List Int) (y6 : Int) (rec1 : Int → (List Int) → Option (List Int)) (rec2 : Int → (List Int) → Option (List Int)) (y11 : Int) (y12 : List Int) : Option (List Int) := if (decide (y11 < 8)) = true then (if 0 ≤ (wr .i64 (8 * y11)) then (if 0 ≤ (wr .i64 ((wr .i64 (31 - (wr .i64 (8 * y6)))) - y11)) ∧ (wr .i64 ((wr .i64 (31 - (wr .i64 (8 * y6)))) - y11)) < 32 then (rec2 (wr .i64 (y11 + 1)) (y12.set (Int.toNat (wr .i64 ((wr .i64 (31 - (wr .i64 (8 * y6)))) - y11))) (wr .u8 (shr (rd x1 y6) (min (Int.toNat (wr .i64 (8 * y11))) 64))))) else none) else none) else (word_Bytes.j2 y6 rec1 y12)
def word_Bytes.l2 (x1 : List Int) (y6 : Int) (rec1 : Int → (List Int) → Option (List Int)) : Nat → Int → (List Int) → Option (List Int)
  | 0, _, _ => none
  | q + 1, y11, y12 => word_Bytes.b2 x1 y6 rec1 (word_Bytes.l2 x1 y6 rec1 q) y11 y12
def word_Bytes.b1 (k : Nat) (x1 : List Int) (rec1 : Int → (List Int) → Option (List Int)) (y6 : Int) (y7 : List Int) : Option (List Int) := if (decide (y6 < 4)) = true then (if 0 ≤ y6 ∧ y6 < 4 then (word_Bytes.l2 x1 y6 rec1 k 0 y7) else none) else (word_Bytes.j1 y7)
def word_Bytes.l1 (k : Nat) (x1 : List Int) : Nat → Int → (List Int) → Option (List Int)
  | 0, _, _ => none
  | q + 1, y6, y7 => word_Bytes.b1 k x1 (word_Bytes.l1 k x1 q) y6 y7
def word_Bytes.f (k : Nat) (x1 : List Int) : Option (List Int) := word_Bytes.l1 k x1 k 0 [0, 0, 0, 0, 0, 0, 0, 0, 0, 0, 0, 0, 0, 0, 0, 0, 0, 0, 0, 0, 0, 0, 0, 0, 0, 0, 0, 0, 0, 0, 0, 0]
theorem word_Bytes.ok (k : Nat) (x1 : List Int) (r : List Int) (h0 : word_Bytes.f k x1 = some r) (mi : Mem) (w0 : World) : okL mi [(.agg [.ints .u64 x1 4])] → Frz mi w0 → Calls Tryd.prog 21 (([(.agg [.ints .u64 x1 4])] : List D).map D.val).toArray w0 (Ret mi (.agg [.ints .u8 r 32]) w0) := by
  intro ok hm
  delta word_Bytes.f at h0
  refine c_enter (n := 29) [(.agg [.ints .u64 x1 4])] (l := [(0, (.agg [.ints .u64 x1 4]))]) Tryd.func21 rfl rfl rfl rfl ok hm ?_
  clear ok hm
  intro a S
  refine c_region ?_
  refine s_box S rfl rfl rfl ?_; clear S a; intro g1 a w S
  refine s_alloc S Z39 rfl ⟨rfl, trivial⟩ rfl ?_; clear S a w; intro g2 a w S
  refine c_end ?_
  refine c_region ?_
  refine s_alloc S Z39 rfl ⟨rfl, trivial⟩ rfl ?_; clear S a w; intro g3 a w S
  refine c_end ?_
  refine wp_seq_k ?_
  intro K1 hK1
  have j1 : ∀ (m : Mem) (g4 : Nat) (g5 : Nat) (y1 : List Int) (a : Act) (w : World), St 29 m (B0 mi w0) [(3, (.v (.pointer (some ⟨g4, 0, none⟩)))), (2, (.v (.pointer (some ⟨g5, 0, none⟩))))] [Res.cells g4 39 [.ints .u8 y1 32], Res.cells g5 39 [.ints .u8 [0, 0, 0, 0, 0, 0, 0, 0, 0, 0, 0, 0, 0, 0, 0, 0, 0, 0, 0, 0, 0, 0, 0, 0, 0, 0, 0, 0, 0, 0, 0, 0] 32]] a w → word_Bytes.j1 y1 = some r → K1 a w := by
    intro m g4 g5 y1 a w S h0
    delta word_Bytes.j1 at h0
    refine hK1 a w ?_
    refine c_region ?_
    refine s_loada S rfl .here T39 (s' := [.ints .u8 y1 32]) rfl rfl ?_; clear S a; intro a S
    refine s_store S rfl rfl rfl (s' := [.ints .u8 y1 32]) (.there .here) T39 rfl rfl ?_; clear S w; intro w S
    refine c_end ?_
    refine wp_ret ?_
    obtain rfl := Option.some.inj h0
    exact b_ret1 (d := (.agg [.ints .u8 y1 32])) S rfl (resD_cell rfl (.there .here) T39 rfl rfl) fun ok => ⟨rfl, ok, S.below0⟩
  refine c_region ?_
  refine s_loada S rfl (.there (.there .here)) T26 (s' := [.ints .u64 x1 4]) rfl rfl ?_; clear S a; intro a S
  refine s_move S rfl rfl ?_; clear S a; intro a S
  refine c_end ?_
  refine wp_block ?_
  refine c_loop (fun q1 a w => ∃ (m : Mem) (y6 : Int) (g14 : Nat) (g15 : Nat) (y7 : List Int), St 29 m (B0 mi w0) [(8, (.v (.int .i64 y6))), (7, (.agg [.ints .u64 x1 4])), (3, (.v (.pointer (some ⟨g14, 0, none⟩)))), (2, (.v (.pointer (some ⟨g15, 0, none⟩))))] [Res.cells g14 39 [.ints .u8 y7 32], Res.cells g15 39 [.ints .u8 [0, 0, 0, 0, 0, 0, 0, 0, 0, 0, 0, 0, 0, 0, 0, 0, 0, 0, 0, 0, 0, 0, 0, 0, 0, 0, 0, 0, 0, 0, 0, 0] 32]] a w ∧ word_Bytes.l1 k x1 q1 y6 y7 = some r) ?_ ?_ (k := k) ⟨_, 0, g3, g2, [0, 0, 0, 0, 0, 0, 0, 0, 0, 0, 0, 0, 0, 0, 0, 0, 0, 0, 0, 0, 0, 0, 0, 0, 0, 0, 0, 0, 0, 0, 0, 0], (S.sub ⟨rfl, rfl, rfl, rfl, trivial⟩ (.cons .here (.cons .here .nil))), h0⟩
  · rintro a w ⟨m, y6, g14, g15, y7, S, h0⟩
    exact (nomatch (show (none : Option (List Int)) = some r from h0))
  · clear S h0
    rintro q1 a w ⟨m, y6, g14, g15, y7, S, h0⟩
    replace h0 : word_Bytes.b1 k x1 (word_Bytes.l1 k x1 q1) y6 y7 = some r := h0
    delta word_Bytes.b1 at h0
    refine c_region ?_
    refine s_bin S rfl rfl rfl rfl ?_; clear S a; intro a S
    refine c_end ?_
    refine wp_seq ?_
    rcases ite_of h0 with ⟨c1, h1⟩ | ⟨c1, h1⟩ <;> clear h0
    · refine c_condT S rfl c1 ?_
      refine wp_skip ?_
      refine x_thenN ?_
      refine wp_seq_k ?_
      intro K2 hK2
      have j2 : ∀ (m : Mem) (g16 : Nat) (g17 : Nat) (y8 : List Int) (a : Act) (w : World), St 29 m (B0 mi w0) [(8, (.v (.int .i64 y6))), (7, (.agg [.ints .u64 x1 4])), (3, (.v (.pointer (some ⟨g16, 0, none⟩)))), (2, (.v (.pointer (some ⟨g17, 0, none⟩))))] [Res.cells g16 39 [.ints .u8 y8 32], Res.cells g17 39 [.ints .u8 [0, 0, 0, 0, 0, 0, 0, 0, 0, 0, 0, 0, 0, 0, 0, 0, 0, 0, 0, 0, 0, 0, 0, 0, 0, 0, 0, 0, 0, 0, 0, 0] 32]] a w → word_Bytes.j2 y6 (word_Bytes.l1 k x1 q1) y8 = some r → K2 a w := by
        intro m g16 g17 y8 a w S h0
        delta word_Bytes.j2 at h0
        refine hK2 a w ?_
        refine c_region' ?_
        refine s_bin S rfl rfl rfl rfl ?_; clear S a; intro a S
        refine s_move S rfl rfl ?_; clear S a; intro a S
        refine c_end' ?_
        refine x_thenN ?_
        exact ⟨_, (wr .i64 (y6 + 1)), g16, g17, y8, (S.sub ⟨rfl, rfl, rfl, rfl, trivial⟩ (.cons .here (.cons .here .nil))), h0⟩
      refine wp_block ?_
      refine c_region ?_
      refine s_move S rfl rfl ?_; clear S a; intro a S
      obtain ⟨c2, h2⟩ := chk_of h1; clear h1
      refine s_index S rfl rfl Tryd.underlying26 T24 c2.1 c2.2 rfl ?_; clear S a; intro a S
      refine s_assign S rfl rfl ?_; clear S a; intro a S
      refine s_assign S rfl rfl ?_; clear S a; intro a S
      refine c_end ?_
      refine c_region ?_
      refine s_move S rfl rfl ?_; clear S a; intro a S
      refine c_end ?_
      refine wp_block ?_
      refine c_loop (fun q2 a w => ∃ (m : Mem) (y11 : Int) (g22 : Nat) (g23 : Nat) (y12 : List Int), St 29 m (B0 mi w0) [(12, (.v (.int .i64 y11))), (5, (.v (.int .u64 (rd x1 y6)))), (4, (.v (.int .i64 y6))), (8, (.v (.int .i64 y6))), (7, (.agg [.ints .u64 x1 4])), (3, (.v (.pointer (some ⟨g22, 0, none⟩)))), (2, (.v (.pointer (some ⟨g23, 0, none⟩))))] [Res.cells g22 39 [.ints .u8 y12 32], Res.cells g23 39 [.ints .u8 [0, 0, 0, 0, 0, 0, 0, 0, 0, 0, 0, 0, 0, 0, 0, 0, 0, 0, 0, 0, 0, 0, 0, 0, 0, 0, 0, 0, 0, 0, 0, 0] 32]] a w ∧ word_Bytes.l2 x1 y6 (word_Bytes.l1 k x1 q1) q2 y11 y12 = some r) ?_ ?_ (k := k) ⟨_, 0, g14, g15, y7, (S.sub ⟨rfl, rfl, rfl, rfl, rfl, rfl, rfl, trivial⟩ (.cons .here (.cons .here .nil))), h2⟩
      · rintro a w ⟨m, y11, g22, g23, y12, S, h0⟩
        exact (nomatch (show (none : Option (List Int)) = some r from h0))
      · clear S h2
        rintro q2 a w ⟨m, y11, g22, g23, y12, S, h0⟩
        replace h0 : word_Bytes.b2 x1 y6 (word_Bytes.l1 k x1 q1) (word_Bytes.l2 x1 y6 (word_Bytes.l1 k x1 q1) q2) y11 y12 = some r := h0
        delta word_Bytes.b2 at h0
        refine c_region ?_
        refine s_bin S rfl rfl rfl rfl ?_; clear S a; intro a S
        refine c_end ?_
        refine wp_seq ?_
        rcases ite_of h0 with ⟨c3, h1⟩ | ⟨c3, h1⟩ <;> clear h0
        · refine c_condT S rfl c3 ?_
          refine wp_skip ?_
          refine x_thenN ?_
          refine wp_seq ?_
          refine wp_block ?_
          refine c_region ?_
          refine s_move S rfl rfl ?_; clear S a; intro a S
          refine s_assign S rfl rfl ?_; clear S a; intro a S
          refine c_end ?_
          refine c_region' ?_
          refine s_move S rfl rfl ?_; clear S a; intro a S
          refine s_bin S rfl rfl rfl rfl ?_; clear S a; intro a S
          refine s_bin S rfl rfl rfl rfl ?_; clear S a; intro a S
          refine s_move S rfl rfl ?_; clear S a; intro a S
          refine s_bin S rfl rfl rfl rfl ?_; clear S a; intro a S
          refine s_move S rfl rfl ?_; clear S a; intro a S
          refine s_move S rfl rfl ?_; clear S a; intro a S
          refine s_bin S rfl rfl rfl rfl ?_; clear S a; intro a S
          obtain ⟨c4, h2⟩ := chk_of h1; clear h1
          refine s_shr S (e := (min (Int.toNat (wr .i64 (8 * y11))) 64)) rfl rfl c4 rfl rfl ?_; clear S a; intro a S
          refine s_conv S rfl rfl Tryd.underlying5 rfl ?_; clear S a; intro a S
          obtain ⟨c5, h3⟩ := chk_of h2; clear h2
          refine s_iaddr S rfl rfl Tryd.underlying39 T5 c5.1 c5.2 (mul1 _ _) rfl ?_; clear S a; intro a S
          refine s_storei S (i := (wr .i64 ((wr .i64 (31 - (wr .i64 (8 * y6)))) - y11))) rfl rfl .here T5 .here rfl c5.1 c5.2 ?_; clear S w; intro w S
          refine c_end' ?_
          refine x_blockN ?_
          refine x_thenN ?_
          refine c_region' ?_
          refine s_bin S rfl rfl rfl rfl ?_; clear S a; intro a S
          refine s_move S rfl rfl ?_; clear S a; intro a S
          refine c_end' ?_
          refine x_thenN ?_
          exact ⟨_, (wr .i64 (y11 + 1)), g22, g23, (y12.set (Int.toNat (wr .i64 ((wr .i64 (31 - (wr .i64 (8 * y6)))) - y11))) (wr .u8 (shr (rd x1 y6) (min (Int.toNat (wr .i64 (8 * y11))) 64)))), (S.sub ⟨rfl, rfl, rfl, rfl, rfl, rfl, rfl, trivial⟩ (.cons .here (.cons .here .nil))), h3⟩
        · refine c_condF S rfl c3 ?_
          refine wp_exit ?_
          refine x_thenX ?_
          refine x_thenX ?_
          refine x_blockX ?_
          refine x_blockN ?_
          refine x_thenN ?_
          exact j2 _ g22 g23 y12 a w (S.sub ⟨rfl, rfl, rfl, rfl, trivial⟩ (.cons .here (.cons .here .nil))) h1
    · refine c_condF S rfl c1 ?_
      refine wp_exit ?_
      refine x_thenX ?_
      refine x_thenX ?_
      refine x_blockX ?_
      refine x_thenN ?_
      exact j1 _ g14 g15 y7 a w (S.sub ⟨rfl, rfl, trivial⟩ (.cons .here (.cons .here .nil))) h1
/-! smithy/addr.Of -/
def addr_Of.f (k : Nat) (x1 : List Int) : Option (List Int) := (word_Bytes.f k x1).bind fun t1 => (some (((t1).drop 12).take 20))
theorem addr_Of.ok (k : Nat) (x1 : List Int) (r : List Int) (h0 : addr_Of.f k x1 = some r) (mi : Mem) (w0 : World) : okL mi [(.agg [.ints .u64 x1 4])] → Frz mi w0 → Calls Tryd.prog 12 (([(.agg [.ints .u64 x1 4])] : List D).map D.val).toArray w0 (Ret mi (.agg [.ints .u8 r 20]) w0) := by
  intro ok hm
  delta addr_Of.f at h0
  refine c_enter (n := 9) [(.agg [.ints .u64 x1 4])] (l := [(0, (.agg [.ints .u64 x1 4]))]) Tryd.func12 rfl rfl rfl rfl ok hm ?_
  clear ok hm
  intro a S
  refine c_region ?_
  refine s_box S rfl rfl rfl ?_; clear S a; intro g1 a w S
  refine s_alloc S Z23 rfl ⟨rfl, trivial⟩ rfl ?_; clear S a w; intro g2 a w S
  refine c_end ?_
  refine c_region ?_
  refine s_loada S rfl (.there .here) T26 (s' := [.ints .u64 x1 4]) rfl rfl ?_; clear S a; intro a S
  obtain ⟨t1, et1, h1⟩ := bind_of h0; clear h0
  refine s_call S (ds := [(.agg [.ints .u64 x1 4])]) (d := (.agg [.ints .u8 t1 32])) N21 rfl rfl (word_Bytes.ok k x1 t1 et1 _ _) ?_; clear S a w; intro a w S
  refine s_alloc S Z39 rfl ⟨rfl, trivial⟩ rfl ?_; clear S a w; intro g3 a w S
  refine s_store S rfl rfl rfl (s' := [.ints .u8 t1 32]) .here T39 rfl rfl ?_; clear S w; intro w S
  refine c_end ?_
  refine c_region ?_
  refine s_sliceA S (i := 12) (j := 32) (o' := 12) (len := 20) (cap := 20) rfl Tryd.underlying39 T5 (.inr ⟨_, _, rfl, rfl⟩) (.inl ⟨rfl, rfl⟩) (by decide) rfl rfl rfl rfl ?_; clear S a; intro a S
  refine s_arrp S rfl Tryd.underlying23 (by decide) rfl ?_; clear S a; intro a S
  refine s_ldInts S (lo := 12) (ys := ((t1).drop 12).take 20) rfl .here T23 .here rfl (by decide) rfl rfl ?_; clear S a; intro a S
  refine s_store S rfl rfl rfl (s' := [.ints .u8 (((t1).drop 12).take 20) 20]) (.there .here) T23 rfl rfl ?_; clear S w; intro w S
  refine c_end ?_
  refine wp_ret ?_
  obtain rfl := Option.some.inj h1
  exact b_ret1 (d := (.agg [.ints .u8 (((t1).drop 12).take 20) 20])) S rfl (resD_cell rfl (.there .here) T23 rfl rfl) fun ok => ⟨rfl, ok, S.below0⟩
/-! math/bits.RotateLeft64 -/
def bits_RotateLeft64.f (x1 : Int) (x2 : Int) : Option Int := if 0 ≤ (bits .and .u64 (wr .u64 x2) 63) then (if 0 ≤ (wr .u64 (64 - (bits .and .u64 (wr .u64 x2) 63))) then (some (bits .or .u64 (shl .u64 x1 (min (Int.toNat (bits .and .u64 (wr .u64 x2) 63)) 64)) (shr x1 (min (Int.toNat (wr .u64 (64 - (bits .and .u64 (wr .u64 x2) 63)))) 64)))) else none) else none
theorem bits_RotateLeft64.ok (x1 : Int) (x2 : Int) (r : Int) (h0 : bits_RotateLeft64.f x1 x2 = some r) (mi : Mem) (w0 : World) : okL mi [(.v (.int .u64 x1)), (.v (.int .i64 x2))] → Frz mi w0 → Calls Tryd.prog 51 (([(.v (.int .u64 x1)), (.v (.int .i64 x2))] : List D).map D.val).toArray w0 (Ret mi (.v (.int .u64 r)) w0) := by
  intro ok hm
  delta bits_RotateLeft64.f at h0
  refine c_enter (n := 17) [(.v (.int .u64 x1)), (.v (.int .i64 x2))] (l := [(0, (.v (.int .u64 x1))), (1, (.v (.int .i64 x2)))]) Tryd.func51 rfl rfl rfl rfl ok hm ?_
  clear ok hm
  intro a S
  refine c_region ?_
  refine s_assign S rfl rfl ?_; clear S a; intro a S
  refine c_end ?_
  refine c_region ?_
  refine s_move S rfl rfl ?_; clear S a; intro a S
  refine s_conv S rfl rfl Tryd.underlying78 rfl ?_; clear S a; intro a S
  refine s_bin S rfl rfl rfl rfl ?_; clear S a; intro a S
  refine s_assign S rfl rfl ?_; clear S a; intro a S
  refine c_end ?_
  refine c_region ?_
  refine s_move S rfl rfl ?_; clear S a; intro a S
  refine s_move S rfl rfl ?_; clear S a; intro a S
  obtain ⟨c1, h1⟩ := chk_of h0; clear h0
  refine s_shl S (e := (min (Int.toNat (bits .and .u64 (wr .u64 x2) 63)) 64)) rfl rfl c1 rfl rfl ?_; clear S a; intro a S
  refine s_move S rfl rfl ?_; clear S a; intro a S
  refine s_move S rfl rfl ?_; clear S a; intro a S
  refine s_bin S rfl rfl rfl rfl ?_; clear S a; intro a S
  obtain ⟨c2, h2⟩ := chk_of h1; clear h1
  refine s_shr S (e := (min (Int.toNat (wr .u64 (64 - (bits .and .u64 (wr .u64 x2) 63)))) 64)) rfl rfl c2 rfl rfl ?_; clear S a; intro a S
  refine s_bin S rfl rfl rfl rfl ?_; clear S a; intro a S
  refine s_assign S rfl rfl ?_; clear S a; intro a S
  refine c_end ?_
  refine wp_ret ?_
  obtain rfl := Option.some.inj h2
  exact b_ret1 (d := (.v (.int .u64 (bits .or .u64 (shl .u64 x1 (min (Int.toNat (bits .and .u64 (wr .u64 x2) 63)) 64)) (shr x1 (min (Int.toNat (wr .u64 (64 - (bits .and .u64 (wr .u64 x2) 63)))) 64)))))) S rfl rfl fun ok => ⟨rfl, ok, S.below0⟩
/-! smithy/keccak.round -/
def keccak_round.j4 (y4 : List Int) : Option (List Int) := some y4
def keccak_round.j5 (y9 : Int) (rec1 : Int → (List Int) → Option (List Int)) (y11 : List Int) : Option (List Int) := rec1 (wr .i64 (y9 + 5)) y11
def keccak_round.b2 (y9 : Int) (y10 : List Int) (rec1 : Int → (List Int) → Option (List Int)) (rec2 : Int → (List Int) → Option (List Int)) (y14 : Int) (y15 : List Int) : Option (List Int) := if (decide (y14 < 5)) = true then (if 0 ≤ y14 ∧ y14 < 5 then (if 0 ≤ (Int.tmod (wr .i64 (y14 + 1)) 5) ∧ (Int.tmod (wr .i64 (y14 + 1)) 5) < 5 then (if 0 ≤ (Int.tmod (wr .i64 (y14 + 2)) 5) ∧ (Int.tmod (wr .i64 (y14 + 2)) 5) < 5 then (if 0 ≤ (wr .i64 (y14 + y9)) ∧ (wr .i64 (y14 + y9)) < 25 then (rec2 (wr .i64 (y14 + 1)) (y15.set (Int.toNat (wr .i64 (y14 + y9))) (bits .xor .u64 (rd (((y10).drop (Int.toNat y9)).take 5) y14) (bits .and .u64 (bnot .u64 (rd (((y10).drop (Int.toNat y9)).take 5) (Int.tmod (wr .i64 (y14 + 1)) 5))) (rd (((y10).drop (Int.toNat y9)).take 5) (Int.tmod (wr .i64 (y14 + 2)) 5)))))) else none) else none) else none) else none) else (keccak_round.j5 y9 rec1 y15)
def keccak_round.l2 (y9 : Int) (y10 : List Int) (rec1 : Int → (List Int) → Option (List Int)) : Nat → Int → (List Int) → Option (List Int)
  | 0, _, _ => none
  | q + 1, y14, y15 => keccak_round.b2 y9 y10 rec1 (keccak_round.l2 y9 y10 rec1 q) y14 y15
def keccak_round.b1 (k : Nat) (rec1 : Int → (List Int) → Option (List Int)) (y9 : Int) (y10 : List Int) : Option (List Int) := if (decide (y9 < 25)) = true then (if (0 : Int) ≤ y9 ∧ (y9 : Int) ≤ (wr .i64 (y9 + 5)) ∧ (wr .i64 (y9 + 5)) ≤ ((25 : Nat) : Int) then (if 5 ≤ (Int.toNat (wr .i64 (y9 + 5)) - Int.toNat y9) then (keccak_round.l2 y9 y10 rec1 k 0 y10) else none) else none) else (keccak_round.j4 y10)
def keccak_round.l1 (k : Nat) : Nat → Int → (List Int) → Option (List Int)
  | 0, _, _ => none
  | q + 1, y9, y10 => keccak_round.b1 k (keccak_round.l1 k q) y9 y10
def keccak_round.j3 (k : Nat) (y3 : List Int) : Option (List Int) := keccak_round.l1 k k 0 y3
def keccak_round.b3 (k : Nat) (rec3 : Int → Int → (List Int) → Option (List Int)) (y19 : Int) (y20 : Int) (y21 : List Int) : Option (List Int) := if (decide (y19 < 24)) = true then (if 0 ≤ y19 ∧ y19 < 24 then (if 0 ≤ (rd tbl_keccak_places y19) ∧ (rd tbl_keccak_places y19) < 25 then ((bits_RotateLeft64.f y20 (rd tbl_keccak_turns y19)).bind fun t1 => (rec3 (wr .i64 (y19 + 1)) (rd y21 (rd tbl_keccak_places y19)) (y21.set (Int.toNat (rd tbl_keccak_places y19)) t1))) else none) else none) else (keccak_round.j3 k y21)
def keccak_round.l3 (k : Nat) : Nat → Int → Int → (List Int) → Option (List Int)
  | 0, _, _, _ => none
  | q + 1, y19, y20, y21 => keccak_round.b3 k (keccak_round.l3 k q) y19 y20 y21
def keccak_round.j2 (k : Nat) (y2 : List Int) : Option (List Int) := keccak_round.l3 k k 0 (rd y2 1) y2
def keccak_round.j6 (y26 : Int) (rec4 : Int → (List Int) → Option (List Int)) (y28 : List Int) : Option (List Int) := rec4 (wr .i64 (y26 + 1)) y28
def keccak_round.b5 (y1 : List Int) (y26 : Int) (rec4 : Int → (List Int) → Option (List Int)) (t2 : Int) (rec5 : Int → (List Int) → Option (List Int)) (y31 : Int) (y32 : List Int) : Option (List Int) := if (decide (y31 < 25)) = true then (if 0 ≤ (wr .i64 (y26 + y31)) ∧ (wr .i64 (y26 + y31)) < 25 then (rec5 (wr .i64 (y31 + 5)) (y32.set (Int.toNat (wr .i64 (y26 + y31))) (bits .xor .u64 (rd y32 (wr .i64 (y26 + y31))) (bits .xor .u64 (rd y1 (Int.tmod (wr .i64 (y26 + 4)) 5)) t2)))) else none) else (keccak_round.j6 y26 rec4 y32)
def keccak_round.l5 (y1 : List Int) (y26 : Int) (rec4 : Int → (List Int) → Option (List Int)) (t2 : Int) : Nat → Int → (List Int) → Option (List Int)
  | 0, _, _ => none
  | q + 1, y31, y32 => keccak_round.b5 y1 y26 rec4 t2 (keccak_round.l5 y1 y26 rec4 t2 q) y31 y32
def keccak_round.b4 (k : Nat) (y1 : List Int) (rec4 : Int → (List Int) → Option (List Int)) (y26 : Int) (y27 : List Int) : Option (List Int) := if (decide (y26 < 5)) = true then (if 0 ≤ (Int.tmod (wr .i64 (y26 + 4)) 5) ∧ (Int.tmod (wr .i64 (y26 + 4)) 5) < 5 then (if 0 ≤ (Int.tmod (wr .i64 (y26 + 1)) 5) ∧ (Int.tmod (wr .i64 (y26 + 1)) 5) < 5 then ((bits_RotateLeft64.f (rd y1 (Int.tmod (wr .i64 (y26 + 1)) 5)) 1).bind fun t2 => (keccak_round.l5 y1 y26 rec4 t2 k 0 y27)) else none) else none) else (keccak_round.j2 k y27)
def keccak_round.l4 (k : Nat) (y1 : List Int) : Nat → Int → (List Int) → Option (List Int)
  | 0, _, _ => none
  | q + 1, y26, y27 => keccak_round.b4 k y1 (keccak_round.l4 k y1 q) y26 y27
def keccak_round.j1 (k : Nat) (x1 : List Int) (y1 : List Int) : Option (List Int) := keccak_round.l4 k y1 k 0 x1
def keccak_round.b6 (k : Nat) (x1 : List Int) (rec6 : Int → (List Int) → Option (List Int)) (y35 : Int) (y36 : List Int) : Option (List Int) := if (decide (y35 < 5)) = true then (if 0 ≤ y35 ∧ y35 < 25 then (if 0 ≤ (wr .i64 (y35 + 5)) ∧ (wr .i64 (y35 + 5)) < 25 then (if 0 ≤ (wr .i64 (y35 + 10)) ∧ (wr .i64 (y35 + 10)) < 25 then (if 0 ≤ (wr .i64 (y35 + 15)) ∧ (wr .i64 (y35 + 15)) < 25 then (if 0 ≤ (wr .i64 (y35 + 20)) ∧ (wr .i64 (y35 + 20)) < 25 then (if 0 ≤ y35 ∧ y35 < 5 then (rec6 (wr .i64 (y35 + 1)) (y36.set (Int.toNat y35) (bits .xor .u64 (bits .xor .u64 (bits .xor .u64 (bits .xor .u64 (rd x1 y35) (rd x1 (wr .i64 (y35 + 5)))) (rd x1 (wr .i64 (y35 + 10)))) (rd x1 (wr .i64 (y35 + 15)))) (rd x1 (wr .i64 (y35 + 20)))))) else none) else none) else none) else none) else none) else none) else (keccak_round.j1 k x1 y36)
def keccak_round.l6 (k : Nat) (x1 : List Int) : Nat → Int → (List Int) → Option (List Int)
  | 0, _, _ => none
  | q + 1, y35, y36 => keccak_round.b6 k x1 (keccak_round.l6 k x1 q) y35 y36
def keccak_round.f (k : Nat) (x1 : List Int) : Option (List Int) := keccak_round.l6 k x1 k 0 [0, 0, 0, 0, 0]
theorem keccak_round.ok (k : Nat) (x1 : List Int) (r : List Int) (h0 : keccak_round.f k x1 = some r) (mi : Mem) (w0 : World) (G : Glob mi) : okL mi [(.agg [.ints .u64 x1 25])] → Frz mi w0 → Calls Tryd.prog 48 (([(.agg [.ints .u64 x1 25])] : List D).map D.val).toArray w0 (Ret mi (.agg [.ints .u64 r 25]) w0) := by
  intro ok hm
  delta keccak_round.f at h0
  refine c_enter (n := 126) [(.agg [.ints .u64 x1 25])] (l := [(0, (.agg [.ints .u64 x1 25]))]) Tryd.func48 rfl rfl rfl rfl ok hm ?_
  clear ok hm
  intro a S
  replace S := S.addfro (g := 3) 82 G.2.2
  replace S := S.addfro (g := 2) 82 G.2.1
  replace S := S.addfro (g := 1) 72 G.1
  refine c_region ?_
  refine s_box S rfl rfl rfl ?_; clear S a; intro g1 a w S
  refine s_alloc S Z62 rfl ⟨rfl, trivial⟩ rfl ?_; clear S a w; intro g2 a w S
  refine c_end ?_
  refine c_region ?_
  refine s_alloc S Z79 rfl ⟨rfl, trivial⟩ rfl ?_; clear S a w; intro g3 a w S
  refine c_end ?_
  refine wp_seq_k ?_
  intro K1 hK1
  have j1 : ∀ (m : Mem) (g4 : Nat) (g5 : Nat) (g6 : Nat) (y1 : List Int) (a : Act) (w : World), St 126 m (B0 mi w0) [(3, (.v (.pointer (some ⟨g4, 0, none⟩)))), (2, (.v (.pointer (some ⟨g5, 0, none⟩)))), (1, (.v (.pointer (some ⟨g6, 0, none⟩))))] [Res.cells g4 79 [.ints .u64 y1 5], Res.cells g5 62 [.ints .u64 [0, 0, 0, 0, 0, 0, 0, 0, 0, 0, 0, 0, 0, 0, 0, 0, 0, 0, 0, 0, 0, 0, 0, 0, 0] 25], Res.cells g6 62 [.ints .u64 x1 25], Res.fro 1 72 [.ints .u64 tbl_keccak_constants 24], Res.fro 2 82 [.ints .i64 tbl_keccak_places 24], Res.fro 3 82 [.ints .i64 tbl_keccak_turns 24]] a w → keccak_round.j1 k x1 y1 = some r → K1 a w := by
    intro m g4 g5 g6 y1 a w S h0
    delta keccak_round.j1 at h0
    refine hK1 a w ?_
    refine wp_seq_k ?_
    intro K2 hK2
    have j2 : ∀ (m : Mem) (g7 : Nat) (g8 : Nat) (y2 : List Int) (a : Act) (w : World), St 126 m (B0 mi w0) [(2, (.v (.pointer (some ⟨g7, 0, none⟩)))), (1, (.v (.pointer (some ⟨g8, 0, none⟩))))] [Res.cells g7 62 [.ints .u64 [0, 0, 0, 0, 0, 0, 0, 0, 0, 0, 0, 0, 0, 0, 0, 0, 0, 0, 0, 0, 0, 0, 0, 0, 0] 25], Res.cells g8 62 [.ints .u64 y2 25], Res.fro 1 72 [.ints .u64 tbl_keccak_constants 24], Res.fro 2 82 [.ints .i64 tbl_keccak_places 24], Res.fro 3 82 [.ints .i64 tbl_keccak_turns 24]] a w → keccak_round.j2 k y2 = some r → K2 a w := by
      intro m g7 g8 y2 a w S h0
      delta keccak_round.j2 at h0
      refine hK2 a w ?_
      refine c_region ?_
      refine s_iaddr S (o' := 1) rfl rfl Tryd.underlying62 T24 (by decide) (by decide) rfl rfl ?_; clear S a; intro a S
      refine s_loadi S (i := 1) rfl (.there .here) T24 .here rfl (by decide) (by decide) rfl ?_; clear S a; intro a S
      refine s_assign S rfl rfl ?_; clear S a; intro a S
      refine c_end ?_
      refine wp_seq_k ?_
      intro K3 hK3
      have j3 : ∀ (m : Mem) (g9 : Nat) (g10 : Nat) (y3 : List Int) (a : Act) (w : World), St 126 m (B0 mi w0) [(2, (.v (.pointer (some ⟨g9, 0, none⟩)))), (1, (.v (.pointer (some ⟨g10, 0, none⟩))))] [Res.cells g9 62 [.ints .u64 [0, 0, 0, 0, 0, 0, 0, 0, 0, 0, 0, 0, 0, 0, 0, 0, 0, 0, 0, 0, 0, 0, 0, 0, 0] 25], Res.cells g10 62 [.ints .u64 y3 25], Res.fro 1 72 [.ints .u64 tbl_keccak_constants 24], Res.fro 2 82 [.ints .i64 tbl_keccak_places 24], Res.fro 3 82 [.ints .i64 tbl_keccak_turns 24]] a w → keccak_round.j3 k y3 = some r → K3 a w := by
        intro m g9 g10 y3 a w S h0
        delta keccak_round.j3 at h0
        refine hK3 a w ?_
        refine wp_seq_k ?_
        intro K4 hK4
        have j4 : ∀ (m : Mem) (g11 : Nat) (g12 : Nat) (y4 : List Int) (a : Act) (w : World), St 126 m (B0 mi w0) [(2, (.v (.pointer (some ⟨g11, 0, none⟩)))), (1, (.v (.pointer (some ⟨g12, 0, none⟩))))] [Res.cells g11 62 [.ints .u64 [0, 0, 0, 0, 0, 0, 0, 0, 0, 0, 0, 0, 0, 0, 0, 0, 0, 0, 0, 0, 0, 0, 0, 0, 0] 25], Res.cells g12 62 [.ints .u64 y4 25], Res.fro 1 72 [.ints .u64 tbl_keccak_constants 24], Res.fro 2 82 [.ints .i64 tbl_keccak_places 24], Res.fro 3 82 [.ints .i64 tbl_keccak_turns 24]] a w → keccak_round.j4 y4 = some r → K4 a w := by
          intro m g11 g12 y4 a w S h0
          delta keccak_round.j4 at h0
          refine hK4 a w ?_
          refine c_region ?_
          refine s_loada S rfl (.there .here) T62 (s' := [.ints .u64 y4 25]) rfl rfl ?_; clear S a; intro a S
          refine s_store S rfl rfl rfl (s' := [.ints .u64 y4 25]) .here T62 rfl rfl ?_; clear S w; intro w S
          refine c_end ?_
          refine wp_ret ?_
          obtain rfl := Option.some.inj h0
          exact b_ret1 (d := (.agg [.ints .u64 y4 25])) S rfl (resD_cell rfl .here T62 rfl rfl) fun ok => ⟨rfl, ok, S.below0⟩
        refine c_region ?_
        refine s_assign S rfl rfl ?_; clear S a; intro a S
        refine c_end ?_
        refine wp_block ?_
        refine c_loop (fun q1 a w => ∃ (m : Mem) (y9 : Int) (g21 : Nat) (g22 : Nat) (y10 : List Int), St 126 m (B0 mi w0) [(12, (.v (.int .i64 y9))), (2, (.v (.pointer (some ⟨g21, 0, none⟩)))), (1, (.v (.pointer (some ⟨g22, 0, none⟩))))] [Res.cells g21 62 [.ints .u64 [0, 0, 0, 0, 0, 0, 0, 0, 0, 0, 0, 0, 0, 0, 0, 0, 0, 0, 0, 0, 0, 0, 0, 0, 0] 25], Res.cells g22 62 [.ints .u64 y10 25], Res.fro 1 72 [.ints .u64 tbl_keccak_constants 24], Res.fro 2 82 [.ints .i64 tbl_keccak_places 24], Res.fro 3 82 [.ints .i64 tbl_keccak_turns 24]] a w ∧ keccak_round.l1 k q1 y9 y10 = some r) ?_ ?_ (k := k) ⟨_, 0, g9, g10, y3, (S.sub ⟨rfl, rfl, rfl, trivial⟩ (.cons .here (.cons .here (.cons .here (.cons .here (.cons .here .nil)))))), h0⟩
        · rintro a w ⟨m, y9, g21, g22, y10, S, h0⟩
          exact (nomatch (show (none : Option (List Int)) = some r from h0))
        · clear S h0
          rintro q1 a w ⟨m, y9, g21, g22, y10, S, h0⟩
          replace h0 : keccak_round.b1 k (keccak_round.l1 k q1) y9 y10 = some r := h0
          delta keccak_round.b1 at h0
          refine wp_seq ?_
          refine c_region ?_
          refine s_move S rfl rfl ?_; clear S a; intro a S
          refine s_bin S rfl rfl rfl rfl ?_; clear S a; intro a S
          refine c_end ?_
          rcases ite_of h0 with ⟨c1, h1⟩ | ⟨c1, h1⟩ <;> clear h0
          · refine c_condT S rfl c1 ?_
            refine wp_skip ?_
            refine x_thenN ?_
            refine wp_seq_k ?_
            intro K5 hK5
            have j5 : ∀ (m : Mem) (g23 : Nat) (g24 : Nat) (y11 : List Int) (a : Act) (w : World), St 126 m (B0 mi w0) [(12, (.v (.int .i64 y9))), (2, (.v (.pointer (some ⟨g23, 0, none⟩)))), (1, (.v (.pointer (some ⟨g24, 0, none⟩))))] [Res.cells g23 62 [.ints .u64 [0, 0, 0, 0, 0, 0, 0, 0, 0, 0, 0, 0, 0, 0, 0, 0, 0, 0, 0, 0, 0, 0, 0, 0, 0] 25], Res.cells g24 62 [.ints .u64 y11 25], Res.fro 1 72 [.ints .u64 tbl_keccak_constants 24], Res.fro 2 82 [.ints .i64 tbl_keccak_places 24], Res.fro 3 82 [.ints .i64 tbl_keccak_turns 24]] a w → keccak_round.j5 y9 (keccak_round.l1 k q1) y11 = some r → K5 a w := by
              intro m g23 g24 y11 a w S h0
              delta keccak_round.j5 at h0
              refine hK5 a w ?_
              refine c_region' ?_
              refine s_move S rfl rfl ?_; clear S a; intro a S
              refine s_bin S rfl rfl rfl rfl ?_; clear S a; intro a S
              refine s_assign S rfl rfl ?_; clear S a; intro a S
              refine c_end' ?_
              refine x_thenN ?_
              exact ⟨_, (wr .i64 (y9 + 5)), g23, g24, y11, (S.sub ⟨rfl, rfl, rfl, trivial⟩ (.cons .here (.cons .here (.cons .here (.cons .here (.cons .here .nil)))))), h0⟩
            refine wp_block ?_
            refine c_region ?_
            refine s_move S rfl rfl ?_; clear S a; intro a S
            refine s_move S rfl rfl ?_; clear S a; intro a S
            refine s_bin S rfl rfl rfl rfl ?_; clear S a; intro a S
            obtain ⟨c2, h2⟩ := chk_of h1; clear h1
            refine s_sliceA S (i := y9) (j := (wr .i64 (y9 + 5))) (o' := if 25 = Int.toNat y9 then 0 else 0 + Int.toNat y9 * 1) (len := Int.toNat (wr .i64 (y9 + 5)) - Int.toNat y9) (cap := 25 - Int.toNat y9) rfl Tryd.underlying62 T24 (.inr ⟨_, _, rfl, rfl⟩) (.inr ⟨_, _, rfl, rfl⟩) c2 rfl rfl rfl rfl ?_; clear S a; intro a S
            obtain ⟨c3, h3⟩ := chk_of h2; clear h2
            refine s_arrp S rfl Tryd.underlying79 c3 rfl ?_; clear S a; intro a S
            refine s_ldInts S (lo := (Int.toNat y9)) (ys := ((y10).drop (Int.toNat y9)).take 5) rfl (.there .here) T79 .here (ho_rng c2 c3) (by have h := c2; have h' := c3; omega) rfl rfl ?_; clear S a; intro a S
            refine s_alloc S Z79 rfl ⟨rfl, trivial⟩ rfl ?_; clear S a w; intro g25 a w S
            refine s_store S rfl rfl rfl (s' := [.ints .u64 (((y10).drop (Int.toNat y9)).take 5) 5]) .here T79 rfl rfl ?_; clear S w; intro w S
            refine c_end ?_
            refine c_region ?_
            refine s_move S rfl rfl ?_; clear S a; intro a S
            refine c_end ?_
            refine wp_block ?_
            refine c_loop (fun q2 a w => ∃ (m : Mem) (y14 : Int) (g32 : Nat) (g33 : Nat) (g34 : Nat) (y15 : List Int), St 126 m (B0 mi w0) [(101, (.v (.int .i64 y14))), (13, (.v (.pointer (some ⟨g32, 0, none⟩)))), (12, (.v (.int .i64 y9))), (2, (.v (.pointer (some ⟨g33, 0, none⟩)))), (1, (.v (.pointer (some ⟨g34, 0, none⟩))))] [Res.cells g32 79 [.ints .u64 (((y10).drop (Int.toNat y9)).take 5) 5], Res.cells g33 62 [.ints .u64 [0, 0, 0, 0, 0, 0, 0, 0, 0, 0, 0, 0, 0, 0, 0, 0, 0, 0, 0, 0, 0, 0, 0, 0, 0] 25], Res.cells g34 62 [.ints .u64 y15 25], Res.fro 1 72 [.ints .u64 tbl_keccak_constants 24], Res.fro 2 82 [.ints .i64 tbl_keccak_places 24], Res.fro 3 82 [.ints .i64 tbl_keccak_turns 24]] a w ∧ keccak_round.l2 y9 y10 (keccak_round.l1 k q1) q2 y14 y15 = some r) ?_ ?_ (k := k) ⟨_, 0, g25, g21, g22, y10, (S.sub ⟨rfl, rfl, rfl, rfl, rfl, trivial⟩ (.cons .here (.cons .here (.cons .here (.cons .here (.cons .here (.cons .here .nil))))))), h3⟩
            · rintro a w ⟨m, y14, g32, g33, g34, y15, S, h0⟩
              exact (nomatch (show (none : Option (List Int)) = some r from h0))
            · clear S h3
              rintro q2 a w ⟨m, y14, g32, g33, g34, y15, S, h0⟩
              replace h0 : keccak_round.b2 y9 y10 (keccak_round.l1 k q1) (keccak_round.l2 y9 y10 (keccak_round.l1 k q1) q2) y14 y15 = some r := h0
              delta keccak_round.b2 at h0
              refine c_region ?_
              refine s_bin S rfl rfl rfl rfl ?_; clear S a; intro a S
              refine c_end ?_
              refine wp_seq ?_
              rcases ite_of h0 with ⟨c4, h1⟩ | ⟨c4, h1⟩ <;> clear h0
              · refine c_condT S rfl c4 ?_
                refine wp_skip ?_
                refine x_thenN ?_
                refine wp_seq ?_
                refine wp_block ?_
                refine c_region ?_
                refine s_move S rfl rfl ?_; clear S a; intro a S
                refine s_assign S rfl rfl ?_; clear S a; intro a S
                refine c_end ?_
                refine c_heldS S (.take 0 (.take 1 (.take 2 (.take 3 (.take 4 (.take 5 (.take 6 (.take 7 (.take 8 (.take 9 (.take 10 (.take 11 (.take 12 (.take 13 (.take 14 (.take 15 (.take 16 (.take 17 (.take 18 (.take 19 (.alts (.run 20 false .done .nil)))))))))))))))))))))) 20 [Res.cells g32 79 [.ints .u64 (((y10).drop (Int.toNat y9)).take 5) 5], Res.cells g33 62 [.ints .u64 [0, 0, 0, 0, 0, 0, 0, 0, 0, 0, 0, 0, 0, 0, 0, 0, 0, 0, 0, 0, 0, 0, 0, 0, 0] 25], Res.cells g34 62 [.ints .u64 y15 25], Res.fro 1 72 [.ints .u64 tbl_keccak_constants 24], Res.fro 2 82 [.ints .i64 tbl_keccak_places 24], Res.fro 3 82 [.ints .i64 tbl_keccak_turns 24]] (.cons .here (.cons .here (.cons .here (.cons .here (.cons .here (.cons .here .nil)))))) ⟨Res.stay_cells, Res.stay_cells, Res.stay_cells, Res.stay_fro, Res.stay_fro, Res.stay_fro, trivial⟩ [(14, (.v (.int .i64 y14))), (13, (.v (.pointer (some ⟨g32, 0, none⟩)))), (12, (.v (.int .i64 y9))), (1, (.v (.pointer (some ⟨g34, 0, none⟩))))] ⟨rfl, rfl, rfl, rfl, trivial⟩ (by kernel_rfl) (by kernel_rfl) ?_; clear S; intro w S CL hw le
                refine h_move S CL hw le ⟨rfl, rfl, rfl, rfl, trivial⟩ rfl rfl rfl trivial ?_; clear S CL a; intro a S CL
                refine h_move S CL hw le ⟨rfl, rfl, rfl, rfl, rfl, trivial⟩ rfl rfl rfl trivial ?_; clear S CL a; intro a S CL
                refine h_bin S CL hw le ⟨rfl, rfl, rfl, rfl, rfl, rfl, trivial⟩ rfl rfl rfl rfl rfl trivial ?_; clear S CL a; intro a S CL
                refine h_move S CL hw le ⟨rfl, rfl, rfl, rfl, rfl, rfl, rfl, trivial⟩ rfl rfl rfl trivial ?_; clear S CL a; intro a S CL
                obtain ⟨c5, h2⟩ := chk_of h1; clear h1
                refine h_iaddr S CL hw le ⟨rfl, rfl, rfl, rfl, rfl, rfl, rfl, rfl, trivial⟩ rfl rfl Tryd.underlying79 T24 c5.1 c5.2 (mul1 _ _) rfl rfl trivial ?_; clear S CL a; intro a S CL
                refine h_loadi S CL hw le ⟨rfl, rfl, rfl, rfl, rfl, rfl, rfl, rfl, rfl, trivial⟩ (i := y14) rfl .here T24 .here rfl c5.1 c5.2 rfl rfl trivial ?_; clear S CL a; intro a S CL
                refine h_move S CL hw le ⟨rfl, rfl, rfl, rfl, rfl, rfl, rfl, rfl, rfl, rfl, trivial⟩ rfl rfl rfl trivial ?_; clear S CL a; intro a S CL
                refine h_bin S CL hw le ⟨rfl, rfl, rfl, rfl, rfl, rfl, rfl, rfl, rfl, rfl, rfl, trivial⟩ rfl rfl rfl rfl rfl trivial ?_; clear S CL a; intro a S CL
                refine h_rem S CL hw le ⟨rfl, rfl, rfl, rfl, rfl, rfl, rfl, rfl, rfl, rfl, rfl, rfl, trivial⟩ rfl rfl (by decide) rfl rfl trivial ?_; clear S CL a; intro a S CL
                obtain ⟨c6, h3⟩ := chk_of h2; clear h2
                refine h_iaddr S CL hw le ⟨rfl, rfl, rfl, rfl, rfl, rfl, rfl, rfl, rfl, rfl, rfl, rfl, rfl, trivial⟩ rfl rfl Tryd.underlying79 T24 c6.1 c6.2 (mul1 _ _) rfl rfl trivial ?_; clear S CL a; intro a S CL
                refine h_loadi S CL hw le ⟨rfl, rfl, rfl, rfl, rfl, rfl, rfl, rfl, rfl, rfl, rfl, rfl, rfl, rfl, trivial⟩ (i := (Int.tmod (wr .i64 (y14 + 1)) 5)) rfl .here T24 .here rfl c6.1 c6.2 rfl rfl trivial ?_; clear S CL a; intro a S CL
                refine h_un S CL hw le ⟨rfl, rfl, rfl, rfl, rfl, rfl, rfl, rfl, rfl, rfl, rfl, rfl, rfl, rfl, rfl, trivial⟩ rfl rfl rfl rfl trivial ?_; clear S CL a; intro a S CL
                refine h_move S CL hw le ⟨rfl, rfl, rfl, rfl, rfl, rfl, rfl, rfl, rfl, rfl, rfl, rfl, rfl, rfl, rfl, rfl, trivial⟩ rfl rfl rfl trivial ?_; clear S CL a; intro a S CL
                refine h_bin S CL hw le ⟨rfl, rfl, rfl, rfl, rfl, rfl, rfl, rfl, rfl, rfl, rfl, rfl, rfl, rfl, rfl, rfl, rfl, trivial⟩ rfl rfl rfl rfl rfl trivial ?_; clear S CL a; intro a S CL
                refine h_rem S CL hw le ⟨rfl, rfl, rfl, rfl, rfl, rfl, rfl, rfl, rfl, rfl, rfl, rfl, rfl, rfl, rfl, rfl, rfl, rfl, trivial⟩ rfl rfl (by decide) rfl rfl trivial ?_; clear S CL a; intro a S CL
                obtain ⟨c7, h4⟩ := chk_of h3; clear h3
                refine h_iaddr S CL hw le ⟨rfl, rfl, rfl, rfl, rfl, rfl, rfl, rfl, rfl, rfl, rfl, rfl, rfl, rfl, rfl, rfl, rfl, rfl, rfl, trivial⟩ rfl rfl Tryd.underlying79 T24 c7.1 c7.2 (mul1 _ _) rfl rfl trivial ?_; clear S CL a; intro a S CL
                refine h_loadi S CL hw le ⟨rfl, rfl, rfl, rfl, rfl, rfl, rfl, rfl, rfl, rfl, rfl, rfl, rfl, rfl, rfl, rfl, rfl, rfl, rfl, rfl, trivial⟩ (i := (Int.tmod (wr .i64 (y14 + 2)) 5)) rfl .here T24 .here rfl c7.1 c7.2 rfl rfl trivial ?_; clear S CL a; intro a S CL
                refine h_bin S CL hw le ⟨rfl, rfl, rfl, rfl, rfl, rfl, rfl, rfl, rfl, rfl, rfl, rfl, rfl, rfl, rfl, rfl, rfl, rfl, rfl, rfl, rfl, trivial⟩ rfl rfl rfl rfl rfl trivial ?_; clear S CL a; intro a S CL
                refine h_bin S CL hw le ⟨rfl, rfl, rfl, rfl, rfl, rfl, rfl, rfl, rfl, rfl, rfl, rfl, rfl, rfl, rfl, rfl, rfl, rfl, rfl, rfl, rfl, rfl, trivial⟩ rfl rfl rfl rfl rfl trivial ?_; clear S CL a; intro a S CL
                obtain ⟨c8, h5⟩ := chk_of h4; clear h4
                refine h_iaddr S CL hw le ⟨rfl, rfl, rfl, rfl, rfl, rfl, rfl, rfl, rfl, rfl, rfl, rfl, rfl, rfl, rfl, rfl, rfl, rfl, rfl, rfl, rfl, rfl, rfl, trivial⟩ rfl rfl Tryd.underlying62 T24 c8.1 c8.2 (mul1 _ _) rfl rfl trivial ?_; clear S CL a; intro a S CL
                refine h_run' S rfl trivial ?_
                refine s_storei S (i := (wr .i64 (y14 + y9))) rfl rfl (.there (.there .here)) T24 .here rfl c8.1 c8.2 ?_; clear S; intro w S
                refine h_back ⟨fun h => (nomatch h), ?_⟩
                refine h_done ?_; clear CL hw le
                refine x_blockN ?_
                refine x_thenN ?_
                refine c_region' ?_
                refine s_bin S rfl rfl rfl rfl ?_; clear S a; intro a S
                refine s_move S rfl rfl ?_; clear S a; intro a S
                refine c_end' ?_
                refine x_thenN ?_
                exact ⟨_, (wr .i64 (y14 + 1)), g32, g33, g34, (y15.set (Int.toNat (wr .i64 (y14 + y9))) (bits .xor .u64 (rd (((y10).drop (Int.toNat y9)).take 5) y14) (bits .and .u64 (bnot .u64 (rd (((y10).drop (Int.toNat y9)).take 5) (Int.tmod (wr .i64 (y14 + 1)) 5))) (rd (((y10).drop (Int.toNat y9)).take 5) (Int.tmod (wr .i64 (y14 + 2)) 5))))), (S.sub ⟨rfl, rfl, rfl, rfl, rfl, trivial⟩ (.cons .here (.cons .here (.cons .here (.cons .here (.cons .here (.cons .here .nil))))))), h5⟩
              · refine c_condF S rfl c4 ?_
                refine wp_exit ?_
                refine x_thenX ?_
                refine x_thenX ?_
                refine x_blockX ?_
                refine x_blockN ?_
                refine x_thenN ?_
                exact j5 _ g33 g34 y15 a w (S.sub ⟨rfl, rfl, rfl, trivial⟩ (.cons (.there .here) (.cons (.there .here) (.cons (.there .here) (.cons (.there .here) (.cons (.there .here) .nil)))))) h1
          · refine c_condF S rfl c1 ?_
            refine wp_exit ?_
            refine x_thenX ?_
            refine x_thenX ?_
            refine x_blockX ?_
            refine x_thenN ?_
            exact j4 _ g21 g22 y10 a w (S.sub ⟨rfl, rfl, trivial⟩ (.cons .here (.cons .here (.cons .here (.cons .here (.cons .here .nil)))))) h1
      refine c_region ?_
      refine s_loadaF S rfl (.there (.there (.there .here))) T82 (s' := [.ints .i64 tbl_keccak_places 24]) rfl rfl ?_; clear S a; intro a S
      refine s_move S rfl rfl ?_; clear S a; intro a S
      refine c_end ?_
      refine wp_block ?_
      refine c_loop (fun q3 a w => ∃ (m : Mem) (y19 : Int) (y20 : Int) (g39 : Nat) (g40 : Nat) (y21 : List Int), St 126 m (B0 mi w0) [(75, (.v (.int .i64 y19))), (74, (.agg [.ints .i64 tbl_keccak_places 24])), (8, (.v (.int .u64 y20))), (2, (.v (.pointer (some ⟨g39, 0, none⟩)))), (1, (.v (.pointer (some ⟨g40, 0, none⟩))))] [Res.cells g39 62 [.ints .u64 [0, 0, 0, 0, 0, 0, 0, 0, 0, 0, 0, 0, 0, 0, 0, 0, 0, 0, 0, 0, 0, 0, 0, 0, 0] 25], Res.cells g40 62 [.ints .u64 y21 25], Res.fro 1 72 [.ints .u64 tbl_keccak_constants 24], Res.fro 2 82 [.ints .i64 tbl_keccak_places 24], Res.fro 3 82 [.ints .i64 tbl_keccak_turns 24]] a w ∧ keccak_round.l3 k q3 y19 y20 y21 = some r) ?_ ?_ (k := k) ⟨_, 0, (rd y2 1), g7, g8, y2, (S.sub ⟨rfl, rfl, rfl, rfl, rfl, trivial⟩ (.cons .here (.cons .here (.cons .here (.cons .here (.cons .here .nil)))))), h0⟩
      · rintro a w ⟨m, y19, y20, g39, g40, y21, S, h0⟩
        exact (nomatch (show (none : Option (List Int)) = some r from h0))
      · clear S h0
        rintro q3 a w ⟨m, y19, y20, g39, g40, y21, S, h0⟩
        replace h0 : keccak_round.b3 k (keccak_round.l3 k q3) y19 y20 y21 = some r := h0
        delta keccak_round.b3 at h0
        refine c_region ?_
        refine s_bin S rfl rfl rfl rfl ?_; clear S a; intro a S
        refine c_end ?_
        refine wp_seq ?_
        rcases ite_of h0 with ⟨c9, h1⟩ | ⟨c9, h1⟩ <;> clear h0
        · refine c_condT S rfl c9 ?_
          refine wp_skip ?_
          refine x_thenN ?_
          refine wp_seq ?_
          refine wp_block ?_
          refine c_region ?_
          refine s_move S rfl rfl ?_; clear S a; intro a S
          obtain ⟨c10, h2⟩ := chk_of h1; clear h1
          refine s_index S rfl rfl Tryd.underlying82 T3 c10.1 c10.2 rfl ?_; clear S a; intro a S
          refine s_assign S rfl rfl ?_; clear S a; intro a S
          refine s_assign S rfl rfl ?_; clear S a; intro a S
          refine c_end ?_
          refine c_region ?_
          refine s_move S rfl rfl ?_; clear S a; intro a S
          obtain ⟨c11, h3⟩ := chk_of h2; clear h2
          refine s_iaddr S rfl rfl Tryd.underlying62 T24 c11.1 c11.2 (mul1 _ _) rfl ?_; clear S a; intro a S
          refine s_loadi S (i := (rd tbl_keccak_places y19)) rfl (.there .here) T24 .here rfl c11.1 c11.2 rfl ?_; clear S a; intro a S
          refine s_assign S rfl rfl ?_; clear S a; intro a S
          refine c_end ?_
          refine c_region ?_
          refine s_move S rfl rfl ?_; clear S a; intro a S
          refine s_move S rfl rfl ?_; clear S a; intro a S
          refine s_move S rfl rfl ?_; clear S a; intro a S
          refine s_iaddr S rfl rfl Tryd.underlying82 T3 c10.1 c10.2 (mul1 _ _) rfl ?_; clear S a; intro a S
          refine s_loadiF S (i := y19) rfl (.there (.there (.there (.there .here)))) T3 .here rfl c10.1 c10.2 rfl ?_; clear S a; intro a S
          obtain ⟨t1, et1, h4⟩ := bind_of h3; clear h3
          refine s_call S (ds := [(.v (.int .u64 y20)), (.v (.int .i64 (rd tbl_keccak_turns y19)))]) (d := (.v (.int .u64 t1))) N51 rfl rfl (bits_RotateLeft64.ok y20 (rd tbl_keccak_turns y19) t1 et1 _ _) ?_; clear S a w; intro a w S
          refine s_iaddr S rfl rfl Tryd.underlying62 T24 c11.1 c11.2 (mul1 _ _) rfl ?_; clear S a; intro a S
          refine s_storei S (i := (rd tbl_keccak_places y19)) rfl rfl (.there .here) T24 .here rfl c11.1 c11.2 ?_; clear S w; intro w S
          refine c_end ?_
          refine c_region' ?_
          refine s_move S rfl rfl ?_; clear S a; intro a S
          refine s_assign S rfl rfl ?_; clear S a; intro a S
          refine c_end' ?_
          refine x_blockN ?_
          refine x_thenN ?_
          refine c_region' ?_
          refine s_bin S rfl rfl rfl rfl ?_; clear S a; intro a S
          refine s_move S rfl rfl ?_; clear S a; intro a S
          refine c_end' ?_
          refine x_thenN ?_
          exact ⟨_, (wr .i64 (y19 + 1)), (rd y21 (rd tbl_keccak_places y19)), g39, g40, (y21.set (Int.toNat (rd tbl_keccak_places y19)) t1), (S.sub ⟨rfl, rfl, rfl, rfl, rfl, trivial⟩ (.cons .here (.cons .here (.cons .here (.cons .here (.cons .here .nil)))))), h4⟩
        · refine c_condF S rfl c9 ?_
          refine wp_exit ?_
          refine x_thenX ?_
          refine x_thenX ?_
          refine x_blockX ?_
          refine x_thenN ?_
          exact j3 _ g39 g40 y21 a w (S.sub ⟨rfl, rfl, trivial⟩ (.cons .here (.cons .here (.cons .here (.cons .here (.cons .here .nil)))))) h1
    refine c_region ?_
    refine s_move S rfl rfl ?_; clear S a; intro a S
    refine c_end ?_
    refine wp_block ?_
    refine c_loop (fun q4 a w => ∃ (m : Mem) (y26 : Int) (g53 : Nat) (g54 : Nat) (g55 : Nat) (y27 : List Int), St 126 m (B0 mi w0) [(44, (.v (.int .i64 y26))), (3, (.v (.pointer (some ⟨g53, 0, none⟩)))), (2, (.v (.pointer (some ⟨g54, 0, none⟩)))), (1, (.v (.pointer (some ⟨g55, 0, none⟩))))] [Res.cells g53 79 [.ints .u64 y1 5], Res.cells g54 62 [.ints .u64 [0, 0, 0, 0, 0, 0, 0, 0, 0, 0, 0, 0, 0, 0, 0, 0, 0, 0, 0, 0, 0, 0, 0, 0, 0] 25], Res.cells g55 62 [.ints .u64 y27 25], Res.fro 1 72 [.ints .u64 tbl_keccak_constants 24], Res.fro 2 82 [.ints .i64 tbl_keccak_places 24], Res.fro 3 82 [.ints .i64 tbl_keccak_turns 24]] a w ∧ keccak_round.l4 k y1 q4 y26 y27 = some r) ?_ ?_ (k := k) ⟨_, 0, g4, g5, g6, x1, (S.sub ⟨rfl, rfl, rfl, rfl, trivial⟩ (.cons .here (.cons .here (.cons .here (.cons .here (.cons .here (.cons .here .nil))))))), h0⟩
    · rintro a w ⟨m, y26, g53, g54, g55, y27, S, h0⟩
      exact (nomatch (show (none : Option (List Int)) = some r from h0))
    · clear S h0
      rintro q4 a w ⟨m, y26, g53, g54, g55, y27, S, h0⟩
      replace h0 : keccak_round.b4 k y1 (keccak_round.l4 k y1 q4) y26 y27 = some r := h0
      delta keccak_round.b4 at h0
      refine c_region ?_
      refine s_bin S rfl rfl rfl rfl ?_; clear S a; intro a S
      refine c_end ?_
      refine wp_seq ?_
      rcases ite_of h0 with ⟨c12, h1⟩ | ⟨c12, h1⟩ <;> clear h0
      · refine c_condT S rfl c12 ?_
        refine wp_skip ?_
        refine x_thenN ?_
        refine wp_seq_k ?_
        intro K6 hK6
        have j6 : ∀ (m : Mem) (g56 : Nat) (g57 : Nat) (g58 : Nat) (y28 : List Int) (a : Act) (w : World), St 126 m (B0 mi w0) [(44, (.v (.int .i64 y26))), (3, (.v (.pointer (some ⟨g56, 0, none⟩)))), (2, (.v (.pointer (some ⟨g57, 0, none⟩)))), (1, (.v (.pointer (some ⟨g58, 0, none⟩))))] [Res.cells g56 79 [.ints .u64 y1 5], Res.cells g57 62 [.ints .u64 [0, 0, 0, 0, 0, 0, 0, 0, 0, 0, 0, 0, 0, 0, 0, 0, 0, 0, 0, 0, 0, 0, 0, 0, 0] 25], Res.cells g58 62 [.ints .u64 y28 25], Res.fro 1 72 [.ints .u64 tbl_keccak_constants 24], Res.fro 2 82 [.ints .i64 tbl_keccak_places 24], Res.fro 3 82 [.ints .i64 tbl_keccak_turns 24]] a w → keccak_round.j6 y26 (keccak_round.l4 k y1 q4) y28 = some r → K6 a w := by
          intro m g56 g57 g58 y28 a w S h0
          delta keccak_round.j6 at h0
          refine hK6 a w ?_
          refine c_region' ?_
          refine s_bin S rfl rfl rfl rfl ?_; clear S a; intro a S
          refine s_move S rfl rfl ?_; clear S a; intro a S
          refine c_end' ?_
          refine x_thenN ?_
          exact ⟨_, (wr .i64 (y26 + 1)), g56, g57, g58, y28, (S.sub ⟨rfl, rfl, rfl, rfl, trivial⟩ (.cons .here (.cons .here (.cons .here (.cons .here (.cons .here (.cons .here .nil))))))), h0⟩
        refine wp_block ?_
        refine c_region ?_
        refine s_move S rfl rfl ?_; clear S a; intro a S
        refine s_assign S rfl rfl ?_; clear S a; intro a S
        refine c_end ?_
        refine wp_seq (c_heldS S (.take 0 (.take 1 (.take 2 (.take 3 (.take 4 (.take 5 (.take 6 (.take 7 (.take 8 (.take 9 (.alts (.run 10 true (.take 11 (.take 12 .done)) .nil)))))))))))) 13 [Res.cells g53 79 [.ints .u64 y1 5], Res.cells g54 62 [.ints .u64 [0, 0, 0, 0, 0, 0, 0, 0, 0, 0, 0, 0, 0, 0, 0, 0, 0, 0, 0, 0, 0, 0, 0, 0, 0] 25], Res.cells g55 62 [.ints .u64 y27 25], Res.fro 1 72 [.ints .u64 tbl_keccak_constants 24], Res.fro 2 82 [.ints .i64 tbl_keccak_places 24], Res.fro 3 82 [.ints .i64 tbl_keccak_turns 24]] (.cons .here (.cons .here (.cons .here (.cons .here (.cons .here (.cons .here .nil)))))) ⟨Res.stay_cells, Res.stay_cells, Res.stay_cells, Res.stay_fro, Res.stay_fro, Res.stay_fro, trivial⟩ [(5, (.v (.int .i64 y26))), (3, (.v (.pointer (some ⟨g53, 0, none⟩))))] ⟨rfl, rfl, trivial⟩ (by kernel_rfl) (by kernel_rfl) ?_); clear S; intro w S CL hw le
        refine h_move S CL hw le ⟨rfl, rfl, trivial⟩ rfl rfl rfl trivial ?_; clear S CL a; intro a S CL
        refine h_bin S CL hw le ⟨rfl, rfl, rfl, trivial⟩ rfl rfl rfl rfl rfl trivial ?_; clear S CL a; intro a S CL
        refine h_rem S CL hw le ⟨rfl, rfl, rfl, rfl, trivial⟩ rfl rfl (by decide) rfl rfl trivial ?_; clear S CL a; intro a S CL
        obtain ⟨c13, h2⟩ := chk_of h1; clear h1
        refine h_iaddr S CL hw le ⟨rfl, rfl, rfl, rfl, rfl, trivial⟩ rfl rfl Tryd.underlying79 T24 c13.1 c13.2 (mul1 _ _) rfl rfl trivial ?_; clear S CL a; intro a S CL
        refine h_loadi S CL hw le ⟨rfl, rfl, rfl, rfl, rfl, rfl, trivial⟩ (i := (Int.tmod (wr .i64 (y26 + 4)) 5)) rfl .here T24 .here rfl c13.1 c13.2 rfl rfl trivial ?_; clear S CL a; intro a S CL
        refine h_move S CL hw le ⟨rfl, rfl, rfl, rfl, rfl, rfl, rfl, trivial⟩ rfl rfl rfl trivial ?_; clear S CL a; intro a S CL
        refine h_bin S CL hw le ⟨rfl, rfl, rfl, rfl, rfl, rfl, rfl, rfl, trivial⟩ rfl rfl rfl rfl rfl trivial ?_; clear S CL a; intro a S CL
        refine h_rem S CL hw le ⟨rfl, rfl, rfl, rfl, rfl, rfl, rfl, rfl, rfl, trivial⟩ rfl rfl (by decide) rfl rfl trivial ?_; clear S CL a; intro a S CL
        obtain ⟨c14, h3⟩ := chk_of h2; clear h2
        refine h_iaddr S CL hw le ⟨rfl, rfl, rfl, rfl, rfl, rfl, rfl, rfl, rfl, rfl, trivial⟩ rfl rfl Tryd.underlying79 T24 c14.1 c14.2 (mul1 _ _) rfl rfl trivial ?_; clear S CL a; intro a S CL
        refine h_loadi S CL hw le ⟨rfl, rfl, rfl, rfl, rfl, rfl, rfl, rfl, rfl, rfl, rfl, trivial⟩ (i := (Int.tmod (wr .i64 (y26 + 1)) 5)) rfl .here T24 .here rfl c14.1 c14.2 rfl rfl trivial ?_; clear S CL a; intro a S CL
        refine h_run' S rfl trivial ?_
        obtain ⟨t2, et2, h4⟩ := bind_of h3; clear h3
        refine s_call S (ds := [(.v (.int .u64 (rd y1 (Int.tmod (wr .i64 (y26 + 1)) 5)))), (.v (.int .i64 1))]) (d := (.v (.int .u64 t2))) N51 rfl rfl (bits_RotateLeft64.ok (rd y1 (Int.tmod (wr .i64 (y26 + 1)) 5)) 1 t2 et2 _ _) ?_; clear S a; intro a w S
        replace hw := CL.again hw S (.cons .here (.cons .here (.cons .here (.cons .here (.cons .here (.cons .here .nil)))))) le
        refine h_back ⟨fun _ => hw, ?_⟩
        replace CL := CL.add (t := 57) (d := (.v (.int .u64 t2))) S rfl rfl
        refine h_bin S CL hw le ⟨rfl, rfl, rfl, rfl, rfl, rfl, rfl, rfl, rfl, rfl, rfl, rfl, rfl, trivial⟩ rfl rfl rfl rfl rfl trivial ?_; clear S CL a; intro a S CL
        refine h_assign S CL hw le ⟨rfl, rfl, rfl, rfl, rfl, rfl, rfl, rfl, rfl, rfl, rfl, rfl, rfl, rfl, trivial⟩ rfl rfl rfl trivial ?_; clear S CL a; intro a S CL
        refine h_done ?_; clear CL hw le
        refine x_thenN ?_
        refine c_region ?_
        refine s_assign S rfl rfl ?_; clear S a; intro a S
        refine c_end ?_
        refine wp_block ?_
        refine c_loop (fun q5 a w => ∃ (m : Mem) (y31 : Int) (g65 : Nat) (g66 : Nat) (g67 : Nat) (y32 : List Int), St 126 m (B0 mi w0) [(7, (.v (.int .i64 y31))), (6, (.v (.int .u64 (bits .xor .u64 (rd y1 (Int.tmod (wr .i64 (y26 + 4)) 5)) t2)))), (5, (.v (.int .i64 y26))), (44, (.v (.int .i64 y26))), (3, (.v (.pointer (some ⟨g65, 0, none⟩)))), (2, (.v (.pointer (some ⟨g66, 0, none⟩)))), (1, (.v (.pointer (some ⟨g67, 0, none⟩))))] [Res.cells g65 79 [.ints .u64 y1 5], Res.cells g66 62 [.ints .u64 [0, 0, 0, 0, 0, 0, 0, 0, 0, 0, 0, 0, 0, 0, 0, 0, 0, 0, 0, 0, 0, 0, 0, 0, 0] 25], Res.cells g67 62 [.ints .u64 y32 25], Res.fro 1 72 [.ints .u64 tbl_keccak_constants 24], Res.fro 2 82 [.ints .i64 tbl_keccak_places 24], Res.fro 3 82 [.ints .i64 tbl_keccak_turns 24]] a w ∧ keccak_round.l5 y1 y26 (keccak_round.l4 k y1 q4) t2 q5 y31 y32 = some r) ?_ ?_ (k := k) ⟨_, 0, g53, g54, g55, y27, (S.sub ⟨rfl, rfl, rfl, rfl, rfl, rfl, rfl, trivial⟩ (.cons .here (.cons .here (.cons .here (.cons .here (.cons .here (.cons .here .nil))))))), h4⟩
        · rintro a w ⟨m, y31, g65, g66, g67, y32, S, h0⟩
          exact (nomatch (show (none : Option (List Int)) = some r from h0))
        · clear S h4
          rintro q5 a w ⟨m, y31, g65, g66, g67, y32, S, h0⟩
          replace h0 : keccak_round.b5 y1 y26 (keccak_round.l4 k y1 q4) t2 (keccak_round.l5 y1 y26 (keccak_round.l4 k y1 q4) t2 q5) y31 y32 = some r := h0
          delta keccak_round.b5 at h0
          refine wp_seq ?_
          refine c_region ?_
          refine s_move S rfl rfl ?_; clear S a; intro a S
          refine s_bin S rfl rfl rfl rfl ?_; clear S a; intro a S
          refine c_end ?_
          rcases ite_of h0 with ⟨c15, h1⟩ | ⟨c15, h1⟩ <;> clear h0
          · refine c_condT S rfl c15 ?_
            refine wp_skip ?_
            refine x_thenN ?_
            refine wp_seq ?_
            refine wp_block ?_
            refine c_region' ?_
            refine s_move S rfl rfl ?_; clear S a; intro a S
            refine s_move S rfl rfl ?_; clear S a; intro a S
            refine s_bin S rfl rfl rfl rfl ?_; clear S a; intro a S
            obtain ⟨c16, h2⟩ := chk_of h1; clear h1
            refine s_iaddr S rfl rfl Tryd.underlying62 T24 c16.1 c16.2 (mul1 _ _) rfl ?_; clear S a; intro a S
            refine s_loadi S (i := (wr .i64 (y26 + y31))) rfl (.there (.there .here)) T24 .here rfl c16.1 c16.2 rfl ?_; clear S a; intro a S
            refine s_move S rfl rfl ?_; clear S a; intro a S
            refine s_bin S rfl rfl rfl rfl ?_; clear S a; intro a S
            refine s_iaddr S rfl rfl Tryd.underlying62 T24 c16.1 c16.2 (mul1 _ _) rfl ?_; clear S a; intro a S
            refine s_storei S (i := (wr .i64 (y26 + y31))) rfl rfl (.there (.there .here)) T24 .here rfl c16.1 c16.2 ?_; clear S w; intro w S
            refine c_end' ?_
            refine x_blockN ?_
            refine x_thenN ?_
            refine c_region' ?_
            refine s_move S rfl rfl ?_; clear S a; intro a S
            refine s_bin S rfl rfl rfl rfl ?_; clear S a; intro a S
            refine s_assign S rfl rfl ?_; clear S a; intro a S
            refine c_end' ?_
            refine x_thenN ?_
            exact ⟨_, (wr .i64 (y31 + 5)), g65, g66, g67, (y32.set (Int.toNat (wr .i64 (y26 + y31))) (bits .xor .u64 (rd y32 (wr .i64 (y26 + y31))) (bits .xor .u64 (rd y1 (Int.tmod (wr .i64 (y26 + 4)) 5)) t2))), (S.sub ⟨rfl, rfl, rfl, rfl, rfl, rfl, rfl, trivial⟩ (.cons .here (.cons .here (.cons .here (.cons .here (.cons .here (.cons .here .nil))))))), h2⟩
          · refine c_condF S rfl c15 ?_
            refine wp_exit ?_
            refine x_thenX ?_
            refine x_thenX ?_
            refine x_blockX ?_
            refine x_blockN ?_
            refine x_thenN ?_
            exact j6 _ g65 g66 g67 y32 a w (S.sub ⟨rfl, rfl, rfl, rfl, trivial⟩ (.cons .here (.cons .here (.cons .here (.cons .here (.cons .here (.cons .here .nil))))))) h1
      · refine c_condF S rfl c12 ?_
        refine wp_exit ?_
        refine x_thenX ?_
        refine x_thenX ?_
        refine x_blockX ?_
        refine x_thenN ?_
        exact j2 _ g54 g55 y27 a w (S.sub ⟨rfl, rfl, trivial⟩ (.cons (.there .here) (.cons (.there .here) (.cons (.there .here) (.cons (.there .here) (.cons (.there .here) .nil)))))) h1
  refine c_region ?_
  refine s_move S rfl rfl ?_; clear S a; intro a S
  refine c_end ?_
  refine wp_block ?_
  refine c_loop (fun q6 a w => ∃ (m : Mem) (y35 : Int) (g74 : Nat) (g75 : Nat) (g76 : Nat) (y36 : List Int), St 126 m (B0 mi w0) [(15, (.v (.int .i64 y35))), (3, (.v (.pointer (some ⟨g74, 0, none⟩)))), (2, (.v (.pointer (some ⟨g75, 0, none⟩)))), (1, (.v (.pointer (some ⟨g76, 0, none⟩))))] [Res.cells g74 79 [.ints .u64 y36 5], Res.cells g75 62 [.ints .u64 [0, 0, 0, 0, 0, 0, 0, 0, 0, 0, 0, 0, 0, 0, 0, 0, 0, 0, 0, 0, 0, 0, 0, 0, 0] 25], Res.cells g76 62 [.ints .u64 x1 25], Res.fro 1 72 [.ints .u64 tbl_keccak_constants 24], Res.fro 2 82 [.ints .i64 tbl_keccak_places 24], Res.fro 3 82 [.ints .i64 tbl_keccak_turns 24]] a w ∧ keccak_round.l6 k x1 q6 y35 y36 = some r) ?_ ?_ (k := k) ⟨_, 0, g3, g2, g1, [0, 0, 0, 0, 0], (S.sub ⟨rfl, rfl, rfl, rfl, trivial⟩ (.cons .here (.cons .here (.cons .here (.cons .here (.cons .here (.cons .here .nil))))))), h0⟩
  · rintro a w ⟨m, y35, g74, g75, g76, y36, S, h0⟩
    exact (nomatch (show (none : Option (List Int)) = some r from h0))
  · clear S h0
    rintro q6 a w ⟨m, y35, g74, g75, g76, y36, S, h0⟩
    replace h0 : keccak_round.b6 k x1 (keccak_round.l6 k x1 q6) y35 y36 = some r := h0
    delta keccak_round.b6 at h0
    refine c_region ?_
    refine s_bin S rfl rfl rfl rfl ?_; clear S a; intro a S
    refine c_end ?_
    refine wp_seq ?_
    rcases ite_of h0 with ⟨c17, h1⟩ | ⟨c17, h1⟩ <;> clear h0
    · refine c_condT S rfl c17 ?_
      refine wp_skip ?_
      refine x_thenN ?_
      refine wp_seq ?_
      refine wp_block ?_
      refine c_region ?_
      refine s_move S rfl rfl ?_; clear S a; intro a S
      refine s_assign S rfl rfl ?_; clear S a; intro a S
      refine c_end ?_
      refine c_heldS S (.take 0 (.take 1 (.take 2 (.take 3 (.take 4 (.take 5 (.take 6 (.take 7 (.take 8 (.take 9 (.take 10 (.take 11 (.take 12 (.take 13 (.take 14 (.take 15 (.take 16 (.take 17 (.take 18 (.take 19 (.take 20 (.take 21 (.take 22 (.take 23 (.take 24 (.alts (.run 25 false .done .nil))))))))))))))))))))))))))) 25 [Res.cells g74 79 [.ints .u64 y36 5], Res.cells g75 62 [.ints .u64 [0, 0, 0, 0, 0, 0, 0, 0, 0, 0, 0, 0, 0, 0, 0, 0, 0, 0, 0, 0, 0, 0, 0, 0, 0] 25], Res.cells g76 62 [.ints .u64 x1 25], Res.fro 1 72 [.ints .u64 tbl_keccak_constants 24], Res.fro 2 82 [.ints .i64 tbl_keccak_places 24], Res.fro 3 82 [.ints .i64 tbl_keccak_turns 24]] (.cons .here (.cons .here (.cons .here (.cons .here (.cons .here (.cons .here .nil)))))) ⟨Res.stay_cells, Res.stay_cells, Res.stay_cells, Res.stay_fro, Res.stay_fro, Res.stay_fro, trivial⟩ [(4, (.v (.int .i64 y35))), (3, (.v (.pointer (some ⟨g74, 0, none⟩)))), (1, (.v (.pointer (some ⟨g76, 0, none⟩))))] ⟨rfl, rfl, rfl, trivial⟩ (by kernel_rfl) (by kernel_rfl) ?_; clear S; intro w S CL hw le
      refine h_move S CL hw le ⟨rfl, rfl, rfl, trivial⟩ rfl rfl rfl trivial ?_; clear S CL a; intro a S CL
      refine h_move S CL hw le ⟨rfl, rfl, rfl, rfl, trivial⟩ rfl rfl rfl trivial ?_; clear S CL a; intro a S CL
      obtain ⟨c18, h2⟩ := chk_of h1; clear h1
      refine h_iaddr S CL hw le ⟨rfl, rfl, rfl, rfl, rfl, trivial⟩ rfl rfl Tryd.underlying62 T24 c18.1 c18.2 (mul1 _ _) rfl rfl trivial ?_; clear S CL a; intro a S CL
      refine h_loadi S CL hw le ⟨rfl, rfl, rfl, rfl, rfl, rfl, trivial⟩ (i := y35) rfl (.there (.there .here)) T24 .here rfl c18.1 c18.2 rfl rfl trivial ?_; clear S CL a; intro a S CL
      refine h_move S CL hw le ⟨rfl, rfl, rfl, rfl, rfl, rfl, rfl, trivial⟩ rfl rfl rfl trivial ?_; clear S CL a; intro a S CL
      refine h_bin S CL hw le ⟨rfl, rfl, rfl, rfl, rfl, rfl, rfl, rfl, trivial⟩ rfl rfl rfl rfl rfl trivial ?_; clear S CL a; intro a S CL
      obtain ⟨c19, h3⟩ := chk_of h2; clear h2
      refine h_iaddr S CL hw le ⟨rfl, rfl, rfl, rfl, rfl, rfl, rfl, rfl, rfl, trivial⟩ rfl rfl Tryd.underlying62 T24 c19.1 c19.2 (mul1 _ _) rfl rfl trivial ?_; clear S CL a; intro a S CL
      refine h_loadi S CL hw le ⟨rfl, rfl, rfl, rfl, rfl, rfl, rfl, rfl, rfl, rfl, trivial⟩ (i := (wr .i64 (y35 + 5))) rfl (.there (.there .here)) T24 .here rfl c19.1 c19.2 rfl rfl trivial ?_; clear S CL a; intro a S CL
      refine h_bin S CL hw le ⟨rfl, rfl, rfl, rfl, rfl, rfl, rfl, rfl, rfl, rfl, rfl, trivial⟩ rfl rfl rfl rfl rfl trivial ?_; clear S CL a; intro a S CL
      refine h_move S CL hw le ⟨rfl, rfl, rfl, rfl, rfl, rfl, rfl, rfl, rfl, rfl, rfl, rfl, trivial⟩ rfl rfl rfl trivial ?_; clear S CL a; intro a S CL
      refine h_bin S CL hw le ⟨rfl, rfl, rfl, rfl, rfl, rfl, rfl, rfl, rfl, rfl, rfl, rfl, rfl, trivial⟩ rfl rfl rfl rfl rfl trivial ?_; clear S CL a; intro a S CL
      obtain ⟨c20, h4⟩ := chk_of h3; clear h3
      refine h_iaddr S CL hw le ⟨rfl, rfl, rfl, rfl, rfl, rfl, rfl, rfl, rfl, rfl, rfl, rfl, rfl, rfl, trivial⟩ rfl rfl Tryd.underlying62 T24 c20.1 c20.2 (mul1 _ _) rfl rfl trivial ?_; clear S CL a; intro a S CL
      refine h_loadi S CL hw le ⟨rfl, rfl, rfl, rfl, rfl, rfl, rfl, rfl, rfl, rfl, rfl, rfl, rfl, rfl, rfl, trivial⟩ (i := (wr .i64 (y35 + 10))) rfl (.there (.there .here)) T24 .here rfl c20.1 c20.2 rfl rfl trivial ?_; clear S CL a; intro a S CL
      refine h_bin S CL hw le ⟨rfl, rfl, rfl, rfl, rfl, rfl, rfl, rfl, rfl, rfl, rfl, rfl, rfl, rfl, rfl, rfl, trivial⟩ rfl rfl rfl rfl rfl trivial ?_; clear S CL a; intro a S CL
      refine h_move S CL hw le ⟨rfl, rfl, rfl, rfl, rfl, rfl, rfl, rfl, rfl, rfl, rfl, rfl, rfl, rfl, rfl, rfl, rfl, trivial⟩ rfl rfl rfl trivial ?_; clear S CL a; intro a S CL
      refine h_bin S CL hw le ⟨rfl, rfl, rfl, rfl, rfl, rfl, rfl, rfl, rfl, rfl, rfl, rfl, rfl, rfl, rfl, rfl, rfl, rfl, trivial⟩ rfl rfl rfl rfl rfl trivial ?_; clear S CL a; intro a S CL
      obtain ⟨c21, h5⟩ := chk_of h4; clear h4
      refine h_iaddr S CL hw le ⟨rfl, rfl, rfl, rfl, rfl, rfl, rfl, rfl, rfl, rfl, rfl, rfl, rfl, rfl, rfl, rfl, rfl, rfl, rfl, trivial⟩ rfl rfl Tryd.underlying62 T24 c21.1 c21.2 (mul1 _ _) rfl rfl trivial ?_; clear S CL a; intro a S CL
      refine h_loadi S CL hw le ⟨rfl, rfl, rfl, rfl, rfl, rfl, rfl, rfl, rfl, rfl, rfl, rfl, rfl, rfl, rfl, rfl, rfl, rfl, rfl, rfl, trivial⟩ (i := (wr .i64 (y35 + 15))) rfl (.there (.there .here)) T24 .here rfl c21.1 c21.2 rfl rfl trivial ?_; clear S CL a; intro a S CL
      refine h_bin S CL hw le ⟨rfl, rfl, rfl, rfl, rfl, rfl, rfl, rfl, rfl, rfl, rfl, rfl, rfl, rfl, rfl, rfl, rfl, rfl, rfl, rfl, rfl, trivial⟩ rfl rfl rfl rfl rfl trivial ?_; clear S CL a; intro a S CL
      refine h_move S CL hw le ⟨rfl, rfl, rfl, rfl, rfl, rfl, rfl, rfl, rfl, rfl, rfl, rfl, rfl, rfl, rfl, rfl, rfl, rfl, rfl, rfl, rfl, rfl, trivial⟩ rfl rfl rfl trivial ?_; clear S CL a; intro a S CL
      refine h_bin S CL hw le ⟨rfl, rfl, rfl, rfl, rfl, rfl, rfl, rfl, rfl, rfl, rfl, rfl, rfl, rfl, rfl, rfl, rfl, rfl, rfl, rfl, rfl, rfl, rfl, trivial⟩ rfl rfl rfl rfl rfl trivial ?_; clear S CL a; intro a S CL
      obtain ⟨c22, h6⟩ := chk_of h5; clear h5
      refine h_iaddr S CL hw le ⟨rfl, rfl, rfl, rfl, rfl, rfl, rfl, rfl, rfl, rfl, rfl, rfl, rfl, rfl, rfl, rfl, rfl, rfl, rfl, rfl, rfl, rfl, rfl, rfl, trivial⟩ rfl rfl Tryd.underlying62 T24 c22.1 c22.2 (mul1 _ _) rfl rfl trivial ?_; clear S CL a; intro a S CL
      refine h_loadi S CL hw le ⟨rfl, rfl, rfl, rfl, rfl, rfl, rfl, rfl, rfl, rfl, rfl, rfl, rfl, rfl, rfl, rfl, rfl, rfl, rfl, rfl, rfl, rfl, rfl, rfl, rfl, trivial⟩ (i := (wr .i64 (y35 + 20))) rfl (.there (.there .here)) T24 .here rfl c22.1 c22.2 rfl rfl trivial ?_; clear S CL a; intro a S CL
      refine h_bin S CL hw le ⟨rfl, rfl, rfl, rfl, rfl, rfl, rfl, rfl, rfl, rfl, rfl, rfl, rfl, rfl, rfl, rfl, rfl, rfl, rfl, rfl, rfl, rfl, rfl, rfl, rfl, rfl, trivial⟩ rfl rfl rfl rfl rfl trivial ?_; clear S CL a; intro a S CL
      obtain ⟨c23, h7⟩ := chk_of h6; clear h6
      refine h_iaddr S CL hw le ⟨rfl, rfl, rfl, rfl, rfl, rfl, rfl, rfl, rfl, rfl, rfl, rfl, rfl, rfl, rfl, rfl, rfl, rfl, rfl, rfl, rfl, rfl, rfl, rfl, rfl, rfl, rfl, trivial⟩ rfl rfl Tryd.underlying79 T24 c23.1 c23.2 (mul1 _ _) rfl rfl trivial ?_; clear S CL a; intro a S CL
      refine h_run' S rfl trivial ?_
      refine s_storei S (i := y35) rfl rfl .here T24 .here rfl c23.1 c23.2 ?_; clear S; intro w S
      refine h_back ⟨fun h => (nomatch h), ?_⟩
      refine h_done ?_; clear CL hw le
      refine x_blockN ?_
      refine x_thenN ?_
      refine c_region' ?_
      refine s_bin S rfl rfl rfl rfl ?_; clear S a; intro a S
      refine s_move S rfl rfl ?_; clear S a; intro a S
      refine c_end' ?_
      refine x_thenN ?_
      exact ⟨_, (wr .i64 (y35 + 1)), g74, g75, g76, (y36.set (Int.toNat y35) (bits .xor .u64 (bits .xor .u64 (bits .xor .u64 (bits .xor .u64 (rd x1 y35) (rd x1 (wr .i64 (y35 + 5)))) (rd x1 (wr .i64 (y35 + 10)))) (rd x1 (wr .i64 (y35 + 15)))) (rd x1 (wr .i64 (y35 + 20))))), (S.sub ⟨rfl, rfl, rfl, rfl, trivial⟩ (.cons .here (.cons .here (.cons .here (.cons .here (.cons .here (.cons .here .nil))))))), h7⟩
    · refine c_condF S rfl c17 ?_
      refine wp_exit ?_
      refine x_thenX ?_
      refine x_thenX ?_
      refine x_blockX ?_
      refine x_thenN ?_
      exact j1 _ g74 g75 g76 y36 a w (S.sub ⟨rfl, rfl, rfl, trivial⟩ (.cons .here (.cons .here (.cons .here (.cons .here (.cons .here (.cons .here .nil))))))) h1
/-! smithy/keccak.Turn -/
def keccak_Turn.j1 (y1 : List Int) : Option (List Int) := some y1
def keccak_Turn.b1 (k : Nat) (rec1 : Int → (List Int) → Option (List Int)) (y4 : Int) (y5 : List Int) : Option (List Int) := if (decide (y4 < 24)) = true then (if 0 ≤ y4 ∧ y4 < 24 then ((keccak_round.f k y5).bind fun t1 => (rec1 (wr .i64 (y4 + 1)) (t1.set (Int.toNat 0) (bits .xor .u64 (rd t1 0) (rd tbl_keccak_constants y4))))) else none) else (keccak_Turn.j1 y5)
def keccak_Turn.l1 (k : Nat) : Nat → Int → (List Int) → Option (List Int)
  | 0, _, _ => none
  | q + 1, y4, y5 => keccak_Turn.b1 k (keccak_Turn.l1 k q) y4 y5
def keccak_Turn.f (k : Nat) (x1 : List Int) : Option (List Int) := keccak_Turn.l1 k k 0 x1
theorem keccak_Turn.ok (k : Nat) (x1 : List Int) (r : List Int) (h0 : keccak_Turn.f k x1 = some r) (mi : Mem) (w0 : World) (G : Glob mi) : okL mi [(.agg [.ints .u64 x1 25])] → Frz mi w0 → Calls Tryd.prog 42 (([(.agg [.ints .u64 x1 25])] : List D).map D.val).toArray w0 (Ret mi (.agg [.ints .u64 r 25]) w0) := by
  intro ok hm
  delta keccak_Turn.f at h0
  refine c_enter (n := 18) [(.agg [.ints .u64 x1 25])] (l := [(0, (.agg [.ints .u64 x1 25]))]) Tryd.func42 rfl rfl rfl rfl ok hm ?_
  clear ok hm
  intro a S
  replace S := S.addfro (g := 3) 82 G.2.2
  replace S := S.addfro (g := 2) 82 G.2.1
  replace S := S.addfro (g := 1) 72 G.1
  refine c_region ?_
  refine s_box S rfl rfl rfl ?_; clear S a; intro g1 a w S
  refine s_alloc S Z62 rfl ⟨rfl, trivial⟩ rfl ?_; clear S a w; intro g2 a w S
  refine c_end ?_
  refine wp_seq_k ?_
  intro K1 hK1
  have j1 : ∀ (m : Mem) (g3 : Nat) (g4 : Nat) (y1 : List Int) (a : Act) (w : World), St 18 m (B0 mi w0) [(2, (.v (.pointer (some ⟨g3, 0, none⟩)))), (1, (.v (.pointer (some ⟨g4, 0, none⟩))))] [Res.cells g3 62 [.ints .u64 [0, 0, 0, 0, 0, 0, 0, 0, 0, 0, 0, 0, 0, 0, 0, 0, 0, 0, 0, 0, 0, 0, 0, 0, 0] 25], Res.cells g4 62 [.ints .u64 y1 25], Res.fro 1 72 [.ints .u64 tbl_keccak_constants 24], Res.fro 2 82 [.ints .i64 tbl_keccak_places 24], Res.fro 3 82 [.ints .i64 tbl_keccak_turns 24]] a w → keccak_Turn.j1 y1 = some r → K1 a w := by
    intro m g3 g4 y1 a w S h0
    delta keccak_Turn.j1 at h0
    refine hK1 a w ?_
    refine c_region ?_
    refine s_loada S rfl (.there .here) T62 (s' := [.ints .u64 y1 25]) rfl rfl ?_; clear S a; intro a S
    refine s_store S rfl rfl rfl (s' := [.ints .u64 y1 25]) .here T62 rfl rfl ?_; clear S w; intro w S
    refine c_end ?_
    refine wp_ret ?_
    obtain rfl := Option.some.inj h0
    exact b_ret1 (d := (.agg [.ints .u64 y1 25])) S rfl (resD_cell rfl .here T62 rfl rfl) fun ok => ⟨rfl, ok, S.below0⟩
  refine c_region ?_
  refine s_loadaF S rfl (.there (.there .here)) T72 (s' := [.ints .u64 tbl_keccak_constants 24]) rfl rfl ?_; clear S a; intro a S
  refine s_move S rfl rfl ?_; clear S a; intro a S
  refine c_end ?_
  refine wp_block ?_
  refine c_loop (fun q1 a w => ∃ (m : Mem) (y4 : Int) (g9 : Nat) (g10 : Nat) (y5 : List Int), St 18 m (B0 mi w0) [(6, (.v (.int .i64 y4))), (5, (.agg [.ints .u64 tbl_keccak_constants 24])), (2, (.v (.pointer (some ⟨g9, 0, none⟩)))), (1, (.v (.pointer (some ⟨g10, 0, none⟩))))] [Res.cells g9 62 [.ints .u64 [0, 0, 0, 0, 0, 0, 0, 0, 0, 0, 0, 0, 0, 0, 0, 0, 0, 0, 0, 0, 0, 0, 0, 0, 0] 25], Res.cells g10 62 [.ints .u64 y5 25], Res.fro 1 72 [.ints .u64 tbl_keccak_constants 24], Res.fro 2 82 [.ints .i64 tbl_keccak_places 24], Res.fro 3 82 [.ints .i64 tbl_keccak_turns 24]] a w ∧ keccak_Turn.l1 k q1 y4 y5 = some r) ?_ ?_ (k := k) ⟨_, 0, g2, g1, x1, (S.sub ⟨rfl, rfl, rfl, rfl, trivial⟩ (.cons .here (.cons .here (.cons .here (.cons .here (.cons .here .nil)))))), h0⟩
  · rintro a w ⟨m, y4, g9, g10, y5, S, h0⟩
    exact (nomatch (show (none : Option (List Int)) = some r from h0))
  · clear S h0
    rintro q1 a w ⟨m, y4, g9, g10, y5, S, h0⟩
    replace h0 : keccak_Turn.b1 k (keccak_Turn.l1 k q1) y4 y5 = some r := h0
    delta keccak_Turn.b1 at h0
    refine c_region ?_
    refine s_bin S rfl rfl rfl rfl ?_; clear S a; intro a S
    refine c_end ?_
    refine wp_seq ?_
    rcases ite_of h0 with ⟨c1, h1⟩ | ⟨c1, h1⟩ <;> clear h0
    · refine c_condT S rfl c1 ?_
      refine wp_skip ?_
      refine x_thenN ?_
      refine wp_seq ?_
      refine wp_block ?_
      refine c_region ?_
      obtain ⟨c2, h2⟩ := chk_of h1; clear h1
      refine s_index S rfl rfl Tryd.underlying72 T24 c2.1 c2.2 rfl ?_; clear S a; intro a S
      refine s_assign S rfl rfl ?_; clear S a; intro a S
      refine c_end ?_
      refine c_region ?_
      refine s_loada S rfl (.there .here) T62 (s' := [.ints .u64 y5 25]) rfl rfl ?_; clear S a; intro a S
      obtain ⟨t1, et1, h3⟩ := bind_of h2; clear h2
      refine s_call S (ds := [(.agg [.ints .u64 y5 25])]) (d := (.agg [.ints .u64 t1 25])) N48 rfl rfl (keccak_round.ok k y5 t1 et1 _ _ (G.mono S.le)) ?_; clear S a w; intro a w S
      refine s_store S rfl rfl rfl (s' := [.ints .u64 t1 25]) (.there .here) T62 rfl rfl ?_; clear S w; intro w S
      refine c_end ?_
      refine c_region' ?_
      refine s_iaddr S (o' := 0) rfl rfl Tryd.underlying62 T24 (by decide) (by decide) rfl rfl ?_; clear S a; intro a S
      refine s_loadi S (i := 0) rfl (.there .here) T24 .here rfl (by decide) (by decide) rfl ?_; clear S a; intro a S
      refine s_move S rfl rfl ?_; clear S a; intro a S
      refine s_bin S rfl rfl rfl rfl ?_; clear S a; intro a S
      refine s_iaddr S (o' := 0) rfl rfl Tryd.underlying62 T24 (by decide) (by decide) rfl rfl ?_; clear S a; intro a S
      refine s_storei S (i := 0) rfl rfl (.there .here) T24 .here rfl (by decide) (by decide) ?_; clear S w; intro w S
      refine c_end' ?_
      refine x_blockN ?_
      refine x_thenN ?_
      refine c_region' ?_
      refine s_bin S rfl rfl rfl rfl ?_; clear S a; intro a S
      refine s_move S rfl rfl ?_; clear S a; intro a S
      refine c_end' ?_
      refine x_thenN ?_
      exact ⟨_, (wr .i64 (y4 + 1)), g9, g10, (t1.set (Int.toNat 0) (bits .xor .u64 (rd t1 0) (rd tbl_keccak_constants y4))), (S.sub ⟨rfl, rfl, rfl, rfl, trivial⟩ (.cons .here (.cons .here (.cons .here (.cons .here (.cons .here .nil)))))), h3⟩
    · refine c_condF S rfl c1 ?_
      refine wp_exit ?_
      refine x_thenX ?_
      refine x_thenX ?_
      refine x_blockX ?_
      refine x_thenN ?_
      exact j1 _ g9 g10 y5 a w (S.sub ⟨rfl, rfl, trivial⟩ (.cons .here (.cons .here (.cons .here (.cons .here (.cons .here .nil)))))) h1
/-! smithy/keccak.absorb -/
def keccak_absorb.j1 (k : Nat) (y1 : List Int) : Option (List Int) := (keccak_Turn.f k y1).bind fun t1 => (some t1)
def keccak_absorb.b1 (k : Nat) (x2 : List Int) (rec1 : Int → (List Int) → Option (List Int)) (y4 : Int) (y5 : List Int) : Option (List Int) := if (decide (y4 < ((x2).length : Int))) = true then (if 0 ≤ y4 ∧ y4 < ((x2).length : Int) then (if 0 ≤ (wr .i64 (Int.tdiv y4 8)) ∧ (wr .i64 (Int.tdiv y4 8)) < 25 then (if 0 ≤ (wr .i64 ((Int.tmod y4 8) * 8)) then (rec1 (wr .i64 (y4 + 1)) (y5.set (Int.toNat (wr .i64 (Int.tdiv y4 8))) (bits .xor .u64 (rd y5 (wr .i64 (Int.tdiv y4 8))) (shl .u64 (wr .u64 (rd x2 y4)) (min (Int.toNat (wr .i64 ((Int.tmod y4 8) * 8))) 64))))) else none) else none) else none) else (keccak_absorb.j1 k y5)
def keccak_absorb.l1 (k : Nat) (x2 : List Int) : Nat → Int → (List Int) → Option (List Int)
  | 0, _, _ => none
  | q + 1, y4, y5 => keccak_absorb.b1 k x2 (keccak_absorb.l1 k x2 q) y4 y5
def keccak_absorb.f (k : Nat) (x1 : List Int) (x2 : List Int) : Option (List Int) := keccak_absorb.l1 k x2 k 0 x1
theorem keccak_absorb.ok (k : Nat) (x1 : List Int) (x2 : List Int) (ch_x2 : Option Addr × Nat) (r : List Int) (h0 : keccak_absorb.f k x1 x2 = some r) (mi : Mem) (w0 : World) (G : Glob mi) : okL mi [(.agg [.ints .u64 x1 25]), (.sl ch_x2.1 (x2).length ch_x2.2 (RdS (Ty.int .u8) ch_x2.1 x2))] → Frz mi w0 → Calls Tryd.prog 36 (([(.agg [.ints .u64 x1 25]), (.sl ch_x2.1 (x2).length ch_x2.2 (RdS (Ty.int .u8) ch_x2.1 x2))] : List D).map D.val).toArray w0 (Ret mi (.agg [.ints .u64 r 25]) w0) := by
  intro ok hm
  delta keccak_absorb.f at h0
  refine c_enter (n := 29) [(.agg [.ints .u64 x1 25]), (.sl ch_x2.1 (x2).length ch_x2.2 (RdS (Ty.int .u8) ch_x2.1 x2))] (l := [(0, (.agg [.ints .u64 x1 25])), (1, (.sl ch_x2.1 (x2).length ch_x2.2 (RdS (Ty.int .u8) ch_x2.1 x2)))]) Tryd.func36 rfl rfl rfl rfl ok hm ?_
  clear ok hm
  intro a S
  refine c_region ?_
  refine s_box S rfl rfl rfl ?_; clear S a; intro g1 a w S
  refine s_alloc S Z62 rfl ⟨rfl, trivial⟩ rfl ?_; clear S a w; intro g2 a w S
  refine c_end ?_
  refine wp_seq_k ?_
  intro K1 hK1
  have j1 : ∀ (m : Mem) (g3 : Nat) (g4 : Nat) (y1 : List Int) (a : Act) (w : World), St 29 m (B0 mi w0) [(4, (.v (.pointer (some ⟨g3, 0, none⟩)))), (2, (.v (.pointer (some ⟨g4, 0, none⟩))))] [Res.cells g3 62 [.ints .u64 [0, 0, 0, 0, 0, 0, 0, 0, 0, 0, 0, 0, 0, 0, 0, 0, 0, 0, 0, 0, 0, 0, 0, 0, 0] 25], Res.cells g4 62 [.ints .u64 y1 25]] a w → keccak_absorb.j1 k y1 = some r → K1 a w := by
    intro m g3 g4 y1 a w S h0
    delta keccak_absorb.j1 at h0
    refine hK1 a w ?_
    refine c_region ?_
    refine s_loada S rfl (.there .here) T62 (s' := [.ints .u64 y1 25]) rfl rfl ?_; clear S a; intro a S
    obtain ⟨t1, et1, h1⟩ := bind_of h0; clear h0
    refine s_call S (ds := [(.agg [.ints .u64 y1 25])]) (d := (.agg [.ints .u64 t1 25])) N42 rfl rfl (keccak_Turn.ok k y1 t1 et1 _ _ (G.mono S.le)) ?_; clear S a w; intro a w S
    refine s_store S rfl rfl rfl (s' := [.ints .u64 t1 25]) .here T62 rfl rfl ?_; clear S w; intro w S
    refine c_end ?_
    refine wp_ret ?_
    obtain rfl := Option.some.inj h1
    exact b_ret1 (d := (.agg [.ints .u64 t1 25])) S rfl (resD_cell rfl .here T62 rfl rfl) fun ok => ⟨rfl, ok, S.below0⟩
  refine c_region ?_
  refine s_move S rfl rfl ?_; clear S a; intro a S
  refine s_lenS S rfl Tryd.underlying27 rfl ?_; clear S a; intro a S
  refine s_move S rfl rfl ?_; clear S a; intro a S
  refine c_end ?_
  refine wp_block ?_
  refine c_loop (fun q1 a w => ∃ (m : Mem) (y4 : Int) (g9 : Nat) (g10 : Nat) (y5 : List Int), St 29 m (B0 mi w0) [(9, (.v (.int .i64 y4))), (8, (.v (.int .i64 ((x2).length : Int)))), (7, (.sl ch_x2.1 (x2).length ch_x2.2 (RdS (Ty.int .u8) ch_x2.1 x2))), (4, (.v (.pointer (some ⟨g9, 0, none⟩)))), (2, (.v (.pointer (some ⟨g10, 0, none⟩))))] [Res.cells g9 62 [.ints .u64 [0, 0, 0, 0, 0, 0, 0, 0, 0, 0, 0, 0, 0, 0, 0, 0, 0, 0, 0, 0, 0, 0, 0, 0, 0] 25], Res.cells g10 62 [.ints .u64 y5 25]] a w ∧ keccak_absorb.l1 k x2 q1 y4 y5 = some r) ?_ ?_ (k := k) ⟨_, 0, g2, g1, x1, (S.sub ⟨rfl, rfl, rfl, rfl, rfl, trivial⟩ (.cons .here (.cons .here .nil))), h0⟩
  · rintro a w ⟨m, y4, g9, g10, y5, S, h0⟩
    exact (nomatch (show (none : Option (List Int)) = some r from h0))
  · clear S h0
    rintro q1 a w ⟨m, y4, g9, g10, y5, S, h0⟩
    replace h0 : keccak_absorb.b1 k x2 (keccak_absorb.l1 k x2 q1) y4 y5 = some r := h0
    delta keccak_absorb.b1 at h0
    refine c_region ?_
    refine s_bin S rfl rfl rfl rfl ?_; clear S a; intro a S
    refine c_end ?_
    refine wp_seq ?_
    rcases ite_of h0 with ⟨c1, h1⟩ | ⟨c1, h1⟩ <;> clear h0
    · refine c_condT S rfl c1 ?_
      refine wp_skip ?_
      refine x_thenN ?_
      refine wp_seq ?_
      refine wp_block ?_
      refine c_region ?_
      refine s_move S rfl rfl ?_; clear S a; intro a S
      obtain ⟨c2, h2⟩ := chk_of h1; clear h1
      refine s_iaddrS S rfl rfl rfl Tryd.underlying27 T5 c2.1 c2.2 rfl ?_; clear S a; intro p1 a S
      refine s_ld1 S (v := (.int .u8 (rd x2 y4))) rfl T5 (fun _ => rfl) rfl ?_; clear S a; intro a S
      refine s_assign S rfl rfl ?_; clear S a; intro a S
      refine s_assign S rfl rfl ?_; clear S a; intro a S
      refine c_end ?_
      refine c_heldS S (.take 0 (.take 1 (.take 2 (.take 3 (.take 4 (.take 5 (.take 6 (.take 7 (.take 8 (.take 9 (.take 10 (.take 11 (.alts (.run 12 false .done .nil)))))))))))))) 12 [Res.cells g9 62 [.ints .u64 [0, 0, 0, 0, 0, 0, 0, 0, 0, 0, 0, 0, 0, 0, 0, 0, 0, 0, 0, 0, 0, 0, 0, 0, 0] 25], Res.cells g10 62 [.ints .u64 y5 25]] (.cons .here (.cons .here .nil)) ⟨Res.stay_cells, Res.stay_cells, trivial⟩ [(6, (.v (.int .u8 (rd x2 y4)))), (5, (.v (.int .i64 y4))), (2, (.v (.pointer (some ⟨g10, 0, none⟩))))] ⟨rfl, rfl, rfl, trivial⟩ (by kernel_rfl) (by kernel_rfl) ?_; clear S; intro w S CL hw le
      refine h_move S CL hw le ⟨rfl, rfl, rfl, trivial⟩ rfl rfl rfl trivial ?_; clear S CL a; intro a S CL
      refine h_quo S CL hw le ⟨rfl, rfl, rfl, rfl, trivial⟩ rfl rfl (by decide) rfl rfl trivial ?_; clear S CL a; intro a S CL
      obtain ⟨c3, h3⟩ := chk_of h2; clear h2
      refine h_iaddr S CL hw le ⟨rfl, rfl, rfl, rfl, rfl, trivial⟩ rfl rfl Tryd.underlying62 T24 c3.1 c3.2 (mul1 _ _) rfl rfl trivial ?_; clear S CL a; intro a S CL
      refine h_loadi S CL hw le ⟨rfl, rfl, rfl, rfl, rfl, rfl, trivial⟩ (i := (wr .i64 (Int.tdiv y4 8))) rfl (.there .here) T24 .here rfl c3.1 c3.2 rfl rfl trivial ?_; clear S CL a; intro a S CL
      refine h_move S CL hw le ⟨rfl, rfl, rfl, rfl, rfl, rfl, rfl, trivial⟩ rfl rfl rfl trivial ?_; clear S CL a; intro a S CL
      refine h_conv S CL hw le ⟨rfl, rfl, rfl, rfl, rfl, rfl, rfl, rfl, trivial⟩ rfl rfl Tryd.underlying24 rfl rfl trivial ?_; clear S CL a; intro a S CL
      refine h_move S CL hw le ⟨rfl, rfl, rfl, rfl, rfl, rfl, rfl, rfl, rfl, trivial⟩ rfl rfl rfl trivial ?_; clear S CL a; intro a S CL
      refine h_rem S CL hw le ⟨rfl, rfl, rfl, rfl, rfl, rfl, rfl, rfl, rfl, rfl, trivial⟩ rfl rfl (by decide) rfl rfl trivial ?_; clear S CL a; intro a S CL
      refine h_bin S CL hw le ⟨rfl, rfl, rfl, rfl, rfl, rfl, rfl, rfl, rfl, rfl, rfl, trivial⟩ rfl rfl rfl rfl rfl trivial ?_; clear S CL a; intro a S CL
      obtain ⟨c4, h4⟩ := chk_of h3; clear h3
      refine h_shl S CL hw le ⟨rfl, rfl, rfl, rfl, rfl, rfl, rfl, rfl, rfl, rfl, rfl, rfl, trivial⟩ (e := (min (Int.toNat (wr .i64 ((Int.tmod y4 8) * 8))) 64)) rfl rfl c4 rfl rfl rfl trivial ?_; clear S CL a; intro a S CL
      refine h_bin S CL hw le ⟨rfl, rfl, rfl, rfl, rfl, rfl, rfl, rfl, rfl, rfl, rfl, rfl, rfl, trivial⟩ rfl rfl rfl rfl rfl trivial ?_; clear S CL a; intro a S CL
      refine h_iaddr S CL hw le ⟨rfl, rfl, rfl, rfl, rfl, rfl, rfl, rfl, rfl, rfl, rfl, rfl, rfl, rfl, trivial⟩ rfl rfl Tryd.underlying62 T24 c3.1 c3.2 (mul1 _ _) rfl rfl trivial ?_; clear S CL a; intro a S CL
      refine h_run' S rfl trivial ?_
      refine s_storei S (i := (wr .i64 (Int.tdiv y4 8))) rfl rfl (.there .here) T24 .here rfl c3.1 c3.2 ?_; clear S; intro w S
      refine h_back ⟨fun h => (nomatch h), ?_⟩
      refine h_done ?_; clear CL hw le
      refine x_blockN ?_
      refine x_thenN ?_
      refine c_region' ?_
      refine s_bin S rfl rfl rfl rfl ?_; clear S a; intro a S
      refine s_move S rfl rfl ?_; clear S a; intro a S
      refine c_end' ?_
      refine x_thenN ?_
      exact ⟨_, (wr .i64 (y4 + 1)), g9, g10, (y5.set (Int.toNat (wr .i64 (Int.tdiv y4 8))) (bits .xor .u64 (rd y5 (wr .i64 (Int.tdiv y4 8))) (shl .u64 (wr .u64 (rd x2 y4)) (min (Int.toNat (wr .i64 ((Int.tmod y4 8) * 8))) 64)))), (S.sub ⟨rfl, rfl, rfl, rfl, rfl, trivial⟩ (.cons .here (.cons .here .nil))), h4⟩
    · refine c_condF S rfl c1 ?_
      refine wp_exit ?_
      refine x_thenX ?_
      refine x_thenX ?_
      refine x_blockX ?_
      refine x_thenN ?_
      exact j1 _ g9 g10 y5 a w (S.sub ⟨rfl, rfl, trivial⟩ (.cons .here (.cons .here .nil))) h1
/-! smithy/keccak.Sum -/
def keccak_Sum.j2 (y3 : List Int) : Option (List Int) := some y3
def keccak_Sum.b1 (t1 : List Int) (rec1 : Int → (List Int) → Option (List Int)) (y6 : Int) (y7 : List Int) : Option (List Int) := if (decide (y6 < 32)) = true then (if 0 ≤ (wr .i64 (Int.tdiv y6 8)) ∧ (wr .i64 (Int.tdiv y6 8)) < 25 then (if 0 ≤ (wr .i64 ((Int.tmod y6 8) * 8)) then (if 0 ≤ y6 ∧ y6 < 32 then (rec1 (wr .i64 (y6 + 1)) (y7.set (Int.toNat y6) (wr .u8 (shr (rd t1 (wr .i64 (Int.tdiv y6 8))) (min (Int.toNat (wr .i64 ((Int.tmod y6 8) * 8))) 64))))) else none) else none) else none) else (keccak_Sum.j2 y7)
def keccak_Sum.l1 (t1 : List Int) : Nat → Int → (List Int) → Option (List Int)
  | 0, _, _ => none
  | q + 1, y6, y7 => keccak_Sum.b1 t1 (keccak_Sum.l1 t1 q) y6 y7
def keccak_Sum.j1 (k : Nat) (y1 : List Int) (y2 : List Int) : Option (List Int) := if 0 ≤ ((min (y1).length 136 : Nat) : Int) ∧ ((min (y1).length 136 : Nat) : Int) < 136 then ((keccak_absorb.f k y2 (((((cpy (List.replicate 136 0) 0 y1 (min (y1).length 136)).set (Int.toNat ((min (y1).length 136 : Nat) : Int)) 1).set (Int.toNat 135) (bits .or .u8 (rd ((cpy (List.replicate 136 0) 0 y1 (min (y1).length 136)).set (Int.toNat ((min (y1).length 136 : Nat) : Int)) 1) 135) 128)).drop 0).take 136)).bind fun t1 => (keccak_Sum.l1 t1 k 0 [0, 0, 0, 0, 0, 0, 0, 0, 0, 0, 0, 0, 0, 0, 0, 0, 0, 0, 0, 0, 0, 0, 0, 0, 0, 0, 0, 0, 0, 0, 0, 0])) else none
def keccak_Sum.b2 (k : Nat) (rec2 : (List Int) → (List Int) → Option (List Int)) (y10 : List Int) (y11 : List Int) : Option (List Int) := if (decide (136 ≤ ((y10).length : Int))) = true then (if (0 : Int) ≤ 0 ∧ (0 : Int) ≤ 136 ∧ 136 ≤ ((y10).length : Int) then ((keccak_absorb.f k y11 (y10.take (Int.toNat 136))).bind fun t4 => (if (0 : Int) ≤ 136 ∧ (136 : Int) ≤ ((y10).length : Int) ∧ ((y10).length : Int) ≤ ((y10).length : Int) then (rec2 (y10.drop (Int.toNat 136)) t4) else none)) else none) else (keccak_Sum.j1 k y10 y11)
def keccak_Sum.l2 (k : Nat) : Nat → (List Int) → (List Int) → Option (List Int)
  | 0, _, _ => none
  | q + 1, y10, y11 => keccak_Sum.b2 k (keccak_Sum.l2 k q) y10 y11
def keccak_Sum.f (k : Nat) (x1 : List Int) : Option (List Int) := keccak_Sum.l2 k k x1 [0, 0, 0, 0, 0, 0, 0, 0, 0, 0, 0, 0, 0, 0, 0, 0, 0, 0, 0, 0, 0, 0, 0, 0, 0]
theorem keccak_Sum.ok (k : Nat) (x1 : List Int) (ch_x1 : Option Addr × Nat) (r : List Int) (h0 : keccak_Sum.f k x1 = some r) (mi : Mem) (w0 : World) (G : Glob mi) : okL mi [(.sl ch_x1.1 (x1).length ch_x1.2 (RdS (Ty.int .u8) ch_x1.1 x1))] → Frz mi w0 → Calls Tryd.prog 20 (([(.sl ch_x1.1 (x1).length ch_x1.2 (RdS (Ty.int .u8) ch_x1.1 x1))] : List D).map D.val).toArray w0 (Ret mi (.agg [.ints .u8 r 32]) w0) := by
  intro ok hm
  delta keccak_Sum.f at h0
  refine c_enter (n := 45) [(.sl ch_x1.1 (x1).length ch_x1.2 (RdS (Ty.int .u8) ch_x1.1 x1))] (l := [(0, (.sl ch_x1.1 (x1).length ch_x1.2 (RdS (Ty.int .u8) ch_x1.1 x1)))]) Tryd.func20 rfl rfl rfl rfl ok hm ?_
  clear ok hm
  intro a S
  refine c_region ?_
  refine s_alloc S Z40 rfl ⟨rfl, trivial⟩ rfl ?_; clear S a; intro g1 a w S
  refine c_end ?_
  refine c_region ?_
  refine s_alloc S Z62 rfl ⟨rfl, trivial⟩ rfl ?_; clear S a w; intro g2 a w S
  refine c_end ?_
  refine wp_seq_k ?_
  intro K1 hK1
  have j1 : ∀ (m : Mem) (g3 : Nat) (g4 : Nat) (A1 : Option Addr) (cp1 : Nat) (y1 : List Int) (y2 : List Int) (a : Act) (w : World), St 45 m (B0 mi w0) [(3, (.v (.pointer (some ⟨g3, 0, none⟩)))), (2, (.v (.pointer (some ⟨g4, 0, none⟩)))), (0, (.sl A1 (y1).length cp1 (RdS (Ty.int .u8) A1 y1)))] [Res.cells g3 62 [.ints .u64 y2 25], Res.cells g4 40 [.ints .u8 [0, 0, 0, 0, 0, 0, 0, 0, 0, 0, 0, 0, 0, 0, 0, 0, 0, 0, 0, 0, 0, 0, 0, 0, 0, 0, 0, 0, 0, 0, 0, 0] 32]] a w → keccak_Sum.j1 k y1 y2 = some r → K1 a w := by
    intro m g3 g4 A1 cp1 y1 y2 a w S h0
    delta keccak_Sum.j1 at h0
    refine hK1 a w ?_
    refine c_region ?_
    refine s_alloc S Z64 rfl ⟨rfl, trivial⟩ rfl ?_; clear S a w; intro g5 a w S
    refine c_end ?_
    refine c_region ?_
    refine s_sliceA S (i := 0) (j := 136) (o' := 0) (len := 136) (cap := 136) rfl Tryd.underlying64 T5 (.inl ⟨rfl, rfl⟩) (.inl ⟨rfl, rfl⟩) (by decide) rfl rfl rfl rfl ?_; clear S a; intro a S
    refine s_move S rfl rfl ?_; clear S a; intro a S
    refine s_copyA S (N := min (y1).length 136) (lo := 0) rfl .here rfl rfl (RdS.srcI (S.get 18 (.sl A1 (y1).length cp1 (RdS (Ty.int .u8) A1 y1)) rfl).2.2.2.1 S.frz) rfl .here (.inl rfl) (by decide) Tryd.underlying27 T5 rfl ?_; clear S a w; intro a w S
    refine s_assign S rfl rfl ?_; clear S a; intro a S
    refine c_end ?_
    refine c_region ?_
    refine s_move S rfl rfl ?_; clear S a; intro a S
    obtain ⟨c1, h1⟩ := chk_of h0; clear h0
    refine s_iaddr S rfl rfl Tryd.underlying64 T5 c1.1 c1.2 (mul1 _ _) rfl ?_; clear S a; intro a S
    refine s_storei S (i := ((min (y1).length 136 : Nat) : Int)) rfl rfl .here T5 .here rfl c1.1 c1.2 ?_; clear S w; intro w S
    refine c_end ?_
    refine c_region ?_
    refine s_iaddr S (o' := 135) rfl rfl Tryd.underlying64 T5 (by decide) (by decide) rfl rfl ?_; clear S a; intro a S
    refine s_loadi S (i := 135) rfl .here T5 .here rfl (by decide) (by decide) rfl ?_; clear S a; intro a S
    refine s_bin S rfl rfl rfl rfl ?_; clear S a; intro a S
    refine s_iaddr S (o' := 135) rfl rfl Tryd.underlying64 T5 (by decide) (by decide) rfl rfl ?_; clear S a; intro a S
    refine s_storei S (i := 135) rfl rfl .here T5 .here rfl (by decide) (by decide) ?_; clear S w; intro w S
    refine c_end ?_
    refine wp_seq (c_heldS S (.take 0 (.take 1 (.alts (.run 2 true (.alts (.run 3 false .done .nil)) .nil)))) 3 [Res.cells g3 62 [.ints .u64 y2 25], Res.cells g4 40 [.ints .u8 [0, 0, 0, 0, 0, 0, 0, 0, 0, 0, 0, 0, 0, 0, 0, 0, 0, 0, 0, 0, 0, 0, 0, 0, 0, 0, 0, 0, 0, 0, 0, 0] 32]] (.cons (.there .here) (.cons (.there .here) .nil)) ⟨Res.stay_cells, Res.stay_cells, trivial⟩ [(4, (.v (.pointer (some ⟨g5, 0, none⟩)))), (3, (.v (.pointer (some ⟨g3, 0, none⟩))))] ⟨rfl, rfl, trivial⟩ (by kernel_rfl) (by kernel_rfl) ?_); clear S; intro w S CL hw le
    refine h_loada S CL hw le ⟨rfl, rfl, trivial⟩ rfl .here T62 (s' := [.ints .u64 y2 25]) rfl rfl rfl trivial ?_; clear S CL a; intro a S CL
    refine h_sliceA S CL hw le ⟨rfl, rfl, rfl, trivial⟩ (i := 0) (j := 136) (o' := 0) (len := 136) (cap := 136) rfl Tryd.underlying64 T5 (.inl ⟨rfl, rfl⟩) (.inl ⟨rfl, rfl⟩) (by decide) rfl rfl rfl rfl rfl trivial ?_; clear S CL a; intro a S CL
    refine h_run' S rfl trivial ?_
    replace S := S.freeze .here
    obtain ⟨m, le1, S⟩ := S
    replace le := le.trans le1
    replace S := (S.slup' (u := 27) (lo := 0) (c := 136) (ys := ((((cpy (List.replicate 136 0) 0 y1 (min (y1).length 136)).set (Int.toNat ((min (y1).length 136 : Nat) : Int)) 1).set (Int.toNat 135) (bits .or .u8 (rd ((cpy (List.replicate 136 0) 0 y1 (min (y1).length 136)).set (Int.toNat ((min (y1).length 136 : Nat) : Int)) 1) 135) 128)).drop 0).take 136) rfl (Pull.mem .here).1 .here (.inl rfl) (by decide) (by decide) rfl).2
    replace CL := CL.drop (lq' := [(26, (.agg [.ints .u64 y2 25])), (4, (.v (.pointer (some ⟨g5, 0, none⟩)))), (3, (.v (.pointer (some ⟨g3, 0, none⟩))))]) ⟨rfl, rfl, rfl, trivial⟩
    obtain ⟨t1, et1, h2⟩ := bind_of h1; clear h1
    refine s_call S (ds := [(.agg [.ints .u64 y2 25]), (.sl (some ⟨g5, 0, none⟩) (((((cpy (List.replicate 136 0) 0 y1 (min (y1).length 136)).set (Int.toNat ((min (y1).length 136 : Nat) : Int)) 1).set (Int.toNat 135) (bits .or .u8 (rd ((cpy (List.replicate 136 0) 0 y1 (min (y1).length 136)).set (Int.toNat ((min (y1).length 136 : Nat) : Int)) 1) 135) 128)).drop 0).take 136).length 136 (RdS (Ty.int .u8) (some ⟨g5, 0, none⟩) (((((cpy (List.replicate 136 0) 0 y1 (min (y1).length 136)).set (Int.toNat ((min (y1).length 136 : Nat) : Int)) 1).set (Int.toNat 135) (bits .or .u8 (rd ((cpy (List.replicate 136 0) 0 y1 (min (y1).length 136)).set (Int.toNat ((min (y1).length 136 : Nat) : Int)) 1) 135) 128)).drop 0).take 136)))]) (d := (.agg [.ints .u64 t1 25])) N36 rfl rfl (keccak_absorb.ok k y2 (((((cpy (List.replicate 136 0) 0 y1 (min (y1).length 136)).set (Int.toNat ((min (y1).length 136 : Nat) : Int)) 1).set (Int.toNat 135) (bits .or .u8 (rd ((cpy (List.replicate 136 0) 0 y1 (min (y1).length 136)).set (Int.toNat ((min (y1).length 136 : Nat) : Int)) 1) 135) 128)).drop 0).take 136) ((some ⟨g5, 0, none⟩), 136) t1 et1 _ _ (G.mono S.le)) ?_; clear S a; intro a w S
    replace hw := CL.again hw S (.cons (.there .here) (.cons (.there .here) .nil)) le
    refine h_back ⟨fun _ => hw, ?_⟩
    refine h_run' S rfl trivial ?_
    refine s_store S rfl rfl rfl (s' := [.ints .u64 t1 25]) (.there .here) T62 rfl rfl ?_; clear S; intro w S
    refine h_back ⟨fun h => (nomatch h), ?_⟩
    refine h_done ?_; clear CL hw le
    refine x_thenN ?_
    refine c_region ?_
    refine s_alloc S Z40 rfl ⟨rfl, trivial⟩ rfl ?_; clear S a w; intro g6 a w S
    refine c_end ?_
    refine wp_seq_k ?_
    intro K2 hK2
    have j2 : ∀ (m : Mem) (g7 : Nat) (g8 : Nat) (y3 : List Int) (a : Act) (w : World), St 45 m (B0 mi w0) [(6, (.v (.pointer (some ⟨g7, 0, none⟩)))), (2, (.v (.pointer (some ⟨g8, 0, none⟩))))] [Res.cells g7 40 [.ints .u8 y3 32], Res.cells g8 40 [.ints .u8 [0, 0, 0, 0, 0, 0, 0, 0, 0, 0, 0, 0, 0, 0, 0, 0, 0, 0, 0, 0, 0, 0, 0, 0, 0, 0, 0, 0, 0, 0, 0, 0] 32]] a w → keccak_Sum.j2 y3 = some r → K2 a w := by
      intro m g7 g8 y3 a w S h0
      delta keccak_Sum.j2 at h0
      refine hK2 a w ?_
      refine c_region ?_
      refine s_loada S rfl .here T40 (s' := [.ints .u8 y3 32]) rfl rfl ?_; clear S a; intro a S
      refine s_store S rfl rfl rfl (s' := [.ints .u8 y3 32]) (.there .here) T40 rfl rfl ?_; clear S w; intro w S
      refine c_end ?_
      refine wp_ret ?_
      obtain rfl := Option.some.inj h0
      exact b_ret1 (d := (.agg [.ints .u8 y3 32])) S rfl (resD_cell rfl (.there .here) T40 rfl rfl) fun ok => ⟨rfl, ok, S.below0⟩
    refine c_region ?_
    refine s_move S rfl rfl ?_; clear S a; intro a S
    refine c_end ?_
    refine wp_block ?_
    refine c_loop (fun q1 a w => ∃ (m : Mem) (y6 : Int) (g15 : Nat) (g16 : Nat) (g17 : Nat) (y7 : List Int), St 45 m (B0 mi w0) [(29, (.v (.int .i64 y6))), (6, (.v (.pointer (some ⟨g15, 0, none⟩)))), (3, (.v (.pointer (some ⟨g16, 0, none⟩)))), (2, (.v (.pointer (some ⟨g17, 0, none⟩))))] [Res.cells g15 40 [.ints .u8 y7 32], Res.cells g16 62 [.ints .u64 t1 25], Res.cells g17 40 [.ints .u8 [0, 0, 0, 0, 0, 0, 0, 0, 0, 0, 0, 0, 0, 0, 0, 0, 0, 0, 0, 0, 0, 0, 0, 0, 0, 0, 0, 0, 0, 0, 0, 0] 32]] a w ∧ keccak_Sum.l1 t1 q1 y6 y7 = some r) ?_ ?_ (k := k) ⟨_, 0, g6, g3, g4, [0, 0, 0, 0, 0, 0, 0, 0, 0, 0, 0, 0, 0, 0, 0, 0, 0, 0, 0, 0, 0, 0, 0, 0, 0, 0, 0, 0, 0, 0, 0, 0], (S.sub ⟨rfl, rfl, rfl, rfl, trivial⟩ (.cons .here (.cons (.there .here) (.cons (.there .here) .nil)))), h2⟩
    · rintro a w ⟨m, y6, g15, g16, g17, y7, S, h0⟩
      exact (nomatch (show (none : Option (List Int)) = some r from h0))
    · clear S h2
      rintro q1 a w ⟨m, y6, g15, g16, g17, y7, S, h0⟩
      replace h0 : keccak_Sum.b1 t1 (keccak_Sum.l1 t1 q1) y6 y7 = some r := h0
      delta keccak_Sum.b1 at h0
      refine c_region ?_
      refine s_bin S rfl rfl rfl rfl ?_; clear S a; intro a S
      refine c_end ?_
      refine wp_seq ?_
      rcases ite_of h0 with ⟨c2, h1⟩ | ⟨c2, h1⟩ <;> clear h0
      · refine c_condT S rfl c2 ?_
        refine wp_skip ?_
        refine x_thenN ?_
        refine wp_seq ?_
        refine wp_block ?_
        refine c_region ?_
        refine s_move S rfl rfl ?_; clear S a; intro a S
        refine s_assign S rfl rfl ?_; clear S a; intro a S
        refine c_end ?_
        refine c_region' ?_
        refine s_move S rfl rfl ?_; clear S a; intro a S
        refine s_move S rfl rfl ?_; clear S a; intro a S
        refine s_quo S rfl rfl (by decide) rfl ?_; clear S a; intro a S
        obtain ⟨c3, h2⟩ := chk_of h1; clear h1
        refine s_iaddr S rfl rfl Tryd.underlying62 T24 c3.1 c3.2 (mul1 _ _) rfl ?_; clear S a; intro a S
        refine s_loadi S (i := (wr .i64 (Int.tdiv y6 8))) rfl (.there .here) T24 .here rfl c3.1 c3.2 rfl ?_; clear S a; intro a S
        refine s_move S rfl rfl ?_; clear S a; intro a S
        refine s_rem S rfl rfl (by decide) rfl ?_; clear S a; intro a S
        refine s_bin S rfl rfl rfl rfl ?_; clear S a; intro a S
        obtain ⟨c4, h3⟩ := chk_of h2; clear h2
        refine s_shr S (e := (min (Int.toNat (wr .i64 ((Int.tmod y6 8) * 8))) 64)) rfl rfl c4 rfl rfl ?_; clear S a; intro a S
        refine s_conv S rfl rfl Tryd.underlying5 rfl ?_; clear S a; intro a S
        obtain ⟨c5, h4⟩ := chk_of h3; clear h3
        refine s_iaddr S rfl rfl Tryd.underlying40 T5 c5.1 c5.2 (mul1 _ _) rfl ?_; clear S a; intro a S
        refine s_storei S (i := y6) rfl rfl .here T5 .here rfl c5.1 c5.2 ?_; clear S w; intro w S
        refine c_end' ?_
        refine x_blockN ?_
        refine x_thenN ?_
        refine c_region' ?_
        refine s_bin S rfl rfl rfl rfl ?_; clear S a; intro a S
        refine s_move S rfl rfl ?_; clear S a; intro a S
        refine c_end' ?_
        refine x_thenN ?_
        exact ⟨_, (wr .i64 (y6 + 1)), g15, g16, g17, (y7.set (Int.toNat y6) (wr .u8 (shr (rd t1 (wr .i64 (Int.tdiv y6 8))) (min (Int.toNat (wr .i64 ((Int.tmod y6 8) * 8))) 64)))), (S.sub ⟨rfl, rfl, rfl, rfl, trivial⟩ (.cons .here (.cons .here (.cons .here .nil)))), h4⟩
      · refine c_condF S rfl c2 ?_
        refine wp_exit ?_
        refine x_thenX ?_
        refine x_thenX ?_
        refine x_blockX ?_
        refine x_thenN ?_
        exact j2 _ g15 g17 y7 a w (S.sub ⟨rfl, rfl, trivial⟩ (.cons .here (.cons (.there .here) .nil))) h1
  refine wp_block ?_
  refine c_loop (fun q2 a w => ∃ (m : Mem) (g22 : Nat) (g23 : Nat) (A2 : Option Addr) (cp7 : Nat) (y10 : List Int) (y11 : List Int), St 45 m (B0 mi w0) [(3, (.v (.pointer (some ⟨g22, 0, none⟩)))), (2, (.v (.pointer (some ⟨g23, 0, none⟩)))), (0, (.sl A2 (y10).length cp7 (RdS (Ty.int .u8) A2 y10)))] [Res.cells g22 62 [.ints .u64 y11 25], Res.cells g23 40 [.ints .u8 [0, 0, 0, 0, 0, 0, 0, 0, 0, 0, 0, 0, 0, 0, 0, 0, 0, 0, 0, 0, 0, 0, 0, 0, 0, 0, 0, 0, 0, 0, 0, 0] 32]] a w ∧ keccak_Sum.l2 k q2 y10 y11 = some r) ?_ ?_ (k := k) ⟨_, g2, g1, ch_x1.1, ch_x1.2, x1, [0, 0, 0, 0, 0, 0, 0, 0, 0, 0, 0, 0, 0, 0, 0, 0, 0, 0, 0, 0, 0, 0, 0, 0, 0], (S.sub ⟨rfl, rfl, rfl, trivial⟩ (.cons .here (.cons .here .nil))), h0⟩
  · rintro a w ⟨m, g22, g23, A2, cp7, y10, y11, S, h0⟩
    exact (nomatch (show (none : Option (List Int)) = some r from h0))
  · clear S h0
    rintro q2 a w ⟨m, g22, g23, A2, cp7, y10, y11, S, h0⟩
    replace h0 : keccak_Sum.b2 k (keccak_Sum.l2 k q2) y10 y11 = some r := h0
    delta keccak_Sum.b2 at h0
    refine wp_seq ?_
    refine c_region ?_
    refine s_move S rfl rfl ?_; clear S a; intro a S
    refine s_lenS S rfl Tryd.underlying27 rfl ?_; clear S a; intro a S
    refine s_bin S rfl rfl rfl rfl ?_; clear S a; intro a S
    refine c_end ?_
    rcases ite_of h0 with ⟨c6, h1⟩ | ⟨c6, h1⟩ <;> clear h0
    · refine c_condT S rfl c6 ?_
      refine wp_skip ?_
      refine x_thenN ?_
      refine wp_block ?_
      refine wp_seq (c_heldS S (.take 0 (.take 1 (.take 2 (.alts (.run 3 true (.alts (.run 4 false .done .nil)) .nil))))) 4 [Res.cells g22 62 [.ints .u64 y11 25], Res.cells g23 40 [.ints .u8 [0, 0, 0, 0, 0, 0, 0, 0, 0, 0, 0, 0, 0, 0, 0, 0, 0, 0, 0, 0, 0, 0, 0, 0, 0, 0, 0, 0, 0, 0, 0, 0] 32]] (.cons .here (.cons .here .nil)) ⟨Res.stay_cells, Res.stay_cells, trivial⟩ [(3, (.v (.pointer (some ⟨g22, 0, none⟩)))), (0, (.sl A2 (y10).length cp7 (RdS (Ty.int .u8) A2 y10)))] ⟨rfl, rfl, trivial⟩ (by kernel_rfl) (by kernel_rfl) ?_); clear S; intro w S CL hw le
      refine h_loada S CL hw le ⟨rfl, rfl, trivial⟩ rfl .here T62 (s' := [.ints .u64 y11 25]) rfl rfl rfl trivial ?_; clear S CL a; intro a S CL
      refine h_move S CL hw le ⟨rfl, rfl, rfl, trivial⟩ rfl rfl rfl trivial ?_; clear S CL a; intro a S CL
      obtain ⟨c7, h2⟩ := chk_of h1; clear h1
      refine h_cutS S CL hw le ⟨rfl, rfl, rfl, rfl, trivial⟩ (i := 0) (j := 136) (ys := y10.take (Int.toNat 136)) rfl rfl Tryd.underlying27 T5 (.inl ⟨rfl, rfl⟩) (.inr ⟨_, _, rfl, rfl⟩) c7 rfl (by simp) rfl trivial ?_; clear S CL a; intro A3 cp8 a S CL
      refine h_run' S rfl trivial ?_
      obtain ⟨t4, et4, h3⟩ := bind_of h2; clear h2
      refine s_call S (ds := [(.agg [.ints .u64 y11 25]), (.sl A3 (y10.take (Int.toNat 136)).length cp8 (RdS (Ty.int .u8) A3 (y10.take (Int.toNat 136))))]) (d := (.agg [.ints .u64 t4 25])) N36 rfl rfl (keccak_absorb.ok k y11 (y10.take (Int.toNat 136)) (A3, cp8) t4 et4 _ _ (G.mono S.le)) ?_; clear S a; intro a w S
      replace hw := CL.again hw S (.cons .here (.cons .here .nil)) le
      refine h_back ⟨fun _ => hw, ?_⟩
      refine h_run' S rfl trivial ?_
      refine s_store S rfl rfl rfl (s' := [.ints .u64 t4 25]) .here T62 rfl rfl ?_; clear S; intro w S
      refine h_back ⟨fun h => (nomatch h), ?_⟩
      refine h_done ?_; clear CL hw le
      refine x_thenN ?_
      refine c_region' ?_
      refine s_move S rfl rfl ?_; clear S a; intro a S
      obtain ⟨c8, h4⟩ := chk_of h3; clear h3
      refine s_cutS S (i := 136) (j := ((y10).length : Int)) (ys := y10.drop (Int.toNat 136)) rfl rfl Tryd.underlying27 T5 (.inr ⟨_, _, rfl, rfl⟩) (.inl ⟨rfl, rfl⟩) c8 rfl (by simp) ?_; clear S a; intro A4 cp9 a S
      refine s_assign S rfl rfl ?_; clear S a; intro a S
      refine c_end' ?_
      refine x_blockN ?_
      refine x_thenN ?_
      exact ⟨_, g22, g23, A4, cp9, (y10.drop (Int.toNat 136)), t4, (S.sub ⟨rfl, rfl, rfl, trivial⟩ (.cons .here (.cons .here .nil))), h4⟩
    · refine c_condF S rfl c6 ?_
      refine wp_exit ?_
      refine x_thenX ?_
      refine x_thenX ?_
      refine x_blockX ?_
      refine x_thenN ?_
      exact j1 _ g22 g23 A2 cp7 y10 y11 a w (S.sub ⟨rfl, rfl, rfl, trivial⟩ (.cons .here (.cons .here .nil))) h1
/-! smithy/word.From -/
def word_From.j2 (y2 : List Int) : Option (List Int) := some y2
def word_From.j3 (y7 : Int) (rec1 : Int → (List Int) → Option (List Int)) (y9 : List Int) : Option (List Int) := rec1 (wr .i64 (y7 + 1)) y9
def word_From.b2 (y1 : List Int) (y7 : Int) (rec1 : Int → (List Int) → Option (List Int)) (rec2 : Int → (List Int) → Option (List Int)) (y12 : Int) (y13 : List Int) : Option (List Int) := if (decide (y12 < 8)) = true then (if 0 ≤ y7 ∧ y7 < 4 then (if 0 ≤ (wr .i64 ((wr .i64 (31 - (wr .i64 (8 * y7)))) - y12)) ∧ (wr .i64 ((wr .i64 (31 - (wr .i64 (8 * y7)))) - y12)) < 32 then (if 0 ≤ (wr .i64 (8 * y12)) then (rec2 (wr .i64 (y12 + 1)) (y13.set (Int.toNat y7) (bits .or .u64 (rd y13 y7) (shl .u64 (wr .u64 (rd (cpy [0, 0, 0, 0, 0, 0, 0, 0, 0, 0, 0, 0, 0, 0, 0, 0, 0, 0, 0, 0, 0, 0, 0, 0, 0, 0, 0, 0, 0, 0, 0, 0] (Int.toNat (wr .i64 (32 - ((y1).length : Int)))) y1 (min (y1).length (Int.toNat 32 - Int.toNat (wr .i64 (32 - ((y1).length : Int)))))) (wr .i64 ((wr .i64 (31 - (wr .i64 (8 * y7)))) - y12)))) (min (Int.toNat (wr .i64 (8 * y12))) 64))))) else none) else none) else none) else (word_From.j3 y7 rec1 y13)
def word_From.l2 (y1 : List Int) (y7 : Int) (rec1 : Int → (List Int) → Option (List Int)) : Nat → Int → (List Int) → Option (List Int)
  | 0, _, _ => none
  | q + 1, y12, y13 => word_From.b2 y1 y7 rec1 (word_From.l2 y1 y7 rec1 q) y12 y13
def word_From.b1 (k : Nat) (y1 : List Int) (rec1 : Int → (List Int) → Option (List Int)) (y7 : Int) (y8 : List Int) : Option (List Int) := if (decide (y7 < 4)) = true then (word_From.l2 y1 y7 rec1 k 0 y8) else (word_From.j2 y8)
def word_From.l1 (k : Nat) (y1 : List Int) : Nat → Int → (List Int) → Option (List Int)
  | 0, _, _ => none
  | q + 1, y7, y8 => word_From.b1 k y1 (word_From.l1 k y1 q) y7 y8
def word_From.j1 (k : Nat) (y1 : List Int) : Option (List Int) := if (0 : Int) ≤ (wr .i64 (32 - ((y1).length : Int))) ∧ ((wr .i64 (32 - ((y1).length : Int))) : Int) ≤ 32 ∧ 32 ≤ ((32 : Nat) : Int) then (word_From.l1 k y1 k 0 [0, 0, 0, 0]) else none
def word_From.f (k : Nat) (x1 : List Int) : Option (List Int) := if (decide (32 < ((x1).length : Int))) = true then (if (0 : Int) ≤ (wr .i64 (((x1).length : Int) - 32)) ∧ ((wr .i64 (((x1).length : Int) - 32)) : Int) ≤ ((x1).length : Int) ∧ ((x1).length : Int) ≤ ((x1).length : Int) then (word_From.j1 k (x1.drop (Int.toNat (wr .i64 (((x1).length : Int) - 32))))) else none) else (word_From.j1 k x1)
theorem word_From.ok (k : Nat) (x1 : List Int) (ch_x1 : Option Addr × Nat) (r : List Int) (h0 : word_From.f k x1 = some r) (mi : Mem) (w0 : World) : okL mi [(.sl ch_x1.1 (x1).length ch_x1.2 (RdS (Ty.int .u8) ch_x1.1 x1))] → Frz mi w0 → Calls Tryd.prog 27 (([(.sl ch_x1.1 (x1).length ch_x1.2 (RdS (Ty.int .u8) ch_x1.1 x1))] : List D).map D.val).toArray w0 (Ret mi (.agg [.ints .u64 r 4]) w0) := by
  intro ok hm
  delta word_From.f at h0
  refine c_enter (n := 46) [(.sl ch_x1.1 (x1).length ch_x1.2 (RdS (Ty.int .u8) ch_x1.1 x1))] (l := [(0, (.sl ch_x1.1 (x1).length ch_x1.2 (RdS (Ty.int .u8) ch_x1.1 x1)))]) Tryd.func27 rfl rfl rfl rfl ok hm ?_
  clear ok hm
  intro a S
  refine c_region ?_
  refine s_alloc S Z26 rfl ⟨rfl, trivial⟩ rfl ?_; clear S a; intro g1 a w S
  refine c_end ?_
  refine c_region ?_
  refine s_alloc S Z39 rfl ⟨rfl, trivial⟩ rfl ?_; clear S a w; intro g2 a w S
  refine c_end ?_
  refine wp_seq_k ?_
  intro K1 hK1
  have j1 : ∀ (m : Mem) (A1 : Option Addr) (cp1 : Nat) (y1 : List Int) (g3 : Nat) (g4 : Nat) (a : Act) (w : World), St 46 m (B0 mi w0) [(0, (.sl A1 (y1).length cp1 (RdS (Ty.int .u8) A1 y1))), (3, (.v (.pointer (some ⟨g3, 0, none⟩)))), (2, (.v (.pointer (some ⟨g4, 0, none⟩))))] [Res.cells g3 39 [.ints .u8 [0, 0, 0, 0, 0, 0, 0, 0, 0, 0, 0, 0, 0, 0, 0, 0, 0, 0, 0, 0, 0, 0, 0, 0, 0, 0, 0, 0, 0, 0, 0, 0] 32], Res.cells g4 26 [.ints .u64 [0, 0, 0, 0] 4]] a w → word_From.j1 k y1 = some r → K1 a w := by
    intro m A1 cp1 y1 g3 g4 a w S h0
    delta word_From.j1 at h0
    refine hK1 a w ?_
    refine c_region ?_
    refine s_move S rfl rfl ?_; clear S a; intro a S
    refine s_lenS S rfl Tryd.underlying27 rfl ?_; clear S a; intro a S
    refine s_bin S rfl rfl rfl rfl ?_; clear S a; intro a S
    obtain ⟨c1, h1⟩ := chk_of h0; clear h0
    refine s_sliceA S (i := (wr .i64 (32 - ((y1).length : Int)))) (j := 32) (o' := if 32 = Int.toNat (wr .i64 (32 - ((y1).length : Int))) then 0 else 0 + Int.toNat (wr .i64 (32 - ((y1).length : Int))) * 1) (len := Int.toNat 32 - Int.toNat (wr .i64 (32 - ((y1).length : Int)))) (cap := 32 - Int.toNat (wr .i64 (32 - ((y1).length : Int)))) rfl Tryd.underlying39 T5 (.inr ⟨_, _, rfl, rfl⟩) (.inl ⟨rfl, rfl⟩) c1 rfl rfl rfl rfl ?_; clear S a; intro a S
    refine s_move S rfl rfl ?_; clear S a; intro a S
    refine s_copyA S (N := min (y1).length (Int.toNat 32 - Int.toNat (wr .i64 (32 - ((y1).length : Int))))) (lo := Int.toNat (wr .i64 (32 - ((y1).length : Int)))) rfl .here rfl rfl (RdS.srcI (S.get 19 (.sl A1 (y1).length cp1 (RdS (Ty.int .u8) A1 y1)) rfl).2.2.2.1 S.frz) rfl .here (ho_if c1) (hl_if c1) Tryd.underlying27 T5 rfl ?_; clear S a w; intro a w S
    refine c_end ?_
    refine c_region ?_
    refine s_alloc S Z26 rfl ⟨rfl, trivial⟩ rfl ?_; clear S a w; intro g5 a w S
    refine c_end ?_
    refine wp_seq_k ?_
    intro K2 hK2
    have j2 : ∀ (m : Mem) (g6 : Nat) (g7 : Nat) (y2 : List Int) (a : Act) (w : World), St 46 m (B0 mi w0) [(4, (.v (.pointer (some ⟨g6, 0, none⟩)))), (2, (.v (.pointer (some ⟨g7, 0, none⟩))))] [Res.cells g6 26 [.ints .u64 y2 4], Res.cells g7 26 [.ints .u64 [0, 0, 0, 0] 4]] a w → word_From.j2 y2 = some r → K2 a w := by
      intro m g6 g7 y2 a w S h0
      delta word_From.j2 at h0
      refine hK2 a w ?_
      refine c_region ?_
      refine s_loada S rfl .here T26 (s' := [.ints .u64 y2 4]) rfl rfl ?_; clear S a; intro a S
      refine s_store S rfl rfl rfl (s' := [.ints .u64 y2 4]) (.there .here) T26 rfl rfl ?_; clear S w; intro w S
      refine c_end ?_
      refine wp_ret ?_
      obtain rfl := Option.some.inj h0
      exact b_ret1 (d := (.agg [.ints .u64 y2 4])) S rfl (resD_cell rfl (.there .here) T26 rfl rfl) fun ok => ⟨rfl, ok, S.below0⟩
    refine c_region ?_
    refine s_move S rfl rfl ?_; clear S a; intro a S
    refine c_end ?_
    refine wp_block ?_
    refine c_loop (fun q1 a w => ∃ (m : Mem) (y7 : Int) (g20 : Nat) (g21 : Nat) (g22 : Nat) (y8 : List Int), St 46 m (B0 mi w0) [(21, (.v (.int .i64 y7))), (4, (.v (.pointer (some ⟨g20, 0, none⟩)))), (3, (.v (.pointer (some ⟨g21, 0, none⟩)))), (2, (.v (.pointer (some ⟨g22, 0, none⟩))))] [Res.cells g20 26 [.ints .u64 y8 4], Res.cells g21 39 [.ints .u8 (cpy [0, 0, 0, 0, 0, 0, 0, 0, 0, 0, 0, 0, 0, 0, 0, 0, 0, 0, 0, 0, 0, 0, 0, 0, 0, 0, 0, 0, 0, 0, 0, 0] (Int.toNat (wr .i64 (32 - ((y1).length : Int)))) y1 (min (y1).length (Int.toNat 32 - Int.toNat (wr .i64 (32 - ((y1).length : Int)))))) 32], Res.cells g22 26 [.ints .u64 [0, 0, 0, 0] 4]] a w ∧ word_From.l1 k y1 q1 y7 y8 = some r) ?_ ?_ (k := k) ⟨_, 0, g5, g3, g4, [0, 0, 0, 0], (S.sub ⟨rfl, rfl, rfl, rfl, trivial⟩ (.cons .here (.cons .here (.cons .here .nil)))), h1⟩
    · rintro a w ⟨m, y7, g20, g21, g22, y8, S, h0⟩
      exact (nomatch (show (none : Option (List Int)) = some r from h0))
    · clear S h1
      rintro q1 a w ⟨m, y7, g20, g21, g22, y8, S, h0⟩
      replace h0 : word_From.b1 k y1 (word_From.l1 k y1 q1) y7 y8 = some r := h0
      delta word_From.b1 at h0
      refine c_region ?_
      refine s_bin S rfl rfl rfl rfl ?_; clear S a; intro a S
      refine c_end ?_
      refine wp_seq ?_
      rcases ite_of h0 with ⟨c2, h1⟩ | ⟨c2, h1⟩ <;> clear h0
      · refine c_condT S rfl c2 ?_
        refine wp_skip ?_
        refine x_thenN ?_
        refine wp_seq_k ?_
        intro K3 hK3
        have j3 : ∀ (m : Mem) (g23 : Nat) (g24 : Nat) (g25 : Nat) (y9 : List Int) (a : Act) (w : World), St 46 m (B0 mi w0) [(21, (.v (.int .i64 y7))), (4, (.v (.pointer (some ⟨g23, 0, none⟩)))), (3, (.v (.pointer (some ⟨g24, 0, none⟩)))), (2, (.v (.pointer (some ⟨g25, 0, none⟩))))] [Res.cells g23 26 [.ints .u64 y9 4], Res.cells g24 39 [.ints .u8 (cpy [0, 0, 0, 0, 0, 0, 0, 0, 0, 0, 0, 0, 0, 0, 0, 0, 0, 0, 0, 0, 0, 0, 0, 0, 0, 0, 0, 0, 0, 0, 0, 0] (Int.toNat (wr .i64 (32 - ((y1).length : Int)))) y1 (min (y1).length (Int.toNat 32 - Int.toNat (wr .i64 (32 - ((y1).length : Int)))))) 32], Res.cells g25 26 [.ints .u64 [0, 0, 0, 0] 4]] a w → word_From.j3 y7 (word_From.l1 k y1 q1) y9 = some r → K3 a w := by
          intro m g23 g24 g25 y9 a w S h0
          delta word_From.j3 at h0
          refine hK3 a w ?_
          refine c_region' ?_
          refine s_bin S rfl rfl rfl rfl ?_; clear S a; intro a S
          refine s_move S rfl rfl ?_; clear S a; intro a S
          refine c_end' ?_
          refine x_thenN ?_
          exact ⟨_, (wr .i64 (y7 + 1)), g23, g24, g25, y9, (S.sub ⟨rfl, rfl, rfl, rfl, trivial⟩ (.cons .here (.cons .here (.cons .here .nil)))), h0⟩
        refine wp_block ?_
        refine c_region ?_
        refine s_move S rfl rfl ?_; clear S a; intro a S
        refine s_assign S rfl rfl ?_; clear S a; intro a S
        refine c_end ?_
        refine c_region ?_
        refine s_move S rfl rfl ?_; clear S a; intro a S
        refine c_end ?_
        refine wp_block ?_
        refine c_loop (fun q2 a w => ∃ (m : Mem) (y12 : Int) (g32 : Nat) (g33 : Nat) (g34 : Nat) (y13 : List Int), St 46 m (B0 mi w0) [(24, (.v (.int .i64 y12))), (5, (.v (.int .i64 y7))), (21, (.v (.int .i64 y7))), (4, (.v (.pointer (some ⟨g32, 0, none⟩)))), (3, (.v (.pointer (some ⟨g33, 0, none⟩)))), (2, (.v (.pointer (some ⟨g34, 0, none⟩))))] [Res.cells g32 26 [.ints .u64 y13 4], Res.cells g33 39 [.ints .u8 (cpy [0, 0, 0, 0, 0, 0, 0, 0, 0, 0, 0, 0, 0, 0, 0, 0, 0, 0, 0, 0, 0, 0, 0, 0, 0, 0, 0, 0, 0, 0, 0, 0] (Int.toNat (wr .i64 (32 - ((y1).length : Int)))) y1 (min (y1).length (Int.toNat 32 - Int.toNat (wr .i64 (32 - ((y1).length : Int)))))) 32], Res.cells g34 26 [.ints .u64 [0, 0, 0, 0] 4]] a w ∧ word_From.l2 y1 y7 (word_From.l1 k y1 q1) q2 y12 y13 = some r) ?_ ?_ (k := k) ⟨_, 0, g20, g21, g22, y8, (S.sub ⟨rfl, rfl, rfl, rfl, rfl, rfl, trivial⟩ (.cons .here (.cons .here (.cons .here .nil)))), h1⟩
        · rintro a w ⟨m, y12, g32, g33, g34, y13, S, h0⟩
          exact (nomatch (show (none : Option (List Int)) = some r from h0))
        · clear S h1
          rintro q2 a w ⟨m, y12, g32, g33, g34, y13, S, h0⟩
          replace h0 : word_From.b2 y1 y7 (word_From.l1 k y1 q1) (word_From.l2 y1 y7 (word_From.l1 k y1 q1) q2) y12 y13 = some r := h0
          delta word_From.b2 at h0
          refine c_region ?_
          refine s_bin S rfl rfl rfl rfl ?_; clear S a; intro a S
          refine c_end ?_
          refine wp_seq ?_
          rcases ite_of h0 with ⟨c3, h1⟩ | ⟨c3, h1⟩ <;> clear h0
          · refine c_condT S rfl c3 ?_
            refine wp_skip ?_
            refine x_thenN ?_
            refine wp_seq ?_
            refine wp_block ?_
            refine c_region ?_
            refine s_move S rfl rfl ?_; clear S a; intro a S
            refine s_assign S rfl rfl ?_; clear S a; intro a S
            refine c_end ?_
            refine c_heldS S (.take 0 (.take 1 (.take 2 (.take 3 (.take 4 (.take 5 (.take 6 (.take 7 (.take 8 (.take 9 (.take 10 (.take 11 (.take 12 (.take 13 (.take 14 (.take 15 (.alts (.run 16 false .done .nil)))))))))))))))))) 16 [Res.cells g32 26 [.ints .u64 y13 4], Res.cells g33 39 [.ints .u8 (cpy [0, 0, 0, 0, 0, 0, 0, 0, 0, 0, 0, 0, 0, 0, 0, 0, 0, 0, 0, 0, 0, 0, 0, 0, 0, 0, 0, 0, 0, 0, 0, 0] (Int.toNat (wr .i64 (32 - ((y1).length : Int)))) y1 (min (y1).length (Int.toNat 32 - Int.toNat (wr .i64 (32 - ((y1).length : Int)))))) 32], Res.cells g34 26 [.ints .u64 [0, 0, 0, 0] 4]] (.cons .here (.cons .here (.cons .here .nil))) ⟨Res.stay_cells, Res.stay_cells, Res.stay_cells, trivial⟩ [(6, (.v (.int .i64 y12))), (5, (.v (.int .i64 y7))), (4, (.v (.pointer (some ⟨g32, 0, none⟩)))), (3, (.v (.pointer (some ⟨g33, 0, none⟩))))] ⟨rfl, rfl, rfl, rfl, trivial⟩ (by kernel_rfl) (by kernel_rfl) ?_; clear S; intro w S CL hw le
            refine h_move S CL hw le ⟨rfl, rfl, rfl, rfl, trivial⟩ rfl rfl rfl trivial ?_; clear S CL a; intro a S CL
            obtain ⟨c4, h2⟩ := chk_of h1; clear h1
            refine h_iaddr S CL hw le ⟨rfl, rfl, rfl, rfl, rfl, trivial⟩ rfl rfl Tryd.underlying26 T24 c4.1 c4.2 (mul1 _ _) rfl rfl trivial ?_; clear S CL a; intro a S CL
            refine h_loadi S CL hw le ⟨rfl, rfl, rfl, rfl, rfl, rfl, trivial⟩ (i := y7) rfl .here T24 .here rfl c4.1 c4.2 rfl rfl trivial ?_; clear S CL a; intro a S CL
            refine h_move S CL hw le ⟨rfl, rfl, rfl, rfl, rfl, rfl, rfl, trivial⟩ rfl rfl rfl trivial ?_; clear S CL a; intro a S CL
            refine h_bin S CL hw le ⟨rfl, rfl, rfl, rfl, rfl, rfl, rfl, rfl, trivial⟩ rfl rfl rfl rfl rfl trivial ?_; clear S CL a; intro a S CL
            refine h_bin S CL hw le ⟨rfl, rfl, rfl, rfl, rfl, rfl, rfl, rfl, rfl, trivial⟩ rfl rfl rfl rfl rfl trivial ?_; clear S CL a; intro a S CL
            refine h_move S CL hw le ⟨rfl, rfl, rfl, rfl, rfl, rfl, rfl, rfl, rfl, rfl, trivial⟩ rfl rfl rfl trivial ?_; clear S CL a; intro a S CL
            refine h_bin S CL hw le ⟨rfl, rfl, rfl, rfl, rfl, rfl, rfl, rfl, rfl, rfl, rfl, trivial⟩ rfl rfl rfl rfl rfl trivial ?_; clear S CL a; intro a S CL
            obtain ⟨c5, h3⟩ := chk_of h2; clear h2
            refine h_iaddr S CL hw le ⟨rfl, rfl, rfl, rfl, rfl, rfl, rfl, rfl, rfl, rfl, rfl, rfl, trivial⟩ rfl rfl Tryd.underlying39 T5 c5.1 c5.2 (mul1 _ _) rfl rfl trivial ?_; clear S CL a; intro a S CL
            refine h_loadi S CL hw le ⟨rfl, rfl, rfl, rfl, rfl, rfl, rfl, rfl, rfl, rfl, rfl, rfl, rfl, trivial⟩ (i := (wr .i64 ((wr .i64 (31 - (wr .i64 (8 * y7)))) - y12))) rfl (.there .here) T5 .here rfl c5.1 c5.2 rfl rfl trivial ?_; clear S CL a; intro a S CL
            refine h_conv S CL hw le ⟨rfl, rfl, rfl, rfl, rfl, rfl, rfl, rfl, rfl, rfl, rfl, rfl, rfl, rfl, trivial⟩ rfl rfl Tryd.underlying24 rfl rfl trivial ?_; clear S CL a; intro a S CL
            refine h_move S CL hw le ⟨rfl, rfl, rfl, rfl, rfl, rfl, rfl, rfl, rfl, rfl, rfl, rfl, rfl, rfl, rfl, trivial⟩ rfl rfl rfl trivial ?_; clear S CL a; intro a S CL
            refine h_bin S CL hw le ⟨rfl, rfl, rfl, rfl, rfl, rfl, rfl, rfl, rfl, rfl, rfl, rfl, rfl, rfl, rfl, rfl, trivial⟩ rfl rfl rfl rfl rfl trivial ?_; clear S CL a; intro a S CL
            obtain ⟨c6, h4⟩ := chk_of h3; clear h3
            refine h_shl S CL hw le ⟨rfl, rfl, rfl, rfl, rfl, rfl, rfl, rfl, rfl, rfl, rfl, rfl, rfl, rfl, rfl, rfl, rfl, trivial⟩ (e := (min (Int.toNat (wr .i64 (8 * y12))) 64)) rfl rfl c6 rfl rfl rfl trivial ?_; clear S CL a; intro a S CL
            refine h_bin S CL hw le ⟨rfl, rfl, rfl, rfl, rfl, rfl, rfl, rfl, rfl, rfl, rfl, rfl, rfl, rfl, rfl, rfl, rfl, rfl, trivial⟩ rfl rfl rfl rfl rfl trivial ?_; clear S CL a; intro a S CL
            refine h_iaddr S CL hw le ⟨rfl, rfl, rfl, rfl, rfl, rfl, rfl, rfl, rfl, rfl, rfl, rfl, rfl, rfl, rfl, rfl, rfl, rfl, rfl, trivial⟩ rfl rfl Tryd.underlying26 T24 c4.1 c4.2 (mul1 _ _) rfl rfl trivial ?_; clear S CL a; intro a S CL
            refine h_run' S rfl trivial ?_
            refine s_storei S (i := y7) rfl rfl .here T24 .here rfl c4.1 c4.2 ?_; clear S; intro w S
            refine h_back ⟨fun h => (nomatch h), ?_⟩
            refine h_done ?_; clear CL hw le
            refine x_blockN ?_
            refine x_thenN ?_
            refine c_region' ?_
            refine s_bin S rfl rfl rfl rfl ?_; clear S a; intro a S
            refine s_move S rfl rfl ?_; clear S a; intro a S
            refine c_end' ?_
            refine x_thenN ?_
            exact ⟨_, (wr .i64 (y12 + 1)), g32, g33, g34, (y13.set (Int.toNat y7) (bits .or .u64 (rd y13 y7) (shl .u64 (wr .u64 (rd (cpy [0, 0, 0, 0, 0, 0, 0, 0, 0, 0, 0, 0, 0, 0, 0, 0, 0, 0, 0, 0, 0, 0, 0, 0, 0, 0, 0, 0, 0, 0, 0, 0] (Int.toNat (wr .i64 (32 - ((y1).length : Int)))) y1 (min (y1).length (Int.toNat 32 - Int.toNat (wr .i64 (32 - ((y1).length : Int)))))) (wr .i64 ((wr .i64 (31 - (wr .i64 (8 * y7)))) - y12)))) (min (Int.toNat (wr .i64 (8 * y12))) 64)))), (S.sub ⟨rfl, rfl, rfl, rfl, rfl, rfl, trivial⟩ (.cons .here (.cons .here (.cons .here .nil)))), h4⟩
          · refine c_condF S rfl c3 ?_
            refine wp_exit ?_
            refine x_thenX ?_
            refine x_thenX ?_
            refine x_blockX ?_
            refine x_blockN ?_
            refine x_thenN ?_
            exact j3 _ g32 g33 g34 y13 a w (S.sub ⟨rfl, rfl, rfl, rfl, trivial⟩ (.cons .here (.cons .here (.cons .here .nil)))) h1
      · refine c_condF S rfl c2 ?_
        refine wp_exit ?_
        refine x_thenX ?_
        refine x_thenX ?_
        refine x_blockX ?_
        refine x_thenN ?_
        exact j2 _ g20 g22 y8 a w (S.sub ⟨rfl, rfl, trivial⟩ (.cons .here (.cons (.there .here) .nil))) h1
  refine c_region ?_
  refine s_move S rfl rfl ?_; clear S a; intro a S
  refine s_lenS S rfl Tryd.underlying27 rfl ?_; clear S a; intro a S
  refine s_bin S rfl rfl rfl rfl ?_; clear S a; intro a S
  refine c_end ?_
  rcases ite_of h0 with ⟨c7, h1⟩ | ⟨c7, h1⟩ <;> clear h0
  · refine c_condT S rfl c7 ?_
    refine c_region' ?_
    refine s_move S rfl rfl ?_; clear S a; intro a S
    refine s_move S rfl rfl ?_; clear S a; intro a S
    refine s_lenS S rfl Tryd.underlying27 rfl ?_; clear S a; intro a S
    refine s_bin S rfl rfl rfl rfl ?_; clear S a; intro a S
    obtain ⟨c8, h2⟩ := chk_of h1; clear h1
    refine s_cutS S (i := (wr .i64 (((x1).length : Int) - 32))) (j := ((x1).length : Int)) (ys := x1.drop (Int.toNat (wr .i64 (((x1).length : Int) - 32)))) rfl rfl Tryd.underlying27 T5 (.inr ⟨_, _, rfl, rfl⟩) (.inl ⟨rfl, rfl⟩) c8 rfl (by simp) ?_; clear S a; intro A2 cp2 a S
    refine s_assign S rfl rfl ?_; clear S a; intro a S
    refine c_end' ?_
    refine x_thenN ?_
    exact j1 _ A2 cp2 (x1.drop (Int.toNat (wr .i64 (((x1).length : Int) - 32)))) g2 g1 a w (S.sub ⟨rfl, rfl, rfl, trivial⟩ (.cons .here (.cons .here .nil))) h2
  · refine c_condF S rfl c7 ?_
    refine wp_skip ?_
    refine x_thenN ?_
    exact j1 _ ch_x1.1 ch_x1.2 x1 g2 g1 a w (S.sub ⟨rfl, rfl, rfl, trivial⟩ (.cons .here (.cons .here .nil))) h1
/-! smithy/keccak.Word -/
def keccak_Word.f (k : Nat) (x1 : List Int) : Option (List Int) := (keccak_Sum.f k x1).bind fun t1 => ((word_From.f k (((t1).drop 0).take 32)).bind fun t2 => (some t2))
theorem keccak_Word.ok (k : Nat) (x1 : List Int) (ch_x1 : Option Addr × Nat) (r : List Int) (h0 : keccak_Word.f k x1 = some r) (mi : Mem) (w0 : World) (G : Glob mi) : okL mi [(.sl ch_x1.1 (x1).length ch_x1.2 (RdS (Ty.int .u8) ch_x1.1 x1))] → Frz mi w0 → Calls Tryd.prog 22 (([(.sl ch_x1.1 (x1).length ch_x1.2 (RdS (Ty.int .u8) ch_x1.1 x1))] : List D).map D.val).toArray w0 (Ret mi (.agg [.ints .u64 r 4]) w0) := by
  intro ok hm
  delta keccak_Word.f at h0
  refine c_enter (n := 8) [(.sl ch_x1.1 (x1).length ch_x1.2 (RdS (Ty.int .u8) ch_x1.1 x1))] (l := [(0, (.sl ch_x1.1 (x1).length ch_x1.2 (RdS (Ty.int .u8) ch_x1.1 x1)))]) Tryd.func22 rfl rfl rfl rfl ok hm ?_
  clear ok hm
  intro a S
  refine c_region ?_
  refine s_alloc S Z26 rfl ⟨rfl, trivial⟩ rfl ?_; clear S a; intro g1 a w S
  refine c_end ?_
  refine c_region ?_
  refine s_move S rfl rfl ?_; clear S a; intro a S
  obtain ⟨t1, et1, h1⟩ := bind_of h0; clear h0
  refine s_call S (ds := [(.sl ch_x1.1 (x1).length ch_x1.2 (RdS (Ty.int .u8) ch_x1.1 x1))]) (d := (.agg [.ints .u8 t1 32])) N20 rfl rfl (keccak_Sum.ok k x1 (ch_x1.1, ch_x1.2) t1 et1 _ _ (G.mono S.le)) ?_; clear S a w; intro a w S
  refine s_alloc S Z40 rfl ⟨rfl, trivial⟩ rfl ?_; clear S a w; intro g2 a w S
  refine s_store S rfl rfl rfl (s' := [.ints .u8 t1 32]) .here T40 rfl rfl ?_; clear S w; intro w S
  refine c_end ?_
  refine c_region ?_
  refine s_sliceA S (i := 0) (j := 32) (o' := 0) (len := 32) (cap := 32) rfl Tryd.underlying40 T5 (.inl ⟨rfl, rfl⟩) (.inl ⟨rfl, rfl⟩) (by decide) rfl rfl rfl rfl ?_; clear S a; intro a S
  replace S := S.freeze .here
  obtain ⟨m, le1, S⟩ := S
  replace S := (S.slup' (u := 6) (lo := 0) (c := 32) (ys := ((t1).drop 0).take 32) rfl (Pull.mem .here).1 .here (.inl rfl) (by decide) (by decide) rfl).2
  obtain ⟨t2, et2, h2⟩ := bind_of h1; clear h1
  refine s_call S (ds := [(.sl (some ⟨g2, 0, none⟩) (((t1).drop 0).take 32).length 32 (RdS (Ty.int .u8) (some ⟨g2, 0, none⟩) (((t1).drop 0).take 32)))]) (d := (.agg [.ints .u64 t2 4])) N27 rfl rfl (word_From.ok k (((t1).drop 0).take 32) ((some ⟨g2, 0, none⟩), 32) t2 et2 _ _) ?_; clear S a w; intro a w S
  refine s_store S rfl rfl rfl (s' := [.ints .u64 t2 4]) (.there .here) T26 rfl rfl ?_; clear S w; intro w S
  refine c_end ?_
  refine wp_ret ?_
  obtain rfl := Option.some.inj h2
  exact b_ret1 (d := (.agg [.ints .u64 t2 4])) S rfl (resD_cell rfl (.there .here) T26 rfl rfl) fun ok => ⟨rfl, ok, S.below0⟩
/-! smithy/addr.Create2 -/
def addr_Create2.j1 (k : Nat) (x1 : List Int) (y1 : List Int) (y2 : List Int) : Option (List Int) := if (([255]).length + (((x1).drop 0).take 20).length) * 1 ≤ 140737488355328 then (if (([255] ++ (((x1).drop 0).take 20)).length + (((y1).drop 0).take 32).length) * 1 ≤ 140737488355328 then (if ((([255] ++ (((x1).drop 0).take 20)) ++ (((y1).drop 0).take 32)).length + (((y2).drop 0).take 32).length) * 1 ≤ 140737488355328 then ((keccak_Word.f k ((([255] ++ (((x1).drop 0).take 20)) ++ (((y1).drop 0).take 32)) ++ (((y2).drop 0).take 32))).bind fun t1 => ((addr_Of.f k t1).bind fun t2 => (some t2))) else none) else none) else none
def addr_Create2.f (k : Nat) (x1 : List Int) (x2 : List Int) (x3 : List Int) : Option (List Int) := (keccak_Sum.f k x3).bind fun t3 => ((word_Bytes.f k x2).bind fun t4 => (addr_Create2.j1 k x1 t4 t3))
theorem addr_Create2.ok (k : Nat) (x1 : List Int) (x2 : List Int) (x3 : List Int) (ch_x3 : Option Addr × Nat) (r : List Int) (h0 : addr_Create2.f k x1 x2 x3 = some r) (mi : Mem) (w0 : World) (G : Glob mi) : okL mi [(.agg [.ints .u8 x1 20]), (.agg [.ints .u64 x2 4]), (.sl ch_x3.1 (x3).length ch_x3.2 (RdS (Ty.int .u8) ch_x3.1 x3))] → Frz mi w0 → Calls Tryd.prog 8 (([(.agg [.ints .u8 x1 20]), (.agg [.ints .u64 x2 4]), (.sl ch_x3.1 (x3).length ch_x3.2 (RdS (Ty.int .u8) ch_x3.1 x3))] : List D).map D.val).toArray w0 (Ret mi (.agg [.ints .u8 r 20]) w0) := by
  intro ok hm
  delta addr_Create2.f at h0
  refine c_enter (n := 27) [(.agg [.ints .u8 x1 20]), (.agg [.ints .u64 x2 4]), (.sl ch_x3.1 (x3).length ch_x3.2 (RdS (Ty.int .u8) ch_x3.1 x3))] (l := [(0, (.agg [.ints .u8 x1 20])), (1, (.agg [.ints .u64 x2 4])), (2, (.sl ch_x3.1 (x3).length ch_x3.2 (RdS (Ty.int .u8) ch_x3.1 x3)))]) Tryd.func8 rfl rfl rfl rfl ok hm ?_
  clear ok hm
  intro a S
  refine c_region ?_
  refine s_box S rfl rfl rfl ?_; clear S a; intro g1 a w S
  refine s_box S rfl rfl rfl ?_; clear S a w; intro g2 a w S
  refine s_alloc S Z23 rfl ⟨rfl, trivial⟩ rfl ?_; clear S a w; intro g3 a w S
  refine c_end ?_
  refine wp_seq_k ?_
  intro K1 hK1
  have j1 : ∀ (m : Mem) (g4 : Nat) (g5 : Nat) (g6 : Nat) (g7 : Nat) (y1 : List Int) (y2 : List Int) (a : Act) (w : World), St 27 m (B0 mi w0) [(8, (.v (.pointer (some ⟨g4, 0, none⟩)))), (7, (.v (.pointer (some ⟨g5, 0, none⟩)))), (6, (.v (.pointer (some ⟨g6, 0, none⟩)))), (3, (.v (.pointer (some ⟨g7, 0, none⟩))))] [Res.cells g4 39 [.ints .u8 y1 32], Res.cells g5 40 [.ints .u8 y2 32], Res.cells g6 23 [.ints .u8 [0, 0, 0, 0, 0, 0, 0, 0, 0, 0, 0, 0, 0, 0, 0, 0, 0, 0, 0, 0] 20], Res.cells g7 23 [.ints .u8 x1 20]] a w → addr_Create2.j1 k x1 y1 y2 = some r → K1 a w := by
    intro m g4 g5 g6 g7 y1 y2 a w S h0
    delta addr_Create2.j1 at h0
    refine hK1 a w ?_
    refine c_region ?_
    refine s_bldSl S (ty' := (Ty.int .u8)) (ds := [(0, (.v (.int .u8 255)))]) (z := 0) (c0 := ()) (ys := [255]) (cs := [()]) rfl Tryd.underlying27 J5 Z5 rfl ⟨rfl, trivial⟩ rfl rfl rfl rfl rfl rfl ?_; clear S a w; intro g8 a w S
    refine s_assign S rfl rfl ?_; clear S a; intro a S
    refine c_end ?_
    refine c_region ?_
    refine s_move S rfl rfl ?_; clear S a; intro a S
    refine s_sliceA S (i := 0) (j := 20) (o' := 0) (len := 20) (cap := 20) rfl Tryd.underlying23 T5 (.inl ⟨rfl, rfl⟩) (.inl ⟨rfl, rfl⟩) (by decide) rfl rfl rfl rfl ?_; clear S a; intro a S
    replace S := S.freeze (.there (.there (.there (.there .here))))
    obtain ⟨m, le1, S⟩ := S
    replace S := (S.slup' (u := 16) (lo := 0) (c := 20) (ys := ((x1).drop 0).take 20) rfl (Pull.mem (.there (.there (.there (.there .here))))).1 .here (.inl rfl) (by decide) (by decide) rfl).2
    obtain ⟨c1, h1⟩ := chk_of h0; clear h0
    refine s_app S (k2 := ((((x1).drop 0).take 20).length)) (ys := (((x1).drop 0).take 20)) rfl (fun _ _ => .here) rfl rfl rfl (RdS.src (S.get 16 (.sl (some ⟨g7, 0, none⟩) (((x1).drop 0).take 20).length 20 (RdS (Ty.int .u8) (some ⟨g7, 0, none⟩) (((x1).drop 0).take 20))) rfl).2.2.2.1 (by decide) S.frz) Tryd.underlying27 J5 c1 rfl ?_; clear S a w; intro A1 cp1 a w S
    refine s_assign S rfl rfl ?_; clear S a; intro a S
    refine c_end ?_
    refine c_region ?_
    refine s_move S rfl rfl ?_; clear S a; intro a S
    refine s_sliceA S (i := 0) (j := 32) (o' := 0) (len := 32) (cap := 32) rfl Tryd.underlying39 T5 (.inl ⟨rfl, rfl⟩) (.inl ⟨rfl, rfl⟩) (by decide) rfl rfl rfl rfl ?_; clear S a; intro a S
    replace S := S.freeze (.there .here)
    obtain ⟨m, le1, S⟩ := S
    replace S := (S.slup' (u := 19) (lo := 0) (c := 32) (ys := ((y1).drop 0).take 32) rfl (Pull.mem (.there .here)).1 .here (.inl rfl) (by decide) (by decide) rfl).2
    obtain ⟨c2, h2⟩ := chk_of h1; clear h1
    refine s_app S (k2 := ((((y1).drop 0).take 32).length)) (ys := (((y1).drop 0).take 32)) rfl (fun _ _ => .here) rfl rfl rfl (RdS.src (S.get 19 (.sl (some ⟨g4, 0, none⟩) (((y1).drop 0).take 32).length 32 (RdS (Ty.int .u8) (some ⟨g4, 0, none⟩) (((y1).drop 0).take 32))) rfl).2.2.2.1 (by decide) S.frz) Tryd.underlying27 J5 c2 rfl ?_; clear S a w; intro A2 cp2 a w S
    refine s_assign S rfl rfl ?_; clear S a; intro a S
    refine c_end ?_
    refine c_region ?_
    refine s_move S rfl rfl ?_; clear S a; intro a S
    refine s_sliceA S (i := 0) (j := 32) (o' := 0) (len := 32) (cap := 32) rfl Tryd.underlying40 T5 (.inl ⟨rfl, rfl⟩) (.inl ⟨rfl, rfl⟩) (by decide) rfl rfl rfl rfl ?_; clear S a; intro a S
    replace S := S.freeze (.there (.there .here))
    obtain ⟨m, le1, S⟩ := S
    replace S := (S.slup' (u := 22) (lo := 0) (c := 32) (ys := ((y2).drop 0).take 32) rfl (Pull.mem (.there (.there .here))).1 .here (.inl rfl) (by decide) (by decide) rfl).2
    obtain ⟨c3, h3⟩ := chk_of h2; clear h2
    refine s_app S (k2 := ((((y2).drop 0).take 32).length)) (ys := (((y2).drop 0).take 32)) rfl (fun _ _ => .here) rfl rfl rfl (RdS.src (S.get 22 (.sl (some ⟨g5, 0, none⟩) (((y2).drop 0).take 32).length 32 (RdS (Ty.int .u8) (some ⟨g5, 0, none⟩) (((y2).drop 0).take 32))) rfl).2.2.2.1 (by decide) S.frz) Tryd.underlying27 J5 c3 rfl ?_; clear S a w; intro A3 cp3 a w S
    refine s_assign S rfl rfl ?_; clear S a; intro a S
    refine c_end ?_
    refine c_region ?_
    refine s_move S rfl rfl ?_; clear S a; intro a S
    replace S := S.rowfro .here
    obtain ⟨m, le1, S, hro⟩ := S
    replace S := S.slotro (u := 24) rfl hro
    replace S := S.slotro (u := 9) rfl hro
    replace S := S.slotro (u := 23) rfl hro
    obtain ⟨t1, et1, h4⟩ := bind_of h3; clear h3
    refine s_call S (ds := [(.sl A3 ((([255] ++ (((x1).drop 0).take 20)) ++ (((y1).drop 0).take 32)) ++ (((y2).drop 0).take 32)).length cp3 (RdS (Ty.int .u8) A3 ((([255] ++ (((x1).drop 0).take 20)) ++ (((y1).drop 0).take 32)) ++ (((y2).drop 0).take 32))))]) (d := (.agg [.ints .u64 t1 4])) N22 rfl rfl (keccak_Word.ok k ((([255] ++ (((x1).drop 0).take 20)) ++ (((y1).drop 0).take 32)) ++ (((y2).drop 0).take 32)) (A3, cp3) t1 et1 _ _ (G.mono S.le)) ?_; clear S a w; intro a w S
    obtain ⟨t2, et2, h5⟩ := bind_of h4; clear h4
    refine s_call S (ds := [(.agg [.ints .u64 t1 4])]) (d := (.agg [.ints .u8 t2 20])) N12 rfl rfl (addr_Of.ok k t1 t2 et2 _ _) ?_; clear S a w; intro a w S
    refine s_store S rfl rfl rfl (s' := [.ints .u8 t2 20]) (.there (.there .here)) T23 rfl rfl ?_; clear S w; intro w S
    refine c_end ?_
    refine wp_ret ?_
    obtain rfl := Option.some.inj h5
    exact b_ret1 (d := (.agg [.ints .u8 t2 20])) S rfl (resD_cell rfl (.there (.there .here)) T23 rfl rfl) fun ok => ⟨rfl, ok, S.below0⟩
  refine c_heldS S (.take 0 (.take 2 (.alts (.run 1 true (.alts (.run 3 true (.alts (.run 4 true (.alts (.run 5 true (.alts (.run 6 true (.alts (.run 7 false .done .nil)) .nil)) .nil)) (.run 5 true (.alts (.run 4 true (.alts (.run 6 true (.alts (.run 7 false .done .nil)) .nil)) .nil)) .nil))) (.run 4 true (.alts (.run 3 true (.alts (.run 5 true (.alts (.run 6 true (.alts (.run 7 false .done .nil)) .nil)) .nil)) (.run 5 true (.alts (.run 3 true (.alts (.run 6 true (.alts (.run 7 false .done .nil)) .nil)) .nil)) .nil))) (.run 5 true (.alts (.run 3 true (.alts (.run 4 true (.alts (.run 6 true (.alts (.run 7 false .done .nil)) .nil)) .nil)) (.run 4 true (.alts (.run 3 true (.alts (.run 6 true (.alts (.run 7 false .done .nil)) .nil)) .nil)) .nil))) .nil)))) (.run 4 true (.alts (.run 1 true (.alts (.run 3 true (.alts (.run 5 true (.alts (.run 6 true (.alts (.run 7 false .done .nil)) .nil)) .nil)) (.run 5 true (.alts (.run 3 true (.alts (.run 6 true (.alts (.run 7 false .done .nil)) .nil)) .nil)) .nil))) (.run 5 true (.alts (.run 1 true (.alts (.run 3 true (.alts (.run 6 true (.alts (.run 7 false .done .nil)) .nil)) .nil)) .nil)) .nil))) (.run 5 true (.alts (.run 1 true (.alts (.run 3 true (.alts (.run 4 true (.alts (.run 6 true (.alts (.run 7 false .done .nil)) .nil)) .nil)) (.run 4 true (.alts (.run 3 true (.alts (.run 6 true (.alts (.run 7 false .done .nil)) .nil)) .nil)) .nil))) (.run 4 true (.alts (.run 1 true (.alts (.run 3 true (.alts (.run 6 true (.alts (.run 7 false .done .nil)) .nil)) .nil)) .nil)) .nil))) .nil)))))) 7 [Res.cells g3 23 [.ints .u8 [0, 0, 0, 0, 0, 0, 0, 0, 0, 0, 0, 0, 0, 0, 0, 0, 0, 0, 0, 0] 20], Res.cells g2 26 [.ints .u64 x2 4], Res.cells g1 23 [.ints .u8 x1 20]] (.cons .here (.cons .here (.cons .here .nil))) ⟨Res.stay_cells, Res.stay_cells, Res.stay_cells, trivial⟩ [(4, (.v (.pointer (some ⟨g2, 0, none⟩)))), (2, (.sl ch_x3.1 (x3).length ch_x3.2 (RdS (Ty.int .u8) ch_x3.1 x3)))] ⟨rfl, rfl, trivial⟩ (by kernel_rfl) (by kernel_rfl) ?_; clear S; intro w S CL hw le
  refine h_move S CL hw le ⟨rfl, rfl, trivial⟩ rfl rfl rfl trivial ?_; clear S CL a; intro a S CL
  refine h_loada S CL hw le ⟨rfl, rfl, rfl, trivial⟩ rfl (.there .here) T26 (s' := [.ints .u64 x2 4]) rfl rfl rfl trivial ?_; clear S CL a; intro a S CL
  refine h_alts ?_
  refine h_runO S rfl trivial ?_ ?_
  · obtain ⟨t3, et3, h1⟩ := bind_of h0; clear h0
    refine s_call S (ds := [(.sl ch_x3.1 (x3).length ch_x3.2 (RdS (Ty.int .u8) ch_x3.1 x3))]) (d := (.agg [.ints .u8 t3 32])) N20 rfl rfl (keccak_Sum.ok k x3 (ch_x3.1, ch_x3.2) t3 et3 _ _ (G.mono S.le)) ?_; clear S a; intro a w S
    replace hw := CL.again hw S (.cons .here (.cons .here (.cons .here .nil))) le
    refine h_back ⟨fun _ => hw, ?_⟩
    refine h_alts ?_
    refine h_runO S rfl trivial ?_ ?_
    · obtain ⟨t4, et4, h2⟩ := bind_of h1; clear h1
      refine s_call S (ds := [(.agg [.ints .u64 x2 4])]) (d := (.agg [.ints .u8 t4 32])) N21 rfl rfl (word_Bytes.ok k x2 t4 et4 _ _) ?_; clear S a; intro a w S
      replace hw := CL.again hw S (.cons .here (.cons .here (.cons .here .nil))) le
      refine h_back ⟨fun _ => hw, ?_⟩
      refine h_alts ?_
      refine h_runO S rfl trivial ?_ ?_
      · refine s_alloc S Z40 rfl ⟨rfl, trivial⟩ rfl ?_; clear S a; intro g9 a w S
        replace hw := CL.again hw S (.cons (.there .here) (.cons (.there .here) (.cons (.there .here) .nil))) le
        refine h_back ⟨fun _ => hw, ?_⟩
        refine h_run' S rfl trivial ?_
        refine s_alloc S Z39 rfl ⟨rfl, trivial⟩ rfl ?_; clear S a; intro g10 a w S
        replace hw := CL.again hw S (.cons (.there (.there .here)) (.cons (.there (.there .here)) (.cons (.there (.there .here)) .nil))) le
        refine h_back ⟨fun _ => hw, ?_⟩
        refine h_run' S rfl trivial ?_
        refine s_store S rfl rfl rfl (s' := [.ints .u8 t3 32]) (.there .here) T40 rfl rfl ?_; clear S; intro w S
        replace hw := CL.again hw S (.cons (.there (.there .here)) (.cons (.there (.there .here)) (.cons (.there (.there .here)) .nil))) le
        refine h_back ⟨fun _ => hw, ?_⟩
        refine h_run' S rfl trivial ?_
        refine s_store S rfl rfl rfl (s' := [.ints .u8 t4 32]) .here T39 rfl rfl ?_; clear S; intro w S
        refine h_back ⟨fun h => (nomatch h), ?_⟩
        refine h_done ?_; clear CL hw le
        refine x_thenN ?_
        exact j1 _ g10 g9 g3 g1 t4 t3 a w (S.sub ⟨rfl, rfl, rfl, rfl, trivial⟩ (.cons .here (.cons .here (.cons .here (.cons (.there .here) .nil))))) h2
      refine h_runO S rfl trivial ?_ ?_
      · refine s_alloc S Z39 rfl ⟨rfl, trivial⟩ rfl ?_; clear S a; intro g11 a w S
        replace hw := CL.again hw S (.cons (.there .here) (.cons (.there .here) (.cons (.there .here) .nil))) le
        refine h_back ⟨fun _ => hw, ?_⟩
        refine h_run' S rfl trivial ?_
        refine s_alloc S Z40 rfl ⟨rfl, trivial⟩ rfl ?_; clear S a; intro g12 a w S
        replace hw := CL.again hw S (.cons (.there (.there .here)) (.cons (.there (.there .here)) (.cons (.there (.there .here)) .nil))) le
        refine h_back ⟨fun _ => hw, ?_⟩
        refine h_run' S rfl trivial ?_
        refine s_store S rfl rfl rfl (s' := [.ints .u8 t3 32]) .here T40 rfl rfl ?_; clear S; intro w S
        replace hw := CL.again hw S (.cons (.there (.there .here)) (.cons (.there (.there .here)) (.cons (.there (.there .here)) .nil))) le
        refine h_back ⟨fun _ => hw, ?_⟩
        refine h_run' S rfl trivial ?_
        refine s_store S rfl rfl rfl (s' := [.ints .u8 t4 32]) (.there .here) T39 rfl rfl ?_; clear S; intro w S
        refine h_back ⟨fun h => (nomatch h), ?_⟩
        refine h_done ?_; clear CL hw le
        refine x_thenN ?_
        exact j1 _ g11 g12 g3 g1 t4 t3 a w (S.sub ⟨rfl, rfl, rfl, rfl, trivial⟩ (.cons (.there .here) (.cons .here (.cons .here (.cons (.there .here) .nil))))) h2
      exact h_nil
    refine h_runO S rfl trivial ?_ ?_
    · refine s_alloc S Z40 rfl ⟨rfl, trivial⟩ rfl ?_; clear S a; intro g13 a w S
      replace hw := CL.again hw S (.cons (.there .here) (.cons (.there .here) (.cons (.there .here) .nil))) le
      refine h_back ⟨fun _ => hw, ?_⟩
      refine h_alts ?_
      refine h_runO S rfl trivial ?_ ?_
      · obtain ⟨t5, et5, h2⟩ := bind_of h1; clear h1
        refine s_call S (ds := [(.agg [.ints .u64 x2 4])]) (d := (.agg [.ints .u8 t5 32])) N21 rfl rfl (word_Bytes.ok k x2 t5 et5 _ _) ?_; clear S a; intro a w S
        replace hw := CL.again hw S (.cons (.there .here) (.cons (.there .here) (.cons (.there .here) .nil))) le
        refine h_back ⟨fun _ => hw, ?_⟩
        refine h_run' S rfl trivial ?_
        refine s_alloc S Z39 rfl ⟨rfl, trivial⟩ rfl ?_; clear S a; intro g14 a w S
        replace hw := CL.again hw S (.cons (.there (.there .here)) (.cons (.there (.there .here)) (.cons (.there (.there .here)) .nil))) le
        refine h_back ⟨fun _ => hw, ?_⟩
        refine h_run' S rfl trivial ?_
        refine s_store S rfl rfl rfl (s' := [.ints .u8 t3 32]) (.there .here) T40 rfl rfl ?_; clear S; intro w S
        replace hw := CL.again hw S (.cons (.there (.there .here)) (.cons (.there (.there .here)) (.cons (.there (.there .here)) .nil))) le
        refine h_back ⟨fun _ => hw, ?_⟩
        refine h_run' S rfl trivial ?_
        refine s_store S rfl rfl rfl (s' := [.ints .u8 t5 32]) .here T39 rfl rfl ?_; clear S; intro w S
        refine h_back ⟨fun h => (nomatch h), ?_⟩
        refine h_done ?_; clear CL hw le
        refine x_thenN ?_
        exact j1 _ g14 g13 g3 g1 t5 t3 a w (S.sub ⟨rfl, rfl, rfl, rfl, trivial⟩ (.cons .here (.cons .here (.cons .here (.cons (.there .here) .nil))))) h2
      refine h_runO S rfl trivial ?_ ?_
      · refine s_alloc S Z39 rfl ⟨rfl, trivial⟩ rfl ?_; clear S a; intro g15 a w S
        replace hw := CL.again hw S (.cons (.there (.there .here)) (.cons (.there (.there .here)) (.cons (.there (.there .here)) .nil))) le
        refine h_back ⟨fun _ => hw, ?_⟩
        refine h_run' S rfl trivial ?_
        obtain ⟨t6, et6, h2⟩ := bind_of h1; clear h1
        refine s_call S (ds := [(.agg [.ints .u64 x2 4])]) (d := (.agg [.ints .u8 t6 32])) N21 rfl rfl (word_Bytes.ok k x2 t6 et6 _ _) ?_; clear S a; intro a w S
        replace hw := CL.again hw S (.cons (.there (.there .here)) (.cons (.there (.there .here)) (.cons (.there (.there .here)) .nil))) le
        refine h_back ⟨fun _ => hw, ?_⟩
        refine h_run' S rfl trivial ?_
        refine s_store S rfl rfl rfl (s' := [.ints .u8 t3 32]) (.there .here) T40 rfl rfl ?_; clear S; intro w S
        replace hw := CL.again hw S (.cons (.there (.there .here)) (.cons (.there (.there .here)) (.cons (.there (.there .here)) .nil))) le
        refine h_back ⟨fun _ => hw, ?_⟩
        refine h_run' S rfl trivial ?_
        refine s_store S rfl rfl rfl (s' := [.ints .u8 t6 32]) .here T39 rfl rfl ?_; clear S; intro w S
        refine h_back ⟨fun h => (nomatch h), ?_⟩
        refine h_done ?_; clear CL hw le
        refine x_thenN ?_
        exact j1 _ g15 g13 g3 g1 t6 t3 a w (S.sub ⟨rfl, rfl, rfl, rfl, trivial⟩ (.cons .here (.cons .here (.cons .here (.cons (.there .here) .nil))))) h2
      exact h_nil
    refine h_runO S rfl trivial ?_ ?_
    · refine s_alloc S Z39 rfl ⟨rfl, trivial⟩ rfl ?_; clear S a; intro g16 a w S
      replace hw := CL.again hw S (.cons (.there .here) (.cons (.there .here) (.cons (.there .here) .nil))) le
      refine h_back ⟨fun _ => hw, ?_⟩
      refine h_alts ?_
      refine h_runO S rfl trivial ?_ ?_
      · obtain ⟨t7, et7, h2⟩ := bind_of h1; clear h1
        refine s_call S (ds := [(.agg [.ints .u64 x2 4])]) (d := (.agg [.ints .u8 t7 32])) N21 rfl rfl (word_Bytes.ok k x2 t7 et7 _ _) ?_; clear S a; intro a w S
        replace hw := CL.again hw S (.cons (.there .here) (.cons (.there .here) (.cons (.there .here) .nil))) le
        refine h_back ⟨fun _ => hw, ?_⟩
        refine h_run' S rfl trivial ?_
        refine s_alloc S Z40 rfl ⟨rfl, trivial⟩ rfl ?_; clear S a; intro g17 a w S
        replace hw := CL.again hw S (.cons (.there (.there .here)) (.cons (.there (.there .here)) (.cons (.there (.there .here)) .nil))) le
        refine h_back ⟨fun _ => hw, ?_⟩
        refine h_run' S rfl trivial ?_
        refine s_store S rfl rfl rfl (s' := [.ints .u8 t3 32]) .here T40 rfl rfl ?_; clear S; intro w S
        replace hw := CL.again hw S (.cons (.there (.there .here)) (.cons (.there (.there .here)) (.cons (.there (.there .here)) .nil))) le
        refine h_back ⟨fun _ => hw, ?_⟩
        refine h_run' S rfl trivial ?_
        refine s_store S rfl rfl rfl (s' := [.ints .u8 t7 32]) (.there .here) T39 rfl rfl ?_; clear S; intro w S
        refine h_back ⟨fun h => (nomatch h), ?_⟩
        refine h_done ?_; clear CL hw le
        refine x_thenN ?_
        exact j1 _ g16 g17 g3 g1 t7 t3 a w (S.sub ⟨rfl, rfl, rfl, rfl, trivial⟩ (.cons (.there .here) (.cons .here (.cons .here (.cons (.there .here) .nil))))) h2
      refine h_runO S rfl trivial ?_ ?_
      · refine s_alloc S Z40 rfl ⟨rfl, trivial⟩ rfl ?_; clear S a; intro g18 a w S
        replace hw := CL.again hw S (.cons (.there (.there .here)) (.cons (.there (.there .here)) (.cons (.there (.there .here)) .nil))) le
        refine h_back ⟨fun _ => hw, ?_⟩
        refine h_run' S rfl trivial ?_
        obtain ⟨t8, et8, h2⟩ := bind_of h1; clear h1
        refine s_call S (ds := [(.agg [.ints .u64 x2 4])]) (d := (.agg [.ints .u8 t8 32])) N21 rfl rfl (word_Bytes.ok k x2 t8 et8 _ _) ?_; clear S a; intro a w S
        replace hw := CL.again hw S (.cons (.there (.there .here)) (.cons (.there (.there .here)) (.cons (.there (.there .here)) .nil))) le
        refine h_back ⟨fun _ => hw, ?_⟩
        refine h_run' S rfl trivial ?_
        refine s_store S rfl rfl rfl (s' := [.ints .u8 t3 32]) .here T40 rfl rfl ?_; clear S; intro w S
        replace hw := CL.again hw S (.cons (.there (.there .here)) (.cons (.there (.there .here)) (.cons (.there (.there .here)) .nil))) le
        refine h_back ⟨fun _ => hw, ?_⟩
        refine h_run' S rfl trivial ?_
        refine s_store S rfl rfl rfl (s' := [.ints .u8 t8 32]) (.there .here) T39 rfl rfl ?_; clear S; intro w S
        refine h_back ⟨fun h => (nomatch h), ?_⟩
        refine h_done ?_; clear CL hw le
        refine x_thenN ?_
        exact j1 _ g16 g18 g3 g1 t8 t3 a w (S.sub ⟨rfl, rfl, rfl, rfl, trivial⟩ (.cons (.there .here) (.cons .here (.cons .here (.cons (.there .here) .nil))))) h2
      exact h_nil
    exact h_nil
  refine h_runO S rfl trivial ?_ ?_
  · refine s_alloc S Z40 rfl ⟨rfl, trivial⟩ rfl ?_; clear S a; intro g19 a w S
    replace hw := CL.again hw S (.cons (.there .here) (.cons (.there .here) (.cons (.there .here) .nil))) le
    refine h_back ⟨fun _ => hw, ?_⟩
    refine h_alts ?_
    refine h_runO S rfl trivial ?_ ?_
    · obtain ⟨t9, et9, h1⟩ := bind_of h0; clear h0
      refine s_call S (ds := [(.sl ch_x3.1 (x3).length ch_x3.2 (RdS (Ty.int .u8) ch_x3.1 x3))]) (d := (.agg [.ints .u8 t9 32])) N20 rfl rfl (keccak_Sum.ok k x3 (ch_x3.1, ch_x3.2) t9 et9 _ _ (G.mono S.le)) ?_; clear S a; intro a w S
      replace hw := CL.again hw S (.cons (.there .here) (.cons (.there .here) (.cons (.there .here) .nil))) le
      refine h_back ⟨fun _ => hw, ?_⟩
      refine h_alts ?_
      refine h_runO S rfl trivial ?_ ?_
      · obtain ⟨t10, et10, h2⟩ := bind_of h1; clear h1
        refine s_call S (ds := [(.agg [.ints .u64 x2 4])]) (d := (.agg [.ints .u8 t10 32])) N21 rfl rfl (word_Bytes.ok k x2 t10 et10 _ _) ?_; clear S a; intro a w S
        replace hw := CL.again hw S (.cons (.there .here) (.cons (.there .here) (.cons (.there .here) .nil))) le
        refine h_back ⟨fun _ => hw, ?_⟩
        refine h_run' S rfl trivial ?_
        refine s_alloc S Z39 rfl ⟨rfl, trivial⟩ rfl ?_; clear S a; intro g20 a w S
        replace hw := CL.again hw S (.cons (.there (.there .here)) (.cons (.there (.there .here)) (.cons (.there (.there .here)) .nil))) le
        refine h_back ⟨fun _ => hw, ?_⟩
        refine h_run' S rfl trivial ?_
        refine s_store S rfl rfl rfl (s' := [.ints .u8 t9 32]) (.there .here) T40 rfl rfl ?_; clear S; intro w S
        replace hw := CL.again hw S (.cons (.there (.there .here)) (.cons (.there (.there .here)) (.cons (.there (.there .here)) .nil))) le
        refine h_back ⟨fun _ => hw, ?_⟩
        refine h_run' S rfl trivial ?_
        refine s_store S rfl rfl rfl (s' := [.ints .u8 t10 32]) .here T39 rfl rfl ?_; clear S; intro w S
        refine h_back ⟨fun h => (nomatch h), ?_⟩
        refine h_done ?_; clear CL hw le
        refine x_thenN ?_
        exact j1 _ g20 g19 g3 g1 t10 t9 a w (S.sub ⟨rfl, rfl, rfl, rfl, trivial⟩ (.cons .here (.cons .here (.cons .here (.cons (.there .here) .nil))))) h2
      refine h_runO S rfl trivial ?_ ?_
      · refine s_alloc S Z39 rfl ⟨rfl, trivial⟩ rfl ?_; clear S a; intro g21 a w S
        replace hw := CL.again hw S (.cons (.there (.there .here)) (.cons (.there (.there .here)) (.cons (.there (.there .here)) .nil))) le
        refine h_back ⟨fun _ => hw, ?_⟩
        refine h_run' S rfl trivial ?_
        obtain ⟨t11, et11, h2⟩ := bind_of h1; clear h1
        refine s_call S (ds := [(.agg [.ints .u64 x2 4])]) (d := (.agg [.ints .u8 t11 32])) N21 rfl rfl (word_Bytes.ok k x2 t11 et11 _ _) ?_; clear S a; intro a w S
        replace hw := CL.again hw S (.cons (.there (.there .here)) (.cons (.there (.there .here)) (.cons (.there (.there .here)) .nil))) le
        refine h_back ⟨fun _ => hw, ?_⟩
        refine h_run' S rfl trivial ?_
        refine s_store S rfl rfl rfl (s' := [.ints .u8 t9 32]) (.there .here) T40 rfl rfl ?_; clear S; intro w S
        replace hw := CL.again hw S (.cons (.there (.there .here)) (.cons (.there (.there .here)) (.cons (.there (.there .here)) .nil))) le
        refine h_back ⟨fun _ => hw, ?_⟩
        refine h_run' S rfl trivial ?_
        refine s_store S rfl rfl rfl (s' := [.ints .u8 t11 32]) .here T39 rfl rfl ?_; clear S; intro w S
        refine h_back ⟨fun h => (nomatch h), ?_⟩
        refine h_done ?_; clear CL hw le
        refine x_thenN ?_
        exact j1 _ g21 g19 g3 g1 t11 t9 a w (S.sub ⟨rfl, rfl, rfl, rfl, trivial⟩ (.cons .here (.cons .here (.cons .here (.cons (.there .here) .nil))))) h2
      exact h_nil
    refine h_runO S rfl trivial ?_ ?_
    · refine s_alloc S Z39 rfl ⟨rfl, trivial⟩ rfl ?_; clear S a; intro g22 a w S
      replace hw := CL.again hw S (.cons (.there (.there .here)) (.cons (.there (.there .here)) (.cons (.there (.there .here)) .nil))) le
      refine h_back ⟨fun _ => hw, ?_⟩
      refine h_run' S rfl trivial ?_
      obtain ⟨t12, et12, h1⟩ := bind_of h0; clear h0
      refine s_call S (ds := [(.sl ch_x3.1 (x3).length ch_x3.2 (RdS (Ty.int .u8) ch_x3.1 x3))]) (d := (.agg [.ints .u8 t12 32])) N20 rfl rfl (keccak_Sum.ok k x3 (ch_x3.1, ch_x3.2) t12 et12 _ _ (G.mono S.le)) ?_; clear S a; intro a w S
      replace hw := CL.again hw S (.cons (.there (.there .here)) (.cons (.there (.there .here)) (.cons (.there (.there .here)) .nil))) le
      refine h_back ⟨fun _ => hw, ?_⟩
      refine h_run' S rfl trivial ?_
      obtain ⟨t13, et13, h2⟩ := bind_of h1; clear h1
      refine s_call S (ds := [(.agg [.ints .u64 x2 4])]) (d := (.agg [.ints .u8 t13 32])) N21 rfl rfl (word_Bytes.ok k x2 t13 et13 _ _) ?_; clear S a; intro a w S
      replace hw := CL.again hw S (.cons (.there (.there .here)) (.cons (.there (.there .here)) (.cons (.there (.there .here)) .nil))) le
      refine h_back ⟨fun _ => hw, ?_⟩
      refine h_run' S rfl trivial ?_
      refine s_store S rfl rfl rfl (s' := [.ints .u8 t12 32]) (.there .here) T40 rfl rfl ?_; clear S; intro w S
      replace hw := CL.again hw S (.cons (.there (.there .here)) (.cons (.there (.there .here)) (.cons (.there (.there .here)) .nil))) le
      refine h_back ⟨fun _ => hw, ?_⟩
      refine h_run' S rfl trivial ?_
      refine s_store S rfl rfl rfl (s' := [.ints .u8 t13 32]) .here T39 rfl rfl ?_; clear S; intro w S
      refine h_back ⟨fun h => (nomatch h), ?_⟩
      refine h_done ?_; clear CL hw le
      refine x_thenN ?_
      exact j1 _ g22 g19 g3 g1 t13 t12 a w (S.sub ⟨rfl, rfl, rfl, rfl, trivial⟩ (.cons .here (.cons .here (.cons .here (.cons (.there .here) .nil))))) h2
    exact h_nil
  refine h_runO S rfl trivial ?_ ?_
  · refine s_alloc S Z39 rfl ⟨rfl, trivial⟩ rfl ?_; clear S a; intro g23 a w S
    replace hw := CL.again hw S (.cons (.there .here) (.cons (.there .here) (.cons (.there .here) .nil))) le
    refine h_back ⟨fun _ => hw, ?_⟩
    refine h_alts ?_
    refine h_runO S rfl trivial ?_ ?_
    · obtain ⟨t14, et14, h1⟩ := bind_of h0; clear h0
      refine s_call S (ds := [(.sl ch_x3.1 (x3).length ch_x3.2 (RdS (Ty.int .u8) ch_x3.1 x3))]) (d := (.agg [.ints .u8 t14 32])) N20 rfl rfl (keccak_Sum.ok k x3 (ch_x3.1, ch_x3.2) t14 et14 _ _ (G.mono S.le)) ?_; clear S a; intro a w S
      replace hw := CL.again hw S (.cons (.there .here) (.cons (.there .here) (.cons (.there .here) .nil))) le
      refine h_back ⟨fun _ => hw, ?_⟩
      refine h_alts ?_
      refine h_runO S rfl trivial ?_ ?_
      · obtain ⟨t15, et15, h2⟩ := bind_of h1; clear h1
        refine s_call S (ds := [(.agg [.ints .u64 x2 4])]) (d := (.agg [.ints .u8 t15 32])) N21 rfl rfl (word_Bytes.ok k x2 t15 et15 _ _) ?_; clear S a; intro a w S
        replace hw := CL.again hw S (.cons (.there .here) (.cons (.there .here) (.cons (.there .here) .nil))) le
        refine h_back ⟨fun _ => hw, ?_⟩
        refine h_run' S rfl trivial ?_
        refine s_alloc S Z40 rfl ⟨rfl, trivial⟩ rfl ?_; clear S a; intro g24 a w S
        replace hw := CL.again hw S (.cons (.there (.there .here)) (.cons (.there (.there .here)) (.cons (.there (.there .here)) .nil))) le
        refine h_back ⟨fun _ => hw, ?_⟩
        refine h_run' S rfl trivial ?_
        refine s_store S rfl rfl rfl (s' := [.ints .u8 t14 32]) .here T40 rfl rfl ?_; clear S; intro w S
        replace hw := CL.again hw S (.cons (.there (.there .here)) (.cons (.there (.there .here)) (.cons (.there (.there .here)) .nil))) le
        refine h_back ⟨fun _ => hw, ?_⟩
        refine h_run' S rfl trivial ?_
        refine s_store S rfl rfl rfl (s' := [.ints .u8 t15 32]) (.there .here) T39 rfl rfl ?_; clear S; intro w S
        refine h_back ⟨fun h => (nomatch h), ?_⟩
        refine h_done ?_; clear CL hw le
        refine x_thenN ?_
        exact j1 _ g23 g24 g3 g1 t15 t14 a w (S.sub ⟨rfl, rfl, rfl, rfl, trivial⟩ (.cons (.there .here) (.cons .here (.cons .here (.cons (.there .here) .nil))))) h2
      refine h_runO S rfl trivial ?_ ?_
      · refine s_alloc S Z40 rfl ⟨rfl, trivial⟩ rfl ?_; clear S a; intro g25 a w S
        replace hw := CL.again hw S (.cons (.there (.there .here)) (.cons (.there (.there .here)) (.cons (.there (.there .here)) .nil))) le
        refine h_back ⟨fun _ => hw, ?_⟩
        refine h_run' S rfl trivial ?_
        obtain ⟨t16, et16, h2⟩ := bind_of h1; clear h1
        refine s_call S (ds := [(.agg [.ints .u64 x2 4])]) (d := (.agg [.ints .u8 t16 32])) N21 rfl rfl (word_Bytes.ok k x2 t16 et16 _ _) ?_; clear S a; intro a w S
        replace hw := CL.again hw S (.cons (.there (.there .here)) (.cons (.there (.there .here)) (.cons (.there (.there .here)) .nil))) le
        refine h_back ⟨fun _ => hw, ?_⟩
        refine h_run' S rfl trivial ?_
        refine s_store S rfl rfl rfl (s' := [.ints .u8 t14 32]) .here T40 rfl rfl ?_; clear S; intro w S
        replace hw := CL.again hw S (.cons (.there (.there .here)) (.cons (.there (.there .here)) (.cons (.there (.there .here)) .nil))) le
        refine h_back ⟨fun _ => hw, ?_⟩
        refine h_run' S rfl trivial ?_
        refine s_store S rfl rfl rfl (s' := [.ints .u8 t16 32]) (.there .here) T39 rfl rfl ?_; clear S; intro w S
        refine h_back ⟨fun h => (nomatch h), ?_⟩
        refine h_done ?_; clear CL hw le
        refine x_thenN ?_
        exact j1 _ g23 g25 g3 g1 t16 t14 a w (S.sub ⟨rfl, rfl, rfl, rfl, trivial⟩ (.cons (.there .here) (.cons .here (.cons .here (.cons (.there .here) .nil))))) h2
      exact h_nil
    refine h_runO S rfl trivial ?_ ?_
    · refine s_alloc S Z40 rfl ⟨rfl, trivial⟩ rfl ?_; clear S a; intro g26 a w S
      replace hw := CL.again hw S (.cons (.there (.there .here)) (.cons (.there (.there .here)) (.cons (.there (.there .here)) .nil))) le
      refine h_back ⟨fun _ => hw, ?_⟩
      refine h_run' S rfl trivial ?_
      obtain ⟨t17, et17, h1⟩ := bind_of h0; clear h0
      refine s_call S (ds := [(.sl ch_x3.1 (x3).length ch_x3.2 (RdS (Ty.int .u8) ch_x3.1 x3))]) (d := (.agg [.ints .u8 t17 32])) N20 rfl rfl (keccak_Sum.ok k x3 (ch_x3.1, ch_x3.2) t17 et17 _ _ (G.mono S.le)) ?_; clear S a; intro a w S
      replace hw := CL.again hw S (.cons (.there (.there .here)) (.cons (.there (.there .here)) (.cons (.there (.there .here)) .nil))) le
      refine h_back ⟨fun _ => hw, ?_⟩
      refine h_run' S rfl trivial ?_
      obtain ⟨t18, et18, h2⟩ := bind_of h1; clear h1
      refine s_call S (ds := [(.agg [.ints .u64 x2 4])]) (d := (.agg [.ints .u8 t18 32])) N21 rfl rfl (word_Bytes.ok k x2 t18 et18 _ _) ?_; clear S a; intro a w S
      replace hw := CL.again hw S (.cons (.there (.there .here)) (.cons (.there (.there .here)) (.cons (.there (.there .here)) .nil))) le
      refine h_back ⟨fun _ => hw, ?_⟩
      refine h_run' S rfl trivial ?_
      refine s_store S rfl rfl rfl (s' := [.ints .u8 t17 32]) .here T40 rfl rfl ?_; clear S; intro w S
      replace hw := CL.again hw S (.cons (.there (.there .here)) (.cons (.there (.there .here)) (.cons (.there (.there .here)) .nil))) le
      refine h_back ⟨fun _ => hw, ?_⟩
      refine h_run' S rfl trivial ?_
      refine s_store S rfl rfl rfl (s' := [.ints .u8 t18 32]) (.there .here) T39 rfl rfl ?_; clear S; intro w S
      refine h_back ⟨fun h => (nomatch h), ?_⟩
      refine h_done ?_; clear CL hw le
      refine x_thenN ?_
      exact j1 _ g23 g26 g3 g1 t18 t17 a w (S.sub ⟨rfl, rfl, rfl, rfl, trivial⟩ (.cons (.there .here) (.cons .here (.cons .here (.cons (.there .here) .nil))))) h2
    exact h_nil
  exact h_nil
/-! smithy/smithylaw08.fixed -/
def smithylaw08_fixed.f (k : Nat) : Option Bool := (addr_Create2.f k [0, 0, 0, 0, 0, 0, 0, 0, 0, 0, 0, 0, 0, 0, 0, 0, 0, 0, 0, 0] [0, 0, 0, 0] [0]).bind fun t1 => (if ((rd t1 0) == 77) = true then (if ((rd t1 1) == 26) = true then (if ((rd t1 18) == 191) = true then (some ((rd t1 19) == 56)) else (some false)) else (some false)) else (some false))
theorem smithylaw08_fixed.ok (k : Nat) (r : Bool) (h0 : smithylaw08_fixed.f k = some r) (mi : Mem) (w0 : World) (G : Glob mi) : okL mi [] → Frz mi w0 → Calls Tryd.prog 7 (([] : List D).map D.val).toArray w0 (Ret mi (.v (.bool r)) w0) := by
  intro ok hm
  delta smithylaw08_fixed.f at h0
  refine c_enter (n := 24) [] (l := []) Tryd.func7 rfl rfl rfl rfl ok hm ?_
  clear ok hm
  intro a S
  refine c_region ?_
  refine s_assign S rfl rfl ?_; clear S a; intro a S
  refine c_end ?_
  refine c_region ?_
  refine s_build S (ds := []) (dv := (.agg [.ints .u8 [0, 0, 0, 0, 0, 0, 0, 0, 0, 0, 0, 0, 0, 0, 0, 0, 0, 0, 0, 0] 20])) rfl (fun _ => by kernel_rfl) ⟨rfl, trivial⟩ rfl ?_; clear S a; intro a S
  refine s_build S (ds := []) (dv := (.agg [.ints .u64 [0, 0, 0, 0] 4])) rfl (fun _ => by kernel_rfl) ⟨rfl, trivial⟩ rfl ?_; clear S a; intro a S
  refine s_bldSl S (ty' := (Ty.int .u8)) (ds := [(0, (.v (.int .u8 0)))]) (z := 0) (c0 := ()) (ys := [0]) (cs := [()]) rfl Tryd.underlying27 J5 Z5 rfl ⟨rfl, trivial⟩ rfl rfl rfl rfl rfl rfl ?_; clear S a; intro g1 a w S
  replace S := S.rowfro .here
  obtain ⟨m, le1, S, hro⟩ := S
  replace S := S.slotro (u := 4) rfl hro
  obtain ⟨t1, et1, h1⟩ := bind_of h0; clear h0
  refine s_call S (ds := [(.agg [.ints .u8 [0, 0, 0, 0, 0, 0, 0, 0, 0, 0, 0, 0, 0, 0, 0, 0, 0, 0, 0, 0] 20]), (.agg [.ints .u64 [0, 0, 0, 0] 4]), (.sl (some ⟨g1, 0, none⟩) ([0]).length 1 (RdS (Ty.int .u8) (some ⟨g1, 0, none⟩) [0]))]) (d := (.agg [.ints .u8 t1 20])) N8 rfl rfl (addr_Create2.ok k [0, 0, 0, 0, 0, 0, 0, 0, 0, 0, 0, 0, 0, 0, 0, 0, 0, 0, 0, 0] [0, 0, 0, 0] [0] ((some ⟨g1, 0, none⟩), 1) t1 et1 _ _ (G.mono S.le)) ?_; clear S a w; intro a w S
  refine s_alloc S Z23 rfl ⟨rfl, trivial⟩ rfl ?_; clear S a w; intro g2 a w S
  refine s_store S rfl rfl rfl (s' := [.ints .u8 t1 20]) .here T23 rfl rfl ?_; clear S w; intro w S
  refine c_end ?_
  refine c_region ?_
  refine s_iaddr S (o' := 0) rfl rfl Tryd.underlying23 T5 (by decide) (by decide) rfl rfl ?_; clear S a; intro a S
  refine s_loadi S (i := 0) rfl .here T5 .here rfl (by decide) (by decide) rfl ?_; clear S a; intro a S
  refine s_bin S rfl rfl rfl rfl ?_; clear S a; intro a S
  refine s_move S rfl rfl ?_; clear S a; intro a S
  rcases ite_of h1 with ⟨c1, h2⟩ | ⟨c1, h2⟩ <;> clear h1
  · refine s_gT S (b := ((rd t1 0) == 77)) rfl rfl c1 ?_
    refine s_iaddr S (o' := 1) rfl rfl Tryd.underlying23 T5 (by decide) (by decide) rfl rfl ?_; clear S a; intro a S
    refine s_gT S (b := ((rd t1 0) == 77)) rfl rfl c1 ?_
    refine s_loadi S (i := 1) rfl .here T5 .here rfl (by decide) (by decide) rfl ?_; clear S a; intro a S
    refine s_gT S (b := ((rd t1 0) == 77)) rfl rfl c1 ?_
    refine s_bin S rfl rfl rfl rfl ?_; clear S a; intro a S
    refine s_pick S (b := true) (hc_of rfl c1) rfl rfl ?_; clear S a; intro a S
    refine s_move S rfl rfl ?_; clear S a; intro a S
    rcases ite_of h2 with ⟨c2, h3⟩ | ⟨c2, h3⟩ <;> clear h2
    · refine s_gT S (b := ((rd t1 1) == 26)) rfl rfl c2 ?_
      refine s_iaddr S (o' := 18) rfl rfl Tryd.underlying23 T5 (by decide) (by decide) rfl rfl ?_; clear S a; intro a S
      refine s_gT S (b := ((rd t1 1) == 26)) rfl rfl c2 ?_
      refine s_loadi S (i := 18) rfl .here T5 .here rfl (by decide) (by decide) rfl ?_; clear S a; intro a S
      refine s_gT S (b := ((rd t1 1) == 26)) rfl rfl c2 ?_
      refine s_bin S rfl rfl rfl rfl ?_; clear S a; intro a S
      refine s_pick S (b := true) (hc_of rfl c2) rfl rfl ?_; clear S a; intro a S
      refine s_move S rfl rfl ?_; clear S a; intro a S
      rcases ite_of h3 with ⟨c3, h4⟩ | ⟨c3, h4⟩ <;> clear h3
      · refine s_gT S (b := ((rd t1 18) == 191)) rfl rfl c3 ?_
        refine s_iaddr S (o' := 19) rfl rfl Tryd.underlying23 T5 (by decide) (by decide) rfl rfl ?_; clear S a; intro a S
        refine s_gT S (b := ((rd t1 18) == 191)) rfl rfl c3 ?_
        refine s_loadi S (i := 19) rfl .here T5 .here rfl (by decide) (by decide) rfl ?_; clear S a; intro a S
        refine s_gT S (b := ((rd t1 18) == 191)) rfl rfl c3 ?_
        refine s_bin S rfl rfl rfl rfl ?_; clear S a; intro a S
        refine s_pick S (b := true) (hc_of rfl c3) rfl rfl ?_; clear S a; intro a S
        refine s_assign S rfl rfl ?_; clear S a; intro a S
        refine c_end ?_
        refine wp_ret ?_
        obtain rfl := Option.some.inj h4
        exact b_ret1 (d := (.v (.bool ((rd t1 19) == 56)))) S rfl rfl fun ok => ⟨rfl, ok, S.below0⟩
      · refine s_gF S (b := ((rd t1 18) == 191)) rfl rfl c3 rfl ?_; clear S a; intro a S
        refine s_gF S (b := ((rd t1 18) == 191)) rfl rfl c3 rfl ?_; clear S a; intro a S
        refine s_gF S (b := ((rd t1 18) == 191)) rfl rfl c3 rfl ?_; clear S a; intro a S
        refine s_pick S (b := false) (hc_of rfl c3) rfl rfl ?_; clear S a; intro a S
        refine s_assign S rfl rfl ?_; clear S a; intro a S
        refine c_end ?_
        refine wp_ret ?_
        obtain rfl := Option.some.inj h4
        exact b_ret1 (d := (.v (.bool false))) S rfl rfl fun ok => ⟨rfl, ok, S.below0⟩
    · refine s_gF S (b := ((rd t1 1) == 26)) rfl rfl c2 rfl ?_; clear S a; intro a S
      refine s_gF S (b := ((rd t1 1) == 26)) rfl rfl c2 rfl ?_; clear S a; intro a S
      refine s_gF S (b := ((rd t1 1) == 26)) rfl rfl c2 rfl ?_; clear S a; intro a S
      refine s_pick S (b := false) (hc_of rfl c2) rfl rfl ?_; clear S a; intro a S
      refine s_move S rfl rfl ?_; clear S a; intro a S
      refine s_gF S (b := false) rfl rfl rfl rfl ?_; clear S a; intro a S
      refine s_gF S (b := false) rfl rfl rfl rfl ?_; clear S a; intro a S
      refine s_gF S (b := false) rfl rfl rfl rfl ?_; clear S a; intro a S
      refine s_pick S (b := false) (hc_of rfl rfl) rfl rfl ?_; clear S a; intro a S
      refine s_assign S rfl rfl ?_; clear S a; intro a S
      refine c_end ?_
      refine wp_ret ?_
      obtain rfl := Option.some.inj h3
      exact b_ret1 (d := (.v (.bool false))) S rfl rfl fun ok => ⟨rfl, ok, S.below0⟩
  · refine s_gF S (b := ((rd t1 0) == 77)) rfl rfl c1 rfl ?_; clear S a; intro a S
    refine s_gF S (b := ((rd t1 0) == 77)) rfl rfl c1 rfl ?_; clear S a; intro a S
    refine s_gF S (b := ((rd t1 0) == 77)) rfl rfl c1 rfl ?_; clear S a; intro a S
    refine s_pick S (b := false) (hc_of rfl c1) rfl rfl ?_; clear S a; intro a S
    refine s_move S rfl rfl ?_; clear S a; intro a S
    refine s_gF S (b := false) rfl rfl rfl rfl ?_; clear S a; intro a S
    refine s_gF S (b := false) rfl rfl rfl rfl ?_; clear S a; intro a S
    refine s_gF S (b := false) rfl rfl rfl rfl ?_; clear S a; intro a S
    refine s_pick S (b := false) (hc_of rfl rfl) rfl rfl ?_; clear S a; intro a S
    refine s_move S rfl rfl ?_; clear S a; intro a S
    refine s_gF S (b := false) rfl rfl rfl rfl ?_; clear S a; intro a S
    refine s_gF S (b := false) rfl rfl rfl rfl ?_; clear S a; intro a S
    refine s_gF S (b := false) rfl rfl rfl rfl ?_; clear S a; intro a S
    refine s_pick S (b := false) (hc_of rfl rfl) rfl rfl ?_; clear S a; intro a S
    refine s_assign S rfl rfl ?_; clear S a; intro a S
    refine c_end ?_
    refine wp_ret ?_
    obtain rfl := Option.some.inj h2
    exact b_ret1 (d := (.v (.bool false))) S rfl rfl fun ok => ⟨rfl, ok, S.below0⟩
/-! smithy/smithyref05.Constants -/
def smithyref05_Constants.j1 (y1 : List Int) : Option (List Int) := some y1
def smithyref05_Constants.j2 (y9 : Int) (rec1 : Int → Int → (List Int) → Option (List Int)) (y12 : Int) (y13 : List Int) : Option (List Int) := rec1 (wr .i64 (y9 + 1)) y12 y13
def smithyref05_Constants.j3 (y21 : Int) (rec2 : Int → Int → (List Int) → Option (List Int)) (y24 : Int) (y25 : List Int) : Option (List Int) := rec2 (wr .i64 (y21 + 1)) y24 y25
def smithyref05_Constants.j4 (y21 : Int) (y22 : Int) (rec2 : Int → Int → (List Int) → Option (List Int)) (y26 : List Int) : Option (List Int) := if (decide (256 ≤ (wr .i64 (y22 * 2)))) = true then (smithyref05_Constants.j3 y21 rec2 (bits .xor .i64 (wr .i64 (y22 * 2)) 369) y26) else (smithyref05_Constants.j3 y21 rec2 (wr .i64 (y22 * 2)) y26)
def smithyref05_Constants.b2 (y9 : Int) (rec1 : Int → Int → (List Int) → Option (List Int)) (rec2 : Int → Int → (List Int) → Option (List Int)) (y21 : Int) (y22 : Int) (y23 : List Int) : Option (List Int) := if (decide (y21 < 7)) = true then (if ((Int.tmod y22 2) == 1) = true then (if 0 ≤ y9 ∧ y9 < 24 then (if 0 ≤ y21 then (if 0 ≤ (wr .u64 ((shl .u64 1 (min (Int.toNat y21) 64)) - 1)) then (smithyref05_Constants.j4 y21 y22 rec2 (y23.set (Int.toNat y9) (bits .or .u64 (rd y23 y9) (shl .u64 1 (min (Int.toNat (wr .u64 ((shl .u64 1 (min (Int.toNat y21) 64)) - 1))) 64))))) else none) else none) else none) else (smithyref05_Constants.j4 y21 y22 rec2 y23)) else (smithyref05_Constants.j2 y9 rec1 y22 y23)
def smithyref05_Constants.l2 (y9 : Int) (rec1 : Int → Int → (List Int) → Option (List Int)) : Nat → Int → Int → (List Int) → Option (List Int)
  | 0, _, _, _ => none
  | q + 1, y21, y22, y23 => smithyref05_Constants.b2 y9 rec1 (smithyref05_Constants.l2 y9 rec1 q) y21 y22 y23
def smithyref05_Constants.b1 (k : Nat) (rec1 : Int → Int → (List Int) → Option (List Int)) (y9 : Int) (y10 : Int) (y11 : List Int) : Option (List Int) := if (decide (y9 < 24)) = true then (smithyref05_Constants.l2 y9 rec1 k 0 y10 y11) else (smithyref05_Constants.j1 y11)
def smithyref05_Constants.l1 (k : Nat) : Nat → Int → Int → (List Int) → Option (List Int)
  | 0, _, _, _ => none
  | q + 1, y9, y10, y11 => smithyref05_Constants.b1 k (smithyref05_Constants.l1 k q) y9 y10 y11
def smithyref05_Constants.f (k : Nat) : Option (List Int) := smithyref05_Constants.l1 k k 0 1 [0, 0, 0, 0, 0, 0, 0, 0, 0, 0, 0, 0, 0, 0, 0, 0, 0, 0, 0, 0, 0, 0, 0, 0]
theorem smithyref05_Constants.ok (k : Nat) (r : List Int) (h0 : smithyref05_Constants.f k = some r) (mi : Mem) (w0 : World) : okL mi [] → Frz mi w0 → Calls Tryd.prog 43 (([] : List D).map D.val).toArray w0 (Ret mi (.agg [.ints .u64 r 24]) w0) := by
  intro ok hm
  delta smithyref05_Constants.f at h0
  refine c_enter (n := 34) [] (l := []) Tryd.func43 rfl rfl rfl rfl ok hm ?_
  clear ok hm
  intro a S
  refine c_region ?_
  refine s_alloc S Z72 rfl ⟨rfl, trivial⟩ rfl ?_; clear S a; intro g1 a w S
  refine c_end ?_
  refine c_region ?_
  refine s_build S (ds := []) (dv := (.agg [.ints .u64 [0, 0, 0, 0, 0, 0, 0, 0, 0, 0, 0, 0, 0, 0, 0, 0, 0, 0, 0, 0, 0, 0, 0, 0] 24])) rfl (fun _ => by kernel_rfl) ⟨rfl, trivial⟩ rfl ?_; clear S a; intro a S
  refine s_alloc S Z72 rfl ⟨rfl, trivial⟩ rfl ?_; clear S a w; intro g2 a w S
  refine s_store S rfl rfl rfl (s' := [.ints .u64 [0, 0, 0, 0, 0, 0, 0, 0, 0, 0, 0, 0, 0, 0, 0, 0, 0, 0, 0, 0, 0, 0, 0, 0] 24]) .here T72 rfl rfl ?_; clear S w; intro w S
  refine c_end ?_
  refine c_region ?_
  refine s_assign S rfl rfl ?_; clear S a; intro a S
  refine c_end ?_
  refine wp_seq_k ?_
  intro K1 hK1
  have j1 : ∀ (m : Mem) (g3 : Nat) (g4 : Nat) (y1 : List Int) (a : Act) (w : World), St 34 m (B0 mi w0) [(1, (.v (.pointer (some ⟨g3, 0, none⟩)))), (0, (.v (.pointer (some ⟨g4, 0, none⟩))))] [Res.cells g3 72 [.ints .u64 y1 24], Res.cells g4 72 [.ints .u64 [0, 0, 0, 0, 0, 0, 0, 0, 0, 0, 0, 0, 0, 0, 0, 0, 0, 0, 0, 0, 0, 0, 0, 0] 24]] a w → smithyref05_Constants.j1 y1 = some r → K1 a w := by
    intro m g3 g4 y1 a w S h0
    delta smithyref05_Constants.j1 at h0
    refine hK1 a w ?_
    refine c_region ?_
    refine s_loada S rfl .here T72 (s' := [.ints .u64 y1 24]) rfl rfl ?_; clear S a; intro a S
    refine s_store S rfl rfl rfl (s' := [.ints .u64 y1 24]) (.there .here) T72 rfl rfl ?_; clear S w; intro w S
    refine c_end ?_
    refine wp_ret ?_
    obtain rfl := Option.some.inj h0
    exact b_ret1 (d := (.agg [.ints .u64 y1 24])) S rfl (resD_cell rfl (.there .here) T72 rfl rfl) fun ok => ⟨rfl, ok, S.below0⟩
  refine c_region ?_
  refine s_assign S rfl rfl ?_; clear S a; intro a S
  refine c_end ?_
  refine wp_block ?_
  refine c_loop (fun q1 a w => ∃ (m : Mem) (y9 : Int) (y10 : Int) (g13 : Nat) (g14 : Nat) (y11 : List Int), St 34 m (B0 mi w0) [(3, (.v (.int .i64 y9))), (2, (.v (.int .i64 y10))), (1, (.v (.pointer (some ⟨g13, 0, none⟩)))), (0, (.v (.pointer (some ⟨g14, 0, none⟩))))] [Res.cells g13 72 [.ints .u64 y11 24], Res.cells g14 72 [.ints .u64 [0, 0, 0, 0, 0, 0, 0, 0, 0, 0, 0, 0, 0, 0, 0, 0, 0, 0, 0, 0, 0, 0, 0, 0] 24]] a w ∧ smithyref05_Constants.l1 k q1 y9 y10 y11 = some r) ?_ ?_ (k := k) ⟨_, 0, 1, g2, g1, [0, 0, 0, 0, 0, 0, 0, 0, 0, 0, 0, 0, 0, 0, 0, 0, 0, 0, 0, 0, 0, 0, 0, 0], (S.sub ⟨rfl, rfl, rfl, rfl, trivial⟩ (.cons .here (.cons .here .nil))), h0⟩
  · rintro a w ⟨m, y9, y10, g13, g14, y11, S, h0⟩
    exact (nomatch (show (none : Option (List Int)) = some r from h0))
  · clear S h0
    rintro q1 a w ⟨m, y9, y10, g13, g14, y11, S, h0⟩
    replace h0 : smithyref05_Constants.b1 k (smithyref05_Constants.l1 k q1) y9 y10 y11 = some r := h0
    delta smithyref05_Constants.b1 at h0
    refine wp_seq ?_
    refine c_region ?_
    refine s_move S rfl rfl ?_; clear S a; intro a S
    refine s_bin S rfl rfl rfl rfl ?_; clear S a; intro a S
    refine c_end ?_
    rcases ite_of h0 with ⟨c1, h1⟩ | ⟨c1, h1⟩ <;> clear h0
    · refine c_condT S rfl c1 ?_
      refine wp_skip ?_
      refine x_thenN ?_
      refine wp_seq_k ?_
      intro K2 hK2
      have j2 : ∀ (m : Mem) (y12 : Int) (g15 : Nat) (g16 : Nat) (y13 : List Int) (a : Act) (w : World), St 34 m (B0 mi w0) [(3, (.v (.int .i64 y9))), (2, (.v (.int .i64 y12))), (1, (.v (.pointer (some ⟨g15, 0, none⟩)))), (0, (.v (.pointer (some ⟨g16, 0, none⟩))))] [Res.cells g15 72 [.ints .u64 y13 24], Res.cells g16 72 [.ints .u64 [0, 0, 0, 0, 0, 0, 0, 0, 0, 0, 0, 0, 0, 0, 0, 0, 0, 0, 0, 0, 0, 0, 0, 0] 24]] a w → smithyref05_Constants.j2 y9 (smithyref05_Constants.l1 k q1) y12 y13 = some r → K2 a w := by
        intro m y12 g15 g16 y13 a w S h0
        delta smithyref05_Constants.j2 at h0
        refine hK2 a w ?_
        refine c_region' ?_
        refine s_move S rfl rfl ?_; clear S a; intro a S
        refine s_bin S rfl rfl rfl rfl ?_; clear S a; intro a S
        refine s_assign S rfl rfl ?_; clear S a; intro a S
        refine c_end' ?_
        refine x_thenN ?_
        exact ⟨_, (wr .i64 (y9 + 1)), y12, g15, g16, y13, (S.sub ⟨rfl, rfl, rfl, rfl, trivial⟩ (.cons .here (.cons .here .nil))), h0⟩
      refine wp_block ?_
      refine c_region ?_
      refine s_assign S rfl rfl ?_; clear S a; intro a S
      refine c_end ?_
      refine wp_block ?_
      refine c_loop (fun q2 a w => ∃ (m : Mem) (y21 : Int) (y22 : Int) (g25 : Nat) (g26 : Nat) (y23 : List Int), St 34 m (B0 mi w0) [(4, (.v (.int .i64 y21))), (3, (.v (.int .i64 y9))), (2, (.v (.int .i64 y22))), (1, (.v (.pointer (some ⟨g25, 0, none⟩)))), (0, (.v (.pointer (some ⟨g26, 0, none⟩))))] [Res.cells g25 72 [.ints .u64 y23 24], Res.cells g26 72 [.ints .u64 [0, 0, 0, 0, 0, 0, 0, 0, 0, 0, 0, 0, 0, 0, 0, 0, 0, 0, 0, 0, 0, 0, 0, 0] 24]] a w ∧ smithyref05_Constants.l2 y9 (smithyref05_Constants.l1 k q1) q2 y21 y22 y23 = some r) ?_ ?_ (k := k) ⟨_, 0, y10, g13, g14, y11, (S.sub ⟨rfl, rfl, rfl, rfl, rfl, trivial⟩ (.cons .here (.cons .here .nil))), h1⟩
      · rintro a w ⟨m, y21, y22, g25, g26, y23, S, h0⟩
        exact (nomatch (show (none : Option (List Int)) = some r from h0))
      · clear S h1
        rintro q2 a w ⟨m, y21, y22, g25, g26, y23, S, h0⟩
        replace h0 : smithyref05_Constants.b2 y9 (smithyref05_Constants.l1 k q1) (smithyref05_Constants.l2 y9 (smithyref05_Constants.l1 k q1) q2) y21 y22 y23 = some r := h0
        delta smithyref05_Constants.b2 at h0
        refine wp_seq ?_
        refine c_region ?_
        refine s_move S rfl rfl ?_; clear S a; intro a S
        refine s_bin S rfl rfl rfl rfl ?_; clear S a; intro a S
        refine c_end ?_
        rcases ite_of h0 with ⟨c2, h1⟩ | ⟨c2, h1⟩ <;> clear h0
        · refine c_condT S rfl c2 ?_
          refine wp_skip ?_
          refine x_thenN ?_
          refine wp_seq_k ?_
          intro K3 hK3
          have j3 : ∀ (m : Mem) (y24 : Int) (g27 : Nat) (g28 : Nat) (y25 : List Int) (a : Act) (w : World), St 34 m (B0 mi w0) [(2, (.v (.int .i64 y24))), (4, (.v (.int .i64 y21))), (3, (.v (.int .i64 y9))), (1, (.v (.pointer (some ⟨g27, 0, none⟩)))), (0, (.v (.pointer (some ⟨g28, 0, none⟩))))] [Res.cells g27 72 [.ints .u64 y25 24], Res.cells g28 72 [.ints .u64 [0, 0, 0, 0, 0, 0, 0, 0, 0, 0, 0, 0, 0, 0, 0, 0, 0, 0, 0, 0, 0, 0, 0, 0] 24]] a w → smithyref05_Constants.j3 y21 (smithyref05_Constants.l2 y9 (smithyref05_Constants.l1 k q1) q2) y24 y25 = some r → K3 a w := by
            intro m y24 g27 g28 y25 a w S h0
            delta smithyref05_Constants.j3 at h0
            refine hK3 a w ?_
            refine c_region' ?_
            refine s_move S rfl rfl ?_; clear S a; intro a S
            refine s_bin S rfl rfl rfl rfl ?_; clear S a; intro a S
            refine s_assign S rfl rfl ?_; clear S a; intro a S
            refine c_end' ?_
            refine x_thenN ?_
            exact ⟨_, (wr .i64 (y21 + 1)), y24, g27, g28, y25, (S.sub ⟨rfl, rfl, rfl, rfl, rfl, trivial⟩ (.cons .here (.cons .here .nil))), h0⟩
          refine wp_block ?_
          refine wp_seq_k ?_
          intro K4 hK4
          have j4 : ∀ (m : Mem) (g29 : Nat) (g30 : Nat) (y26 : List Int) (a : Act) (w : World), St 34 m (B0 mi w0) [(4, (.v (.int .i64 y21))), (3, (.v (.int .i64 y9))), (2, (.v (.int .i64 y22))), (1, (.v (.pointer (some ⟨g29, 0, none⟩)))), (0, (.v (.pointer (some ⟨g30, 0, none⟩))))] [Res.cells g29 72 [.ints .u64 y26 24], Res.cells g30 72 [.ints .u64 [0, 0, 0, 0, 0, 0, 0, 0, 0, 0, 0, 0, 0, 0, 0, 0, 0, 0, 0, 0, 0, 0, 0, 0] 24]] a w → smithyref05_Constants.j4 y21 y22 (smithyref05_Constants.l2 y9 (smithyref05_Constants.l1 k q1) q2) y26 = some r → K4 a w := by
            intro m g29 g30 y26 a w S h0
            delta smithyref05_Constants.j4 at h0
            refine hK4 a w ?_
            refine c_region ?_
            refine s_move S rfl rfl ?_; clear S a; intro a S
            refine s_bin S rfl rfl rfl rfl ?_; clear S a; intro a S
            refine s_assign S rfl rfl ?_; clear S a; intro a S
            refine c_end ?_
            refine c_region ?_
            refine s_move S rfl rfl ?_; clear S a; intro a S
            refine s_bin S rfl rfl rfl rfl ?_; clear S a; intro a S
            refine c_end ?_
            rcases ite_of h0 with ⟨c3, h1⟩ | ⟨c3, h1⟩ <;> clear h0
            · refine c_condT S rfl c3 ?_
              refine c_region' ?_
              refine s_move S rfl rfl ?_; clear S a; intro a S
              refine s_bin S rfl rfl rfl rfl ?_; clear S a; intro a S
              refine s_assign S rfl rfl ?_; clear S a; intro a S
              refine c_end' ?_
              refine x_blockN ?_
              refine x_thenN ?_
              exact j3 _ (bits .xor .i64 (wr .i64 (y22 * 2)) 369) g29 g30 y26 a w (S.sub ⟨rfl, rfl, rfl, rfl, rfl, trivial⟩ (.cons .here (.cons .here .nil))) h1
            · refine c_condF S rfl c3 ?_
              refine wp_skip ?_
              refine x_blockN ?_
              refine x_thenN ?_
              exact j3 _ (wr .i64 (y22 * 2)) g29 g30 y26 a w (S.sub ⟨rfl, rfl, rfl, rfl, rfl, trivial⟩ (.cons .here (.cons .here .nil))) h1
          refine c_region ?_
          refine s_move S rfl rfl ?_; clear S a; intro a S
          refine s_rem S rfl rfl (by decide) rfl ?_; clear S a; intro a S
          refine s_bin S rfl rfl rfl rfl ?_; clear S a; intro a S
          refine c_end ?_
          rcases ite_of h1 with ⟨c4, h2⟩ | ⟨c4, h2⟩ <;> clear h1
          · refine c_condT S rfl c4 ?_
            refine c_heldS S (.take 0 (.take 1 (.take 2 (.take 3 (.take 4 (.take 5 (.take 6 (.take 7 (.take 8 (.take 9 (.alts (.run 10 false .done .nil)))))))))))) 10 [Res.cells g25 72 [.ints .u64 y23 24], Res.cells g26 72 [.ints .u64 [0, 0, 0, 0, 0, 0, 0, 0, 0, 0, 0, 0, 0, 0, 0, 0, 0, 0, 0, 0, 0, 0, 0, 0] 24]] (.cons .here (.cons .here .nil)) ⟨Res.stay_cells, Res.stay_cells, trivial⟩ [(4, (.v (.int .i64 y21))), (3, (.v (.int .i64 y9))), (1, (.v (.pointer (some ⟨g25, 0, none⟩))))] ⟨rfl, rfl, rfl, trivial⟩ (by kernel_rfl) (by kernel_rfl) ?_; clear S; intro w S CL hw le
            refine h_move S CL hw le ⟨rfl, rfl, rfl, trivial⟩ rfl rfl rfl trivial ?_; clear S CL a; intro a S CL
            refine h_move S CL hw le ⟨rfl, rfl, rfl, rfl, trivial⟩ rfl rfl rfl trivial ?_; clear S CL a; intro a S CL
            obtain ⟨c5, h3⟩ := chk_of h2; clear h2
            refine h_iaddr S CL hw le ⟨rfl, rfl, rfl, rfl, rfl, trivial⟩ rfl rfl Tryd.underlying72 T24 c5.1 c5.2 (mul1 _ _) rfl rfl trivial ?_; clear S CL a; intro a S CL
            refine h_loadi S CL hw le ⟨rfl, rfl, rfl, rfl, rfl, rfl, trivial⟩ (i := y9) rfl .here T24 .here rfl c5.1 c5.2 rfl rfl trivial ?_; clear S CL a; intro a S CL
            refine h_move S CL hw le ⟨rfl, rfl, rfl, rfl, rfl, rfl, rfl, trivial⟩ rfl rfl rfl trivial ?_; clear S CL a; intro a S CL
            obtain ⟨c6, h4⟩ := chk_of h3; clear h3
            refine h_shl S CL hw le ⟨rfl, rfl, rfl, rfl, rfl, rfl, rfl, rfl, trivial⟩ (e := (min (Int.toNat y21) 64)) rfl rfl c6 rfl rfl rfl trivial ?_; clear S CL a; intro a S CL
            refine h_bin S CL hw le ⟨rfl, rfl, rfl, rfl, rfl, rfl, rfl, rfl, rfl, trivial⟩ rfl rfl rfl rfl rfl trivial ?_; clear S CL a; intro a S CL
            obtain ⟨c7, h5⟩ := chk_of h4; clear h4
            refine h_shl S CL hw le ⟨rfl, rfl, rfl, rfl, rfl, rfl, rfl, rfl, rfl, rfl, trivial⟩ (e := (min (Int.toNat (wr .u64 ((shl .u64 1 (min (Int.toNat y21) 64)) - 1))) 64)) rfl rfl c7 rfl rfl rfl trivial ?_; clear S CL a; intro a S CL
            refine h_bin S CL hw le ⟨rfl, rfl, rfl, rfl, rfl, rfl, rfl, rfl, rfl, rfl, rfl, trivial⟩ rfl rfl rfl rfl rfl trivial ?_; clear S CL a; intro a S CL
            refine h_iaddr S CL hw le ⟨rfl, rfl, rfl, rfl, rfl, rfl, rfl, rfl, rfl, rfl, rfl, rfl, trivial⟩ rfl rfl Tryd.underlying72 T24 c5.1 c5.2 (mul1 _ _) rfl rfl trivial ?_; clear S CL a; intro a S CL
            refine h_run' S rfl trivial ?_
            refine s_storei S (i := y9) rfl rfl .here T24 .here rfl c5.1 c5.2 ?_; clear S; intro w S
            refine h_back ⟨fun h => (nomatch h), ?_⟩
            refine h_done ?_; clear CL hw le
            refine x_thenN ?_
            exact j4 _ g25 g26 (y23.set (Int.toNat y9) (bits .or .u64 (rd y23 y9) (shl .u64 1 (min (Int.toNat (wr .u64 ((shl .u64 1 (min (Int.toNat y21) 64)) - 1))) 64)))) a w (S.sub ⟨rfl, rfl, rfl, rfl, rfl, trivial⟩ (.cons .here (.cons .here .nil))) h5
          · refine c_condF S rfl c4 ?_
            refine wp_skip ?_
            refine x_thenN ?_
            exact j4 _ g25 g26 y23 a w (S.sub ⟨rfl, rfl, rfl, rfl, rfl, trivial⟩ (.cons .here (.cons .here .nil))) h2
        · refine c_condF S rfl c2 ?_
          refine wp_exit ?_
          refine x_thenX ?_
          refine x_thenX ?_
          refine x_blockX ?_
          refine x_blockN ?_
          refine x_thenN ?_
          exact j2 _ y22 g25 g26 y23 a w (S.sub ⟨rfl, rfl, rfl, rfl, trivial⟩ (.cons .here (.cons .here .nil))) h1
    · refine c_condF S rfl c1 ?_
      refine wp_exit ?_
      refine x_thenX ?_
      refine x_thenX ?_
      refine x_blockX ?_
      refine x_thenN ?_
      exact j1 _ g13 g14 y11 a w (S.sub ⟨rfl, rfl, trivial⟩ (.cons .here (.cons .here .nil))) h1
/-! smithy/smithyref05.up -/
def smithyref05_up.f (x1 : Int) (x2 : Int) : Option Int := if ((Int.tmod x2 64) == 0) = true then (some x1) else (if 0 ≤ (Int.tmod x2 64) then (if 0 ≤ (wr .i64 (64 - (Int.tmod x2 64))) then (some (bits .or .u64 (shl .u64 x1 (min (Int.toNat (Int.tmod x2 64)) 64)) (shr x1 (min (Int.toNat (wr .i64 (64 - (Int.tmod x2 64)))) 64)))) else none) else none)
theorem smithyref05_up.ok (x1 : Int) (x2 : Int) (r : Int) (h0 : smithyref05_up.f x1 x2 = some r) (mi : Mem) (w0 : World) : okL mi [(.v (.int .u64 x1)), (.v (.int .i64 x2))] → Frz mi w0 → Calls Tryd.prog 49 (([(.v (.int .u64 x1)), (.v (.int .i64 x2))] : List D).map D.val).toArray w0 (Ret mi (.v (.int .u64 r)) w0) := by
  intro ok hm
  delta smithyref05_up.f at h0
  refine c_enter (n := 18) [(.v (.int .u64 x1)), (.v (.int .i64 x2))] (l := [(0, (.v (.int .u64 x1))), (1, (.v (.int .i64 x2)))]) Tryd.func49 rfl rfl rfl rfl ok hm ?_
  clear ok hm
  intro a S
  refine c_region ?_
  refine s_assign S rfl rfl ?_; clear S a; intro a S
  refine c_end ?_
  refine c_region ?_
  refine s_move S rfl rfl ?_; clear S a; intro a S
  refine s_rem S rfl rfl (by decide) rfl ?_; clear S a; intro a S
  refine s_assign S rfl rfl ?_; clear S a; intro a S
  refine c_end ?_
  refine wp_seq ?_
  refine c_region ?_
  refine s_move S rfl rfl ?_; clear S a; intro a S
  refine s_bin S rfl rfl rfl rfl ?_; clear S a; intro a S
  refine c_end ?_
  rcases ite_of h0 with ⟨c1, h1⟩ | ⟨c1, h1⟩ <;> clear h0
  · refine c_condT S rfl c1 ?_
    refine c_region ?_
    refine s_move S rfl rfl ?_; clear S a; intro a S
    refine s_assign S rfl rfl ?_; clear S a; intro a S
    refine c_end ?_
    refine wp_ret ?_
    refine x_thenR ?_
    obtain rfl := Option.some.inj h1
    exact b_ret1 (d := (.v (.int .u64 x1))) S rfl rfl fun ok => ⟨rfl, ok, S.below0⟩
  · refine c_condF S rfl c1 ?_
    refine wp_skip ?_
    refine x_thenN ?_
    refine wp_seq (c_heldS S (.take 0 (.take 1 (.take 2 (.take 3 (.take 4 (.take 5 (.take 6 (.take 7 (.take 8 .done))))))))) 9 [] .nil trivial [(1, (.v (.int .i64 (Int.tmod x2 64)))), (0, (.v (.int .u64 x1)))] ⟨rfl, rfl, trivial⟩ (by kernel_rfl) (by kernel_rfl) ?_); clear S; intro w S CL hw le
    refine h_move S CL hw le ⟨rfl, rfl, trivial⟩ rfl rfl rfl trivial ?_; clear S CL a; intro a S CL
    refine h_move S CL hw le ⟨rfl, rfl, rfl, trivial⟩ rfl rfl rfl trivial ?_; clear S CL a; intro a S CL
    obtain ⟨c2, h2⟩ := chk_of h1; clear h1
    refine h_shl S CL hw le ⟨rfl, rfl, rfl, rfl, trivial⟩ (e := (min (Int.toNat (Int.tmod x2 64)) 64)) rfl rfl c2 rfl rfl rfl trivial ?_; clear S CL a; intro a S CL
    refine h_move S CL hw le ⟨rfl, rfl, rfl, rfl, rfl, trivial⟩ rfl rfl rfl trivial ?_; clear S CL a; intro a S CL
    refine h_move S CL hw le ⟨rfl, rfl, rfl, rfl, rfl, rfl, trivial⟩ rfl rfl rfl trivial ?_; clear S CL a; intro a S CL
    refine h_bin S CL hw le ⟨rfl, rfl, rfl, rfl, rfl, rfl, rfl, trivial⟩ rfl rfl rfl rfl rfl trivial ?_; clear S CL a; intro a S CL
    obtain ⟨c3, h3⟩ := chk_of h2; clear h2
    refine h_shr S CL hw le ⟨rfl, rfl, rfl, rfl, rfl, rfl, rfl, rfl, trivial⟩ (e := (min (Int.toNat (wr .i64 (64 - (Int.tmod x2 64)))) 64)) rfl rfl c3 rfl rfl rfl trivial ?_; clear S CL a; intro a S CL
    refine h_bin S CL hw le ⟨rfl, rfl, rfl, rfl, rfl, rfl, rfl, rfl, rfl, trivial⟩ rfl rfl rfl rfl rfl trivial ?_; clear S CL a; intro a S CL
    refine h_assign S CL hw le ⟨rfl, rfl, rfl, rfl, rfl, rfl, rfl, rfl, rfl, rfl, trivial⟩ rfl rfl rfl trivial ?_; clear S CL a; intro a S CL
    refine h_done ?_; clear CL hw le
    refine x_thenN ?_
    refine wp_ret ?_
    obtain rfl := Option.some.inj h3
    exact b_ret1 (d := (.v (.int .u64 (bits .or .u64 (shl .u64 x1 (min (Int.toNat (Int.tmod x2 64)) 64)) (shr x1 (min (Int.toNat (wr .i64 (64 - (Int.tmod x2 64)))) 64)))))) S rfl rfl fun ok => ⟨rfl, ok, S.below0⟩
end GW
