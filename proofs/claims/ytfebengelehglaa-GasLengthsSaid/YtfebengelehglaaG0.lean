/-
  Printed by a program of these sessions (wip/gw/gw.py): for each Go function a Lean function with the same answers, and the walk that shows it.
-/
import Derived.Test.YtfebengelehglaaProg
import Derived.Test.YtfebengelehglaaGWQui
set_option linter.unusedVariables false
set_option maxRecDepth 10000
namespace GW
open Go Go.RowKit Go.Proofs
theorem Z24 : zeroI Try.prog 24 = some (D.val (.agg [.ints .u64 [0, 0, 0, 0] 4])) := by kernel_rfl
theorem T24 : tyI Try.prog 24 = some (true, 4) := by kernel_rfl
theorem T22 : tyI Try.prog 22 = some (false, 1) := by kernel_rfl
theorem Q24 : Try.prog.eqGuardType Try.prog.depth 24 = false := by kernel_rfl
theorem N28 : Fn_ Try.prog 28 := ⟨_, Try.func28, rfl, by decide⟩
theorem N29 : Fn_ Try.prog 29 := ⟨_, Try.func29, rfl, by decide⟩
theorem N9 : Fn_ Try.prog 9 := ⟨_, Try.func9, rfl, by decide⟩
theorem N12 : Fn_ Try.prog 12 := ⟨_, Try.func12, rfl, by decide⟩
theorem N13 : Fn_ Try.prog 13 := ⟨_, Try.func13, rfl, by decide⟩
theorem N10 : Fn_ Try.prog 10 := ⟨_, Try.func10, rfl, by decide⟩
theorem N11 : Fn_ Try.prog 11 := ⟨_, Try.func11, rfl, by decide⟩
theorem N14 : Fn_ Try.prog 14 := ⟨_, Try.func14, rfl, by decide⟩
theorem N15 : Fn_ Try.prog 15 := ⟨_, Try.func15, rfl, by decide⟩
theorem N16 : Fn_ Try.prog 16 := ⟨_, Try.func16, rfl, by decide⟩
theorem N17 : Fn_ Try.prog 17 := ⟨_, Try.func17, rfl, by decide⟩
theorem T5 : tyI Try.prog 5 = some (false, 1) := by kernel_rfl
theorem N30 : Fn_ Try.prog 30 := ⟨_, Try.func30, rfl, by decide⟩
theorem N20 : Fn_ Try.prog 20 := ⟨_, Try.func20, rfl, by decide⟩
theorem N18 : Fn_ Try.prog 18 := ⟨_, Try.func18, rfl, by decide⟩
theorem N19 : Fn_ Try.prog 19 := ⟨_, Try.func19, rfl, by decide⟩
def txt0 : ByteArray := ByteArray.mk #[0, 1, 2, 2, 3, 3, 3, 3, 4, 4, 4, 4, 4, 4, 4, 4, 5, 5, 5, 5, 5, 5, 5, 5, 5, 5, 5, 5, 5, 5, 5, 5, 6, 6, 6, 6, 6, 6, 6, 6, 6, 6, 6, 6, 6, 6, 6, 6, 6, 6, 6, 6, 6, 6, 6, 6, 6, 6, 6, 6, 6, 6, 6, 6, 7, 7, 7, 7, 7, 7, 7, 7, 7, 7, 7, 7, 7, 7, 7, 7, 7, 7, 7, 7, 7, 7, 7, 7, 7, 7, 7, 7, 7, 7, 7, 7, 7, 7, 7, 7, 7, 7, 7, 7, 7, 7, 7, 7, 7, 7, 7, 7, 7, 7, 7, 7, 7, 7, 7, 7, 7, 7, 7, 7, 7, 7, 7, 7, 8, 8, 8, 8, 8, 8, 8, 8, 8, 8, 8, 8, 8, 8, 8, 8, 8, 8, 8, 8, 8, 8, 8, 8, 8, 8, 8, 8, 8, 8, 8, 8, 8, 8, 8, 8, 8, 8, 8, 8, 8, 8, 8, 8, 8, 8, 8, 8, 8, 8, 8, 8, 8, 8, 8, 8, 8, 8, 8, 8, 8, 8, 8, 8, 8, 8, 8, 8, 8, 8, 8, 8, 8, 8, 8, 8, 8, 8, 8, 8, 8, 8, 8, 8, 8, 8, 8, 8, 8, 8, 8, 8, 8, 8, 8, 8, 8, 8, 8, 8, 8, 8, 8, 8, 8, 8, 8, 8, 8, 8, 8, 8, 8, 8, 8, 8, 8, 8, 8, 8, 8, 8, 8, 8, 8, 8, 8, 8]
theorem N36 : Fn_ Try.prog 36 := ⟨_, Try.func36, rfl, by decide⟩
theorem N34 : Fn_ Try.prog 34 := ⟨_, Try.func34, rfl, by decide⟩
theorem N31 : Fn_ Try.prog 31 := ⟨_, Try.func31, rfl, by decide⟩
theorem Z49 : zeroI Try.prog 49 = some (D.val (.agg [.ints .i64 [0, 0, 0, 0, 0, 0, 0, 0, 0, 0, 0, 0, 0, 0, 0, 0, 0, 0, 0, 0, 0, 0, 0, 0, 0, 0, 0, 0, 0, 0, 0, 0] 32])) := by kernel_rfl
theorem T49 : tyI Try.prog 49 = some (true, 32) := by kernel_rfl
theorem T3 : tyI Try.prog 3 = some (false, 1) := by kernel_rfl
theorem N35 : Fn_ Try.prog 35 := ⟨_, Try.func35, rfl, by decide⟩
theorem N32 : Fn_ Try.prog 32 := ⟨_, Try.func32, rfl, by decide⟩
theorem N33 : Fn_ Try.prog 33 := ⟨_, Try.func33, rfl, by decide⟩
theorem N21 : Fn_ Try.prog 21 := ⟨_, Try.func21, rfl, by decide⟩
theorem N22 : Fn_ Try.prog 22 := ⟨_, Try.func22, rfl, by decide⟩
theorem N23 : Fn_ Try.prog 23 := ⟨_, Try.func23, rfl, by decide⟩
theorem N24 : Fn_ Try.prog 24 := ⟨_, Try.func24, rfl, by decide⟩
theorem N25 : Fn_ Try.prog 25 := ⟨_, Try.func25, rfl, by decide⟩
theorem N26 : Fn_ Try.prog 26 := ⟨_, Try.func26, rfl, by decide⟩
theorem N27 : Fn_ Try.prog 27 := ⟨_, Try.func27, rfl, by decide⟩
def Gd24 : (List Int) → Prop := fun xs => xs.length = 4 ∧ ∀ y ∈ xs, inK .u64 y
def Gd29 : (List (List Int)) → Prop := fun xs => (∀ y ∈ xs, Gd24 y) ∧ xs.length ≤ maxLen
def Gd5 : Int → Prop := fun x => inK .u8 x
def Gd38 : (List Int) → Prop := fun xs => (∀ y ∈ xs, Gd5 y) ∧ xs.length ≤ maxLen
/-! smithy/gas.either -/
def gas_either.f (x1 : Bool) (x2 : Int) (x3 : Int) : Option Int := if x1 = true then (some x2) else (some x3)
theorem gas_either.ok (x1 : Bool) (x2 : Int) (x3 : Int) (r : Int) (h0 : gas_either.f x1 x2 x3 = some r) (mi : Mem) (w0 : World) : okL mi [(.v (.bool x1)), (.v (.int .u64 x2)), (.v (.int .u64 x3))] → Frz mi w0 → Calls Try.prog 28 (([(.v (.bool x1)), (.v (.int .u64 x2)), (.v (.int .u64 x3))] : List D).map D.val).toArray w0 (Ret mi (.v (.int .u64 r)) w0) := by
  intro ok hm
  delta gas_either.f at h0
  refine c_enter (n := 10) [(.v (.bool x1)), (.v (.int .u64 x2)), (.v (.int .u64 x3))] (l := [(0, (.v (.bool x1))), (1, (.v (.int .u64 x2))), (2, (.v (.int .u64 x3)))]) Try.func28 rfl rfl rfl rfl ok hm ?_
  clear ok hm
  intro a S
  refine c_region ?_
  refine s_assign S rfl rfl ?_; clear S a; intro a S
  refine c_end ?_
  refine wp_seq ?_
  refine c_region ?_
  refine s_move S rfl rfl ?_; clear S a; intro a S
  refine c_end ?_
  rcases ite_of h0 with ⟨c1, h1⟩ | ⟨c1, h1⟩ <;> clear h0
  · refine c_condT S rfl c1 ?_
    refine c_region ?_
    refine s_move S rfl rfl ?_; clear S a; intro a S
    refine s_assign S rfl rfl ?_; clear S a; intro a S
    refine c_end ?_
    refine wp_ret ?_
    refine x_thenR ?_
    obtain rfl := Option.some.inj h1
    exact b_ret1 (d := (.v (.int .u64 x2))) S rfl rfl fun ok => ⟨rfl, ok, S.below⟩
  · refine c_condF S rfl c1 ?_
    refine wp_skip ?_
    refine x_thenN ?_
    refine c_region ?_
    refine s_move S rfl rfl ?_; clear S a; intro a S
    refine s_assign S rfl rfl ?_; clear S a; intro a S
    refine c_end ?_
    refine wp_ret ?_
    obtain rfl := Option.some.inj h1
    exact b_ret1 (d := (.v (.int .u64 x3))) S rfl rfl fun ok => ⟨rfl, ok, S.below⟩
/-! smithy/gas.again -/
def gas_again.j4 (y4 : Int) : Option Int := some y4
def gas_again.j5 (y3 : Int) (y5 : Bool) : Option Int := if y5 = true then (gas_again.j4 (wr .i64 (y3 + 2800))) else (gas_again.j4 y3)
def gas_again.j3 (x1 : List Int) (x3 : List Int) (y3 : Int) : Option Int := if (decide (x1 = x3)) = true then (gas_again.j5 y3 (!(decide (x1 = [0, 0, 0, 0])))) else (gas_again.j5 y3 false)
def gas_again.j6 (x1 : List Int) (x3 : List Int) (y2 : Int) (y6 : Bool) : Option Int := if y6 = true then (gas_again.j3 x1 x3 (wr .i64 (y2 + 19900))) else (gas_again.j3 x1 x3 y2)
def gas_again.j2 (x1 : List Int) (x3 : List Int) (y2 : Int) : Option Int := if (decide (x1 = x3)) = true then (gas_again.j6 x1 x3 y2 (decide (x1 = [0, 0, 0, 0]))) else (gas_again.j6 x1 x3 y2 false)
def gas_again.j7 (x1 : List Int) (x3 : List Int) (y1 : Int) (y7 : Bool) : Option Int := if y7 = true then (gas_again.j2 x1 x3 (wr .i64 (y1 + 4800))) else (gas_again.j2 x1 x3 y1)
def gas_again.j1 (x1 : List Int) (x3 : List Int) (y1 : Int) : Option Int := if (!(decide (x1 = [0, 0, 0, 0]))) = true then (gas_again.j7 x1 x3 y1 (decide (x3 = [0, 0, 0, 0]))) else (gas_again.j7 x1 x3 y1 false)
def gas_again.j8 (x1 : List Int) (x3 : List Int) (y8 : Bool) : Option Int := if y8 = true then (gas_again.j1 x1 x3 (wr .i64 (0 - 4800))) else (gas_again.j1 x1 x3 0)
def gas_again.f (x1 : List Int) (x2 : List Int) (x3 : List Int) : Option Int := if (!(decide (x1 = [0, 0, 0, 0]))) = true then (gas_again.j8 x1 x3 (decide (x2 = [0, 0, 0, 0]))) else (gas_again.j8 x1 x3 false)
theorem gas_again.ok (x1 : List Int) (x2 : List Int) (x3 : List Int) (r : Int) (h0 : gas_again.f x1 x2 x3 = some r) (mi : Mem) (w0 : World) : okL mi [(.agg [.ints .u64 x1 4]), (.agg [.ints .u64 x2 4]), (.agg [.ints .u64 x3 4])] → Frz mi w0 → Calls Try.prog 29 (([(.agg [.ints .u64 x1 4]), (.agg [.ints .u64 x2 4]), (.agg [.ints .u64 x3 4])] : List D).map D.val).toArray w0 (Ret mi (.v (.int .i64 r)) w0) := by
  intro ok hm
  delta gas_again.f at h0
  refine c_enter (n := 50) [(.agg [.ints .u64 x1 4]), (.agg [.ints .u64 x2 4]), (.agg [.ints .u64 x3 4])] (l := [(0, (.agg [.ints .u64 x1 4])), (1, (.agg [.ints .u64 x2 4])), (2, (.agg [.ints .u64 x3 4]))]) Try.func29 rfl rfl rfl rfl ok hm ?_
  clear ok hm
  intro a S
  refine c_region ?_
  refine s_box S rfl rfl rfl ?_; clear S a; intro g1 a w S
  refine s_box S rfl rfl rfl ?_; clear S a w; intro g2 a w S
  refine s_box S rfl rfl rfl ?_; clear S a w; intro g3 a w S
  refine s_assign S rfl rfl ?_; clear S a; intro a S
  refine c_end ?_
  refine c_region ?_
  refine s_alloc S Z24 rfl ⟨rfl, trivial⟩ rfl ?_; clear S a w; intro g4 a w S
  refine c_end ?_
  refine c_region ?_
  refine s_assign S rfl rfl ?_; clear S a; intro a S
  refine c_end ?_
  refine wp_seq_k ?_
  intro K1 hK1
  have j1 : ∀ (m : Mem) (y1 : Int) (g5 : Nat) (g6 : Nat) (g7 : Nat) (a : Act) (w : World), St 50 m ⟨mi, w0⟩ [(8, (.v (.int .i64 y1))), (7, (.v (.pointer (some ⟨g5, 0, none⟩)))), (5, (.v (.pointer (some ⟨g6, 0, none⟩)))), (3, (.v (.pointer (some ⟨g7, 0, none⟩))))] [Res.cells g5 24 [.ints .u64 [0, 0, 0, 0] 4], Res.cells g6 24 [.ints .u64 x3 4], Res.cells g7 24 [.ints .u64 x1 4]] a w → gas_again.j1 x1 x3 y1 = some r → K1 a w := by
    intro m y1 g5 g6 g7 a w S h0
    delta gas_again.j1 at h0
    refine hK1 a w ?_
    refine wp_seq_k ?_
    intro K2 hK2
    have j2 : ∀ (m : Mem) (y2 : Int) (g8 : Nat) (g9 : Nat) (g10 : Nat) (a : Act) (w : World), St 50 m ⟨mi, w0⟩ [(8, (.v (.int .i64 y2))), (7, (.v (.pointer (some ⟨g8, 0, none⟩)))), (5, (.v (.pointer (some ⟨g9, 0, none⟩)))), (3, (.v (.pointer (some ⟨g10, 0, none⟩))))] [Res.cells g8 24 [.ints .u64 [0, 0, 0, 0] 4], Res.cells g9 24 [.ints .u64 x3 4], Res.cells g10 24 [.ints .u64 x1 4]] a w → gas_again.j2 x1 x3 y2 = some r → K2 a w := by
      intro m y2 g8 g9 g10 a w S h0
      delta gas_again.j2 at h0
      refine hK2 a w ?_
      refine wp_seq_k ?_
      intro K3 hK3
      have j3 : ∀ (m : Mem) (y3 : Int) (g11 : Nat) (g12 : Nat) (g13 : Nat) (a : Act) (w : World), St 50 m ⟨mi, w0⟩ [(8, (.v (.int .i64 y3))), (7, (.v (.pointer (some ⟨g11, 0, none⟩)))), (5, (.v (.pointer (some ⟨g12, 0, none⟩)))), (3, (.v (.pointer (some ⟨g13, 0, none⟩))))] [Res.cells g11 24 [.ints .u64 [0, 0, 0, 0] 4], Res.cells g12 24 [.ints .u64 x3 4], Res.cells g13 24 [.ints .u64 x1 4]] a w → gas_again.j3 x1 x3 y3 = some r → K3 a w := by
        intro m y3 g11 g12 g13 a w S h0
        delta gas_again.j3 at h0
        refine hK3 a w ?_
        refine wp_seq_k ?_
        intro K4 hK4
        have j4 : ∀ (m : Mem) (y4 : Int) (a : Act) (w : World), St 50 m ⟨mi, w0⟩ [(8, (.v (.int .i64 y4)))] [] a w → gas_again.j4 y4 = some r → K4 a w := by
          intro m y4 a w S h0
          delta gas_again.j4 at h0
          refine hK4 a w ?_
          refine c_region ?_
          refine s_move S rfl rfl ?_; clear S a; intro a S
          refine s_assign S rfl rfl ?_; clear S a; intro a S
          refine c_end ?_
          refine wp_ret ?_
          obtain rfl := Option.some.inj h0
          exact b_ret1 (d := (.v (.int .i64 y4))) S rfl rfl fun ok => ⟨rfl, ok, S.below⟩
        refine wp_seq_k ?_
        intro K5 hK5
        have j5 : ∀ (m : Mem) (y5 : Bool) (a : Act) (w : World), St 50 m ⟨mi, w0⟩ [(46, (.v (.bool y5))), (8, (.v (.int .i64 y3)))] [] a w → gas_again.j5 y3 y5 = some r → K5 a w := by
          intro m y5 a w S h0
          delta gas_again.j5 at h0
          refine hK5 a w ?_
          rcases ite_of h0 with ⟨c1, h1⟩ | ⟨c1, h1⟩ <;> clear h0
          · refine c_condT S rfl c1 ?_
            refine c_region' ?_
            refine s_move S rfl rfl ?_; clear S a; intro a S
            refine s_bin S rfl rfl rfl rfl ?_; clear S a; intro a S
            refine s_assign S rfl rfl ?_; clear S a; intro a S
            refine c_end' ?_
            refine x_thenN ?_
            exact j4 _ (wr .i64 (y3 + 2800)) a w (S.sub ⟨rfl, trivial⟩ .nil) h1
          · refine c_condF S rfl c1 ?_
            refine wp_skip ?_
            refine x_thenN ?_
            exact j4 _ y3 a w (S.sub ⟨rfl, trivial⟩ .nil) h1
        refine c_region' ?_
        refine s_loada S rfl (.there (.there .here)) T24 (s' := [.ints .u64 x1 4]) rfl rfl ?_; clear S a; intro a S
        refine s_loada S rfl (.there .here) T24 (s' := [.ints .u64 x3 4]) rfl rfl ?_; clear S a; intro a S
        refine s_eqa S rfl rfl Try.underlying24 Try.underlying22 T22 Q24 rfl ?_; clear S a; intro a S
        refine s_move S rfl rfl ?_; clear S a; intro a S
        rcases ite_of h0 with ⟨c2, h1⟩ | ⟨c2, h1⟩ <;> clear h0
        · refine s_gT S (b := (decide (x1 = x3))) rfl rfl c2 ?_
          refine s_loada S rfl (.there (.there .here)) T24 (s' := [.ints .u64 x1 4]) rfl rfl ?_; clear S a; intro a S
          refine s_gT S (b := (decide (x1 = x3))) rfl rfl c2 ?_
          refine s_loada S rfl .here T24 (s' := [.ints .u64 [0, 0, 0, 0] 4]) rfl rfl ?_; clear S a; intro a S
          refine s_gT S (b := (decide (x1 = x3))) rfl rfl c2 ?_
          refine s_nea S rfl rfl Try.underlying24 Try.underlying22 T22 Q24 rfl ?_; clear S a; intro a S
          refine s_pick S (b := true) (hc_of rfl c2) rfl rfl ?_; clear S a; intro a S
          refine c_end' ?_
          refine x_thenN ?_
          exact j5 _ (!(decide (x1 = [0, 0, 0, 0]))) a w (S.sub ⟨rfl, rfl, trivial⟩ .nil) h1
        · refine s_gF S (b := (decide (x1 = x3))) rfl rfl c2 rfl ?_; clear S a; intro a S
          refine s_gF S (b := (decide (x1 = x3))) rfl rfl c2 rfl ?_; clear S a; intro a S
          refine s_gF S (b := (decide (x1 = x3))) rfl rfl c2 rfl ?_; clear S a; intro a S
          refine s_pick S (b := false) (hc_of rfl c2) rfl rfl ?_; clear S a; intro a S
          refine c_end' ?_
          refine x_thenN ?_
          exact j5 _ false a w (S.sub ⟨rfl, rfl, trivial⟩ .nil) h1
      refine wp_seq_k ?_
      intro K6 hK6
      have j6 : ∀ (m : Mem) (y6 : Bool) (g14 : Nat) (g15 : Nat) (g16 : Nat) (a : Act) (w : World), St 50 m ⟨mi, w0⟩ [(36, (.v (.bool y6))), (8, (.v (.int .i64 y2))), (7, (.v (.pointer (some ⟨g14, 0, none⟩)))), (5, (.v (.pointer (some ⟨g15, 0, none⟩)))), (3, (.v (.pointer (some ⟨g16, 0, none⟩))))] [Res.cells g14 24 [.ints .u64 [0, 0, 0, 0] 4], Res.cells g15 24 [.ints .u64 x3 4], Res.cells g16 24 [.ints .u64 x1 4]] a w → gas_again.j6 x1 x3 y2 y6 = some r → K6 a w := by
        intro m y6 g14 g15 g16 a w S h0
        delta gas_again.j6 at h0
        refine hK6 a w ?_
        rcases ite_of h0 with ⟨c3, h1⟩ | ⟨c3, h1⟩ <;> clear h0
        · refine c_condT S rfl c3 ?_
          refine c_region' ?_
          refine s_move S rfl rfl ?_; clear S a; intro a S
          refine s_bin S rfl rfl rfl rfl ?_; clear S a; intro a S
          refine s_assign S rfl rfl ?_; clear S a; intro a S
          refine c_end' ?_
          refine x_thenN ?_
          exact j3 _ (wr .i64 (y2 + 19900)) g14 g15 g16 a w (S.sub ⟨rfl, rfl, rfl, rfl, trivial⟩ (.cons .here (.cons .here (.cons .here .nil)))) h1
        · refine c_condF S rfl c3 ?_
          refine wp_skip ?_
          refine x_thenN ?_
          exact j3 _ y2 g14 g15 g16 a w (S.sub ⟨rfl, rfl, rfl, rfl, trivial⟩ (.cons .here (.cons .here (.cons .here .nil)))) h1
      refine c_region' ?_
      refine s_loada S rfl (.there (.there .here)) T24 (s' := [.ints .u64 x1 4]) rfl rfl ?_; clear S a; intro a S
      refine s_loada S rfl (.there .here) T24 (s' := [.ints .u64 x3 4]) rfl rfl ?_; clear S a; intro a S
      refine s_eqa S rfl rfl Try.underlying24 Try.underlying22 T22 Q24 rfl ?_; clear S a; intro a S
      refine s_move S rfl rfl ?_; clear S a; intro a S
      rcases ite_of h0 with ⟨c4, h1⟩ | ⟨c4, h1⟩ <;> clear h0
      · refine s_gT S (b := (decide (x1 = x3))) rfl rfl c4 ?_
        refine s_loada S rfl (.there (.there .here)) T24 (s' := [.ints .u64 x1 4]) rfl rfl ?_; clear S a; intro a S
        refine s_gT S (b := (decide (x1 = x3))) rfl rfl c4 ?_
        refine s_loada S rfl .here T24 (s' := [.ints .u64 [0, 0, 0, 0] 4]) rfl rfl ?_; clear S a; intro a S
        refine s_gT S (b := (decide (x1 = x3))) rfl rfl c4 ?_
        refine s_eqa S rfl rfl Try.underlying24 Try.underlying22 T22 Q24 rfl ?_; clear S a; intro a S
        refine s_pick S (b := true) (hc_of rfl c4) rfl rfl ?_; clear S a; intro a S
        refine c_end' ?_
        refine x_thenN ?_
        exact j6 _ (decide (x1 = [0, 0, 0, 0])) g8 g9 g10 a w (S.sub ⟨rfl, rfl, rfl, rfl, rfl, trivial⟩ (.cons .here (.cons .here (.cons .here .nil)))) h1
      · refine s_gF S (b := (decide (x1 = x3))) rfl rfl c4 rfl ?_; clear S a; intro a S
        refine s_gF S (b := (decide (x1 = x3))) rfl rfl c4 rfl ?_; clear S a; intro a S
        refine s_gF S (b := (decide (x1 = x3))) rfl rfl c4 rfl ?_; clear S a; intro a S
        refine s_pick S (b := false) (hc_of rfl c4) rfl rfl ?_; clear S a; intro a S
        refine c_end' ?_
        refine x_thenN ?_
        exact j6 _ false g8 g9 g10 a w (S.sub ⟨rfl, rfl, rfl, rfl, rfl, trivial⟩ (.cons .here (.cons .here (.cons .here .nil)))) h1
    refine wp_seq_k ?_
    intro K7 hK7
    have j7 : ∀ (m : Mem) (y7 : Bool) (g17 : Nat) (g18 : Nat) (g19 : Nat) (a : Act) (w : World), St 50 m ⟨mi, w0⟩ [(26, (.v (.bool y7))), (8, (.v (.int .i64 y1))), (7, (.v (.pointer (some ⟨g17, 0, none⟩)))), (5, (.v (.pointer (some ⟨g18, 0, none⟩)))), (3, (.v (.pointer (some ⟨g19, 0, none⟩))))] [Res.cells g17 24 [.ints .u64 [0, 0, 0, 0] 4], Res.cells g18 24 [.ints .u64 x3 4], Res.cells g19 24 [.ints .u64 x1 4]] a w → gas_again.j7 x1 x3 y1 y7 = some r → K7 a w := by
      intro m y7 g17 g18 g19 a w S h0
      delta gas_again.j7 at h0
      refine hK7 a w ?_
      rcases ite_of h0 with ⟨c5, h1⟩ | ⟨c5, h1⟩ <;> clear h0
      · refine c_condT S rfl c5 ?_
        refine c_region' ?_
        refine s_move S rfl rfl ?_; clear S a; intro a S
        refine s_bin S rfl rfl rfl rfl ?_; clear S a; intro a S
        refine s_assign S rfl rfl ?_; clear S a; intro a S
        refine c_end' ?_
        refine x_thenN ?_
        exact j2 _ (wr .i64 (y1 + 4800)) g17 g18 g19 a w (S.sub ⟨rfl, rfl, rfl, rfl, trivial⟩ (.cons .here (.cons .here (.cons .here .nil)))) h1
      · refine c_condF S rfl c5 ?_
        refine wp_skip ?_
        refine x_thenN ?_
        exact j2 _ y1 g17 g18 g19 a w (S.sub ⟨rfl, rfl, rfl, rfl, trivial⟩ (.cons .here (.cons .here (.cons .here .nil)))) h1
    refine c_region' ?_
    refine s_loada S rfl (.there (.there .here)) T24 (s' := [.ints .u64 x1 4]) rfl rfl ?_; clear S a; intro a S
    refine s_loada S rfl .here T24 (s' := [.ints .u64 [0, 0, 0, 0] 4]) rfl rfl ?_; clear S a; intro a S
    refine s_nea S rfl rfl Try.underlying24 Try.underlying22 T22 Q24 rfl ?_; clear S a; intro a S
    refine s_move S rfl rfl ?_; clear S a; intro a S
    rcases ite_of h0 with ⟨c6, h1⟩ | ⟨c6, h1⟩ <;> clear h0
    · refine s_gT S (b := (!(decide (x1 = [0, 0, 0, 0])))) rfl rfl c6 ?_
      refine s_loada S rfl (.there .here) T24 (s' := [.ints .u64 x3 4]) rfl rfl ?_; clear S a; intro a S
      refine s_gT S (b := (!(decide (x1 = [0, 0, 0, 0])))) rfl rfl c6 ?_
      refine s_loada S rfl .here T24 (s' := [.ints .u64 [0, 0, 0, 0] 4]) rfl rfl ?_; clear S a; intro a S
      refine s_gT S (b := (!(decide (x1 = [0, 0, 0, 0])))) rfl rfl c6 ?_
      refine s_eqa S rfl rfl Try.underlying24 Try.underlying22 T22 Q24 rfl ?_; clear S a; intro a S
      refine s_pick S (b := true) (hc_of rfl c6) rfl rfl ?_; clear S a; intro a S
      refine c_end' ?_
      refine x_thenN ?_
      exact j7 _ (decide (x3 = [0, 0, 0, 0])) g5 g6 g7 a w (S.sub ⟨rfl, rfl, rfl, rfl, rfl, trivial⟩ (.cons .here (.cons .here (.cons .here .nil)))) h1
    · refine s_gF S (b := (!(decide (x1 = [0, 0, 0, 0])))) rfl rfl c6 rfl ?_; clear S a; intro a S
      refine s_gF S (b := (!(decide (x1 = [0, 0, 0, 0])))) rfl rfl c6 rfl ?_; clear S a; intro a S
      refine s_gF S (b := (!(decide (x1 = [0, 0, 0, 0])))) rfl rfl c6 rfl ?_; clear S a; intro a S
      refine s_pick S (b := false) (hc_of rfl c6) rfl rfl ?_; clear S a; intro a S
      refine c_end' ?_
      refine x_thenN ?_
      exact j7 _ false g5 g6 g7 a w (S.sub ⟨rfl, rfl, rfl, rfl, rfl, trivial⟩ (.cons .here (.cons .here (.cons .here .nil)))) h1
  refine wp_seq_k ?_
  intro K8 hK8
  have j8 : ∀ (m : Mem) (y8 : Bool) (g20 : Nat) (g21 : Nat) (g22 : Nat) (a : Act) (w : World), St 50 m ⟨mi, w0⟩ [(16, (.v (.bool y8))), (8, (.v (.int .i64 0))), (7, (.v (.pointer (some ⟨g20, 0, none⟩)))), (5, (.v (.pointer (some ⟨g21, 0, none⟩)))), (3, (.v (.pointer (some ⟨g22, 0, none⟩))))] [Res.cells g20 24 [.ints .u64 [0, 0, 0, 0] 4], Res.cells g21 24 [.ints .u64 x3 4], Res.cells g22 24 [.ints .u64 x1 4]] a w → gas_again.j8 x1 x3 y8 = some r → K8 a w := by
    intro m y8 g20 g21 g22 a w S h0
    delta gas_again.j8 at h0
    refine hK8 a w ?_
    rcases ite_of h0 with ⟨c7, h1⟩ | ⟨c7, h1⟩ <;> clear h0
    · refine c_condT S rfl c7 ?_
      refine c_region' ?_
      refine s_move S rfl rfl ?_; clear S a; intro a S
      refine s_bin S rfl rfl rfl rfl ?_; clear S a; intro a S
      refine s_assign S rfl rfl ?_; clear S a; intro a S
      refine c_end' ?_
      refine x_thenN ?_
      exact j1 _ (wr .i64 (0 - 4800)) g20 g21 g22 a w (S.sub ⟨rfl, rfl, rfl, rfl, trivial⟩ (.cons .here (.cons .here (.cons .here .nil)))) h1
    · refine c_condF S rfl c7 ?_
      refine wp_skip ?_
      refine x_thenN ?_
      exact j1 _ 0 g20 g21 g22 a w (S.sub ⟨rfl, rfl, rfl, rfl, trivial⟩ (.cons .here (.cons .here (.cons .here .nil)))) h1
  refine c_region' ?_
  refine s_loada S rfl (.there (.there (.there .here))) T24 (s' := [.ints .u64 x1 4]) rfl rfl ?_; clear S a; intro a S
  refine s_loada S rfl .here T24 (s' := [.ints .u64 [0, 0, 0, 0] 4]) rfl rfl ?_; clear S a; intro a S
  refine s_nea S rfl rfl Try.underlying24 Try.underlying22 T22 Q24 rfl ?_; clear S a; intro a S
  refine s_move S rfl rfl ?_; clear S a; intro a S
  rcases ite_of h0 with ⟨c8, h1⟩ | ⟨c8, h1⟩ <;> clear h0
  · refine s_gT S (b := (!(decide (x1 = [0, 0, 0, 0])))) rfl rfl c8 ?_
    refine s_loada S rfl (.there (.there .here)) T24 (s' := [.ints .u64 x2 4]) rfl rfl ?_; clear S a; intro a S
    refine s_gT S (b := (!(decide (x1 = [0, 0, 0, 0])))) rfl rfl c8 ?_
    refine s_loada S rfl .here T24 (s' := [.ints .u64 [0, 0, 0, 0] 4]) rfl rfl ?_; clear S a; intro a S
    refine s_gT S (b := (!(decide (x1 = [0, 0, 0, 0])))) rfl rfl c8 ?_
    refine s_eqa S rfl rfl Try.underlying24 Try.underlying22 T22 Q24 rfl ?_; clear S a; intro a S
    refine s_pick S (b := true) (hc_of rfl c8) rfl rfl ?_; clear S a; intro a S
    refine c_end' ?_
    refine x_thenN ?_
    exact j8 _ (decide (x2 = [0, 0, 0, 0])) g4 g3 g1 a w (S.sub ⟨rfl, rfl, rfl, rfl, rfl, trivial⟩ (.cons .here (.cons .here (.cons (.there .here) .nil)))) h1
  · refine s_gF S (b := (!(decide (x1 = [0, 0, 0, 0])))) rfl rfl c8 rfl ?_; clear S a; intro a S
    refine s_gF S (b := (!(decide (x1 = [0, 0, 0, 0])))) rfl rfl c8 rfl ?_; clear S a; intro a S
    refine s_gF S (b := (!(decide (x1 = [0, 0, 0, 0])))) rfl rfl c8 rfl ?_; clear S a; intro a S
    refine s_pick S (b := false) (hc_of rfl c8) rfl rfl ?_; clear S a; intro a S
    refine c_end' ?_
    refine x_thenN ?_
    exact j8 _ false g4 g3 g1 a w (S.sub ⟨rfl, rfl, rfl, rfl, rfl, trivial⟩ (.cons .here (.cons .here (.cons (.there .here) .nil)))) h1
/-! smithy/gas.Sstore -/
def gas_Sstore.f (x1 : List Int) (x2 : List Int) (x3 : List Int) (x4 : Bool) : Option (Int × Int) := (gas_either.f x4 2100 0).bind fun t1 => (if (decide (x2 = x3)) = true then (some (wr .u64 (t1 + 100), 0)) else (if (!(decide (x1 = x2))) = true then ((gas_again.f x1 x2 x3).bind fun t2 => (some (wr .u64 (t1 + 100), t2))) else (if (decide (x1 = [0, 0, 0, 0])) = true then (some (wr .u64 (t1 + 20000), 0)) else (if (decide (x3 = [0, 0, 0, 0])) = true then (some (wr .u64 (t1 + 2900), 4800)) else (some (wr .u64 (t1 + 2900), 0))))))
theorem gas_Sstore.ok (x1 : List Int) (x2 : List Int) (x3 : List Int) (x4 : Bool) (r : Int × Int) (h0 : gas_Sstore.f x1 x2 x3 x4 = some r) (mi : Mem) (w0 : World) : okL mi [(.agg [.ints .u64 x1 4]), (.agg [.ints .u64 x2 4]), (.agg [.ints .u64 x3 4]), (.v (.bool x4))] → Frz mi w0 → Calls Try.prog 9 (([(.agg [.ints .u64 x1 4]), (.agg [.ints .u64 x2 4]), (.agg [.ints .u64 x3 4]), (.v (.bool x4))] : List D).map D.val).toArray w0 (Ret mi (.tup [(false, [.one (.int .u64 r.1)]), (false, [.one (.int .i64 r.2)])]) w0) := by
  intro ok hm
  delta gas_Sstore.f at h0
  refine c_enter (n := 44) [(.agg [.ints .u64 x1 4]), (.agg [.ints .u64 x2 4]), (.agg [.ints .u64 x3 4]), (.v (.bool x4))] (l := [(0, (.agg [.ints .u64 x1 4])), (1, (.agg [.ints .u64 x2 4])), (2, (.agg [.ints .u64 x3 4])), (3, (.v (.bool x4)))]) Try.func9 rfl rfl rfl rfl ok hm ?_
  clear ok hm
  intro a S
  refine c_region ?_
  refine s_box S rfl rfl rfl ?_; clear S a; intro g1 a w S
  refine s_box S rfl rfl rfl ?_; clear S a w; intro g2 a w S
  refine s_box S rfl rfl rfl ?_; clear S a w; intro g3 a w S
  refine s_assign S rfl rfl ?_; clear S a; intro a S
  refine s_assign S rfl rfl ?_; clear S a; intro a S
  refine c_end ?_
  refine c_region ?_
  refine s_alloc S Z24 rfl ⟨rfl, trivial⟩ rfl ?_; clear S a w; intro g4 a w S
  refine c_end ?_
  refine c_region ?_
  refine s_move S rfl rfl ?_; clear S a; intro a S
  obtain ⟨t1, et1, h1⟩ := bind_of h0; clear h0
  refine s_call S (ds := [(.v (.bool x4)), (.v (.int .u64 2100)), (.v (.int .u64 0))]) (d := (.v (.int .u64 t1))) N28 rfl rfl (gas_either.ok x4 2100 0 t1 et1 _ _) ?_; clear S a w; intro a w S
  refine s_assign S rfl rfl ?_; clear S a; intro a S
  refine c_end ?_
  refine wp_seq ?_
  refine wp_block ?_
  refine c_region ?_
  refine s_loada S rfl (.there (.there .here)) T24 (s' := [.ints .u64 x2 4]) rfl rfl ?_; clear S a; intro a S
  refine s_loada S rfl (.there .here) T24 (s' := [.ints .u64 x3 4]) rfl rfl ?_; clear S a; intro a S
  refine s_eqa S rfl rfl Try.underlying24 Try.underlying22 T22 Q24 rfl ?_; clear S a; intro a S
  refine s_assign S rfl rfl ?_; clear S a; intro a S
  refine c_end ?_
  rcases ite_of h1 with ⟨c1, h2⟩ | ⟨c1, h2⟩ <;> clear h1
  · refine c_condT S rfl c1 ?_
    refine c_region ?_
    refine s_move S rfl rfl ?_; clear S a; intro a S
    refine s_bin S rfl rfl rfl rfl ?_; clear S a; intro a S
    refine s_assign S rfl rfl ?_; clear S a; intro a S
    refine s_assign S rfl rfl ?_; clear S a; intro a S
    refine c_end ?_
    refine wp_ret ?_
    refine x_blockR ?_
    refine x_thenR ?_
    obtain rfl := Option.some.inj h2
    exact b_ret2 (d1 := (.v (.int .u64 (wr .u64 (t1 + 100))))) (d2 := (.v (.int .i64 0))) S rfl rfl rfl fun ok1 ok2 => ⟨rfl, ⟨⟨ok1, trivial⟩, ⟨ok2, trivial⟩, trivial⟩, S.below⟩
  · refine c_condF S rfl c1 ?_
    refine c_region ?_
    refine s_loada S rfl (.there (.there (.there .here))) T24 (s' := [.ints .u64 x1 4]) rfl rfl ?_; clear S a; intro a S
    refine s_loada S rfl (.there (.there .here)) T24 (s' := [.ints .u64 x2 4]) rfl rfl ?_; clear S a; intro a S
    refine s_nea S rfl rfl Try.underlying24 Try.underlying22 T22 Q24 rfl ?_; clear S a; intro a S
    refine s_assign S rfl rfl ?_; clear S a; intro a S
    refine c_end ?_
    rcases ite_of h2 with ⟨c2, h3⟩ | ⟨c2, h3⟩ <;> clear h2
    · refine c_condT S rfl c2 ?_
      refine c_region ?_
      refine s_move S rfl rfl ?_; clear S a; intro a S
      refine s_bin S rfl rfl rfl rfl ?_; clear S a; intro a S
      refine s_loada S rfl (.there (.there (.there .here))) T24 (s' := [.ints .u64 x1 4]) rfl rfl ?_; clear S a; intro a S
      refine s_loada S rfl (.there (.there .here)) T24 (s' := [.ints .u64 x2 4]) rfl rfl ?_; clear S a; intro a S
      refine s_loada S rfl (.there .here) T24 (s' := [.ints .u64 x3 4]) rfl rfl ?_; clear S a; intro a S
      obtain ⟨t2, et2, h4⟩ := bind_of h3; clear h3
      refine s_call S (ds := [(.agg [.ints .u64 x1 4]), (.agg [.ints .u64 x2 4]), (.agg [.ints .u64 x3 4])]) (d := (.v (.int .i64 t2))) N29 rfl rfl (gas_again.ok x1 x2 x3 t2 et2 _ _) ?_; clear S a w; intro a w S
      refine s_assign S rfl rfl ?_; clear S a; intro a S
      refine s_assign S rfl rfl ?_; clear S a; intro a S
      refine c_end ?_
      refine wp_ret ?_
      refine x_blockR ?_
      refine x_thenR ?_
      obtain rfl := Option.some.inj h4
      exact b_ret2 (d1 := (.v (.int .u64 (wr .u64 (t1 + 100))))) (d2 := (.v (.int .i64 t2))) S rfl rfl rfl fun ok1 ok2 => ⟨rfl, ⟨⟨ok1, trivial⟩, ⟨ok2, trivial⟩, trivial⟩, S.below⟩
    · refine c_condF S rfl c2 ?_
      refine c_region ?_
      refine s_loada S rfl (.there (.there (.there .here))) T24 (s' := [.ints .u64 x1 4]) rfl rfl ?_; clear S a; intro a S
      refine s_loada S rfl .here T24 (s' := [.ints .u64 [0, 0, 0, 0] 4]) rfl rfl ?_; clear S a; intro a S
      refine s_eqa S rfl rfl Try.underlying24 Try.underlying22 T22 Q24 rfl ?_; clear S a; intro a S
      refine s_assign S rfl rfl ?_; clear S a; intro a S
      refine c_end ?_
      rcases ite_of h3 with ⟨c3, h4⟩ | ⟨c3, h4⟩ <;> clear h3
      · refine c_condT S rfl c3 ?_
        refine c_region ?_
        refine s_move S rfl rfl ?_; clear S a; intro a S
        refine s_bin S rfl rfl rfl rfl ?_; clear S a; intro a S
        refine s_assign S rfl rfl ?_; clear S a; intro a S
        refine s_assign S rfl rfl ?_; clear S a; intro a S
        refine c_end ?_
        refine wp_ret ?_
        refine x_blockR ?_
        refine x_thenR ?_
        obtain rfl := Option.some.inj h4
        exact b_ret2 (d1 := (.v (.int .u64 (wr .u64 (t1 + 20000))))) (d2 := (.v (.int .i64 0))) S rfl rfl rfl fun ok1 ok2 => ⟨rfl, ⟨⟨ok1, trivial⟩, ⟨ok2, trivial⟩, trivial⟩, S.below⟩
      · refine c_condF S rfl c3 ?_
        refine c_region ?_
        refine s_loada S rfl (.there .here) T24 (s' := [.ints .u64 x3 4]) rfl rfl ?_; clear S a; intro a S
        refine s_loada S rfl .here T24 (s' := [.ints .u64 [0, 0, 0, 0] 4]) rfl rfl ?_; clear S a; intro a S
        refine s_eqa S rfl rfl Try.underlying24 Try.underlying22 T22 Q24 rfl ?_; clear S a; intro a S
        refine s_assign S rfl rfl ?_; clear S a; intro a S
        refine c_end ?_
        rcases ite_of h4 with ⟨c4, h5⟩ | ⟨c4, h5⟩ <;> clear h4
        · refine c_condT S rfl c4 ?_
          refine c_region ?_
          refine s_move S rfl rfl ?_; clear S a; intro a S
          refine s_bin S rfl rfl rfl rfl ?_; clear S a; intro a S
          refine s_assign S rfl rfl ?_; clear S a; intro a S
          refine s_assign S rfl rfl ?_; clear S a; intro a S
          refine c_end ?_
          refine wp_ret ?_
          refine x_blockR ?_
          refine x_thenR ?_
          obtain rfl := Option.some.inj h5
          exact b_ret2 (d1 := (.v (.int .u64 (wr .u64 (t1 + 2900))))) (d2 := (.v (.int .i64 4800))) S rfl rfl rfl fun ok1 ok2 => ⟨rfl, ⟨⟨ok1, trivial⟩, ⟨ok2, trivial⟩, trivial⟩, S.below⟩
        · refine c_condF S rfl c4 ?_
          refine wp_skip ?_
          refine x_blockN ?_
          refine x_thenN ?_
          refine c_region ?_
          refine s_move S rfl rfl ?_; clear S a; intro a S
          refine s_bin S rfl rfl rfl rfl ?_; clear S a; intro a S
          refine s_assign S rfl rfl ?_; clear S a; intro a S
          refine s_assign S rfl rfl ?_; clear S a; intro a S
          refine c_end ?_
          refine wp_ret ?_
          obtain rfl := Option.some.inj h5
          exact b_ret2 (d1 := (.v (.int .u64 (wr .u64 (t1 + 2900))))) (d2 := (.v (.int .i64 0))) S rfl rfl rfl fun ok1 ok2 => ⟨rfl, ⟨⟨ok1, trivial⟩, ⟨ok2, trivial⟩, trivial⟩, S.below⟩
/-! smithy/smithyref12.Sstore -/
def smithyref12_Sstore.j3 (y1 : Int) (y3 : Int) : Option (Int × Int) := some (wr .u64 (y1 + 100), y3)
def smithyref12_Sstore.j2 (x1 : List Int) (x3 : List Int) (y1 : Int) (y2 : Int) : Option (Int × Int) := if (decide (x1 = x3)) = true then (if (decide (x1 = [0, 0, 0, 0])) = true then (smithyref12_Sstore.j3 y1 (wr .i64 ((wr .i64 (y2 + 20000)) - 100))) else (smithyref12_Sstore.j3 y1 (wr .i64 ((wr .i64 ((wr .i64 (y2 + 5000)) - 2100)) - 100)))) else (smithyref12_Sstore.j3 y1 y2)
def smithyref12_Sstore.j4 (x1 : List Int) (x3 : List Int) (y1 : Int) (y4 : Int) : Option (Int × Int) := if (decide (x3 = [0, 0, 0, 0])) = true then (smithyref12_Sstore.j2 x1 x3 y1 (wr .i64 (y4 + 4800))) else (smithyref12_Sstore.j2 x1 x3 y1 y4)
def smithyref12_Sstore.j1 (x1 : List Int) (x2 : List Int) (x3 : List Int) (y1 : Int) : Option (Int × Int) := if (decide (x2 = x3)) = true then (some (wr .u64 (y1 + 100), 0)) else (if (decide (x1 = x2)) = true then (if (decide (x1 = [0, 0, 0, 0])) = true then (some (wr .u64 (y1 + 20000), 0)) else (if (decide (x3 = [0, 0, 0, 0])) = true then (some (wr .u64 (y1 + 2900), 4800)) else (some (wr .u64 (y1 + 2900), 0)))) else (if (!(decide (x1 = [0, 0, 0, 0]))) = true then (if (decide (x2 = [0, 0, 0, 0])) = true then (smithyref12_Sstore.j4 x1 x3 y1 (wr .i64 (0 - 4800))) else (smithyref12_Sstore.j4 x1 x3 y1 0)) else (smithyref12_Sstore.j2 x1 x3 y1 0)))
def smithyref12_Sstore.f (x1 : List Int) (x2 : List Int) (x3 : List Int) (x4 : Bool) : Option (Int × Int) := if x4 = true then (smithyref12_Sstore.j1 x1 x2 x3 2100) else (smithyref12_Sstore.j1 x1 x2 x3 0)
theorem smithyref12_Sstore.ok (x1 : List Int) (x2 : List Int) (x3 : List Int) (x4 : Bool) (r : Int × Int) (h0 : smithyref12_Sstore.f x1 x2 x3 x4 = some r) (mi : Mem) (w0 : World) : okL mi [(.agg [.ints .u64 x1 4]), (.agg [.ints .u64 x2 4]), (.agg [.ints .u64 x3 4]), (.v (.bool x4))] → Frz mi w0 → Calls Try.prog 10 (([(.agg [.ints .u64 x1 4]), (.agg [.ints .u64 x2 4]), (.agg [.ints .u64 x3 4]), (.v (.bool x4))] : List D).map D.val).toArray w0 (Ret mi (.tup [(false, [.one (.int .u64 r.1)]), (false, [.one (.int .i64 r.2)])]) w0) := by
  intro ok hm
  delta smithyref12_Sstore.f at h0
  refine c_enter (n := 64) [(.agg [.ints .u64 x1 4]), (.agg [.ints .u64 x2 4]), (.agg [.ints .u64 x3 4]), (.v (.bool x4))] (l := [(0, (.agg [.ints .u64 x1 4])), (1, (.agg [.ints .u64 x2 4])), (2, (.agg [.ints .u64 x3 4])), (3, (.v (.bool x4)))]) Try.func10 rfl rfl rfl rfl ok hm ?_
  clear ok hm
  intro a S
  refine c_region ?_
  refine s_box S rfl rfl rfl ?_; clear S a; intro g1 a w S
  refine s_box S rfl rfl rfl ?_; clear S a w; intro g2 a w S
  refine s_box S rfl rfl rfl ?_; clear S a w; intro g3 a w S
  refine s_assign S rfl rfl ?_; clear S a; intro a S
  refine s_assign S rfl rfl ?_; clear S a; intro a S
  refine c_end ?_
  refine c_region ?_
  refine s_build S (ds := []) (dv := (.agg [.ints .u64 [0, 0, 0, 0] 4])) rfl (fun _ => by kernel_rfl) ⟨rfl, trivial⟩ rfl ?_; clear S a; intro a S
  refine s_alloc S Z24 rfl ⟨rfl, trivial⟩ rfl ?_; clear S a w; intro g4 a w S
  refine s_store S rfl rfl rfl (s' := [.ints .u64 [0, 0, 0, 0] 4]) .here T24 rfl rfl ?_; clear S w; intro w S
  refine c_end ?_
  refine c_region ?_
  refine s_assign S rfl rfl ?_; clear S a; intro a S
  refine c_end ?_
  refine wp_seq_k ?_
  intro K1 hK1
  have j1 : ∀ (m : Mem) (y1 : Int) (g5 : Nat) (g6 : Nat) (g7 : Nat) (g8 : Nat) (a : Act) (w : World), St 64 m ⟨mi, w0⟩ [(11, (.v (.int .u64 y1))), (10, (.v (.pointer (some ⟨g5, 0, none⟩)))), (6, (.v (.pointer (some ⟨g6, 0, none⟩)))), (5, (.v (.pointer (some ⟨g7, 0, none⟩)))), (4, (.v (.pointer (some ⟨g8, 0, none⟩))))] [Res.cells g5 24 [.ints .u64 [0, 0, 0, 0] 4], Res.cells g6 24 [.ints .u64 x3 4], Res.cells g7 24 [.ints .u64 x2 4], Res.cells g8 24 [.ints .u64 x1 4]] a w → smithyref12_Sstore.j1 x1 x2 x3 y1 = some r → K1 a w := by
    intro m y1 g5 g6 g7 g8 a w S h0
    delta smithyref12_Sstore.j1 at h0
    refine hK1 a w ?_
    refine wp_seq ?_
    refine c_region ?_
    refine s_loada S rfl (.there (.there .here)) T24 (s' := [.ints .u64 x2 4]) rfl rfl ?_; clear S a; intro a S
    refine s_loada S rfl (.there .here) T24 (s' := [.ints .u64 x3 4]) rfl rfl ?_; clear S a; intro a S
    refine s_eqa S rfl rfl Try.underlying24 Try.underlying22 T22 Q24 rfl ?_; clear S a; intro a S
    refine c_end ?_
    rcases ite_of h0 with ⟨c1, h1⟩ | ⟨c1, h1⟩ <;> clear h0
    · refine c_condT S rfl c1 ?_
      refine c_region ?_
      refine s_move S rfl rfl ?_; clear S a; intro a S
      refine s_bin S rfl rfl rfl rfl ?_; clear S a; intro a S
      refine s_assign S rfl rfl ?_; clear S a; intro a S
      refine s_assign S rfl rfl ?_; clear S a; intro a S
      refine c_end ?_
      refine wp_ret ?_
      refine x_thenR ?_
      obtain rfl := Option.some.inj h1
      exact b_ret2 (d1 := (.v (.int .u64 (wr .u64 (y1 + 100))))) (d2 := (.v (.int .i64 0))) S rfl rfl rfl fun ok1 ok2 => ⟨rfl, ⟨⟨ok1, trivial⟩, ⟨ok2, trivial⟩, trivial⟩, S.below⟩
    · refine c_condF S rfl c1 ?_
      refine wp_skip ?_
      refine x_thenN ?_
      refine wp_seq ?_
      refine c_region ?_
      refine s_loada S rfl (.there (.there (.there .here))) T24 (s' := [.ints .u64 x1 4]) rfl rfl ?_; clear S a; intro a S
      refine s_loada S rfl (.there (.there .here)) T24 (s' := [.ints .u64 x2 4]) rfl rfl ?_; clear S a; intro a S
      refine s_eqa S rfl rfl Try.underlying24 Try.underlying22 T22 Q24 rfl ?_; clear S a; intro a S
      refine c_end ?_
      rcases ite_of h1 with ⟨c2, h2⟩ | ⟨c2, h2⟩ <;> clear h1
      · refine c_condT S rfl c2 ?_
        refine wp_seq ?_
        refine c_region ?_
        refine s_loada S rfl (.there (.there (.there .here))) T24 (s' := [.ints .u64 x1 4]) rfl rfl ?_; clear S a; intro a S
        refine s_loada S rfl .here T24 (s' := [.ints .u64 [0, 0, 0, 0] 4]) rfl rfl ?_; clear S a; intro a S
        refine s_eqa S rfl rfl Try.underlying24 Try.underlying22 T22 Q24 rfl ?_; clear S a; intro a S
        refine c_end ?_
        rcases ite_of h2 with ⟨c3, h3⟩ | ⟨c3, h3⟩ <;> clear h2
        · refine c_condT S rfl c3 ?_
          refine c_region ?_
          refine s_move S rfl rfl ?_; clear S a; intro a S
          refine s_bin S rfl rfl rfl rfl ?_; clear S a; intro a S
          refine s_assign S rfl rfl ?_; clear S a; intro a S
          refine s_assign S rfl rfl ?_; clear S a; intro a S
          refine c_end ?_
          refine wp_ret ?_
          refine x_thenR ?_
          refine x_thenR ?_
          obtain rfl := Option.some.inj h3
          exact b_ret2 (d1 := (.v (.int .u64 (wr .u64 (y1 + 20000))))) (d2 := (.v (.int .i64 0))) S rfl rfl rfl fun ok1 ok2 => ⟨rfl, ⟨⟨ok1, trivial⟩, ⟨ok2, trivial⟩, trivial⟩, S.below⟩
        · refine c_condF S rfl c3 ?_
          refine wp_skip ?_
          refine x_thenN ?_
          refine wp_seq ?_
          refine c_region ?_
          refine s_loada S rfl (.there .here) T24 (s' := [.ints .u64 x3 4]) rfl rfl ?_; clear S a; intro a S
          refine s_loada S rfl .here T24 (s' := [.ints .u64 [0, 0, 0, 0] 4]) rfl rfl ?_; clear S a; intro a S
          refine s_eqa S rfl rfl Try.underlying24 Try.underlying22 T22 Q24 rfl ?_; clear S a; intro a S
          refine c_end ?_
          rcases ite_of h3 with ⟨c4, h4⟩ | ⟨c4, h4⟩ <;> clear h3
          · refine c_condT S rfl c4 ?_
            refine c_region ?_
            refine s_move S rfl rfl ?_; clear S a; intro a S
            refine s_bin S rfl rfl rfl rfl ?_; clear S a; intro a S
            refine s_assign S rfl rfl ?_; clear S a; intro a S
            refine s_assign S rfl rfl ?_; clear S a; intro a S
            refine c_end ?_
            refine wp_ret ?_
            refine x_thenR ?_
            refine x_thenR ?_
            obtain rfl := Option.some.inj h4
            exact b_ret2 (d1 := (.v (.int .u64 (wr .u64 (y1 + 2900))))) (d2 := (.v (.int .i64 4800))) S rfl rfl rfl fun ok1 ok2 => ⟨rfl, ⟨⟨ok1, trivial⟩, ⟨ok2, trivial⟩, trivial⟩, S.below⟩
          · refine c_condF S rfl c4 ?_
            refine wp_skip ?_
            refine x_thenN ?_
            refine c_region ?_
            refine s_move S rfl rfl ?_; clear S a; intro a S
            refine s_bin S rfl rfl rfl rfl ?_; clear S a; intro a S
            refine s_assign S rfl rfl ?_; clear S a; intro a S
            refine s_assign S rfl rfl ?_; clear S a; intro a S
            refine c_end ?_
            refine wp_ret ?_
            refine x_thenR ?_
            obtain rfl := Option.some.inj h4
            exact b_ret2 (d1 := (.v (.int .u64 (wr .u64 (y1 + 2900))))) (d2 := (.v (.int .i64 0))) S rfl rfl rfl fun ok1 ok2 => ⟨rfl, ⟨⟨ok1, trivial⟩, ⟨ok2, trivial⟩, trivial⟩, S.below⟩
      · refine c_condF S rfl c2 ?_
        refine wp_skip ?_
        refine x_thenN ?_
        refine c_region ?_
        refine s_assign S rfl rfl ?_; clear S a; intro a S
        refine c_end ?_
        refine wp_seq_k ?_
        intro K2 hK2
        have j2 : ∀ (m : Mem) (y2 : Int) (g9 : Nat) (g10 : Nat) (g11 : Nat) (a : Act) (w : World), St 64 m ⟨mi, w0⟩ [(12, (.v (.int .i64 y2))), (11, (.v (.int .u64 y1))), (10, (.v (.pointer (some ⟨g9, 0, none⟩)))), (6, (.v (.pointer (some ⟨g10, 0, none⟩)))), (4, (.v (.pointer (some ⟨g11, 0, none⟩))))] [Res.cells g9 24 [.ints .u64 [0, 0, 0, 0] 4], Res.cells g10 24 [.ints .u64 x3 4], Res.cells g11 24 [.ints .u64 x1 4]] a w → smithyref12_Sstore.j2 x1 x3 y1 y2 = some r → K2 a w := by
          intro m y2 g9 g10 g11 a w S h0
          delta smithyref12_Sstore.j2 at h0
          refine hK2 a w ?_
          refine wp_seq_k ?_
          intro K3 hK3
          have j3 : ∀ (m : Mem) (y3 : Int) (a : Act) (w : World), St 64 m ⟨mi, w0⟩ [(12, (.v (.int .i64 y3))), (11, (.v (.int .u64 y1)))] [] a w → smithyref12_Sstore.j3 y1 y3 = some r → K3 a w := by
            intro m y3 a w S h0
            delta smithyref12_Sstore.j3 at h0
            refine hK3 a w ?_
            refine c_region ?_
            refine s_move S rfl rfl ?_; clear S a; intro a S
            refine s_bin S rfl rfl rfl rfl ?_; clear S a; intro a S
            refine s_move S rfl rfl ?_; clear S a; intro a S
            refine s_assign S rfl rfl ?_; clear S a; intro a S
            refine s_assign S rfl rfl ?_; clear S a; intro a S
            refine c_end ?_
            refine wp_ret ?_
            obtain rfl := Option.some.inj h0
            exact b_ret2 (d1 := (.v (.int .u64 (wr .u64 (y1 + 100))))) (d2 := (.v (.int .i64 y3))) S rfl rfl rfl fun ok1 ok2 => ⟨rfl, ⟨⟨ok1, trivial⟩, ⟨ok2, trivial⟩, trivial⟩, S.below⟩
          refine c_region ?_
          refine s_loada S rfl (.there (.there .here)) T24 (s' := [.ints .u64 x1 4]) rfl rfl ?_; clear S a; intro a S
          refine s_loada S rfl (.there .here) T24 (s' := [.ints .u64 x3 4]) rfl rfl ?_; clear S a; intro a S
          refine s_eqa S rfl rfl Try.underlying24 Try.underlying22 T22 Q24 rfl ?_; clear S a; intro a S
          refine c_end ?_
          rcases ite_of h0 with ⟨c5, h1⟩ | ⟨c5, h1⟩ <;> clear h0
          · refine c_condT S rfl c5 ?_
            refine c_region ?_
            refine s_loada S rfl (.there (.there .here)) T24 (s' := [.ints .u64 x1 4]) rfl rfl ?_; clear S a; intro a S
            refine s_loada S rfl .here T24 (s' := [.ints .u64 [0, 0, 0, 0] 4]) rfl rfl ?_; clear S a; intro a S
            refine s_eqa S rfl rfl Try.underlying24 Try.underlying22 T22 Q24 rfl ?_; clear S a; intro a S
            refine c_end ?_
            rcases ite_of h1 with ⟨c6, h2⟩ | ⟨c6, h2⟩ <;> clear h1
            · refine c_condT S rfl c6 ?_
              refine c_region' ?_
              refine s_move S rfl rfl ?_; clear S a; intro a S
              refine s_bin S rfl rfl rfl rfl ?_; clear S a; intro a S
              refine s_bin S rfl rfl rfl rfl ?_; clear S a; intro a S
              refine s_assign S rfl rfl ?_; clear S a; intro a S
              refine c_end' ?_
              refine x_thenN ?_
              exact j3 _ (wr .i64 ((wr .i64 (y2 + 20000)) - 100)) a w (S.sub ⟨rfl, rfl, trivial⟩ .nil) h2
            · refine c_condF S rfl c6 ?_
              refine c_region' ?_
              refine s_move S rfl rfl ?_; clear S a; intro a S
              refine s_bin S rfl rfl rfl rfl ?_; clear S a; intro a S
              refine s_bin S rfl rfl rfl rfl ?_; clear S a; intro a S
              refine s_bin S rfl rfl rfl rfl ?_; clear S a; intro a S
              refine s_assign S rfl rfl ?_; clear S a; intro a S
              refine c_end' ?_
              refine x_thenN ?_
              exact j3 _ (wr .i64 ((wr .i64 ((wr .i64 (y2 + 5000)) - 2100)) - 100)) a w (S.sub ⟨rfl, rfl, trivial⟩ .nil) h2
          · refine c_condF S rfl c5 ?_
            refine wp_skip ?_
            refine x_thenN ?_
            exact j3 _ y2 a w (S.sub ⟨rfl, rfl, trivial⟩ .nil) h1
        refine c_region ?_
        refine s_loada S rfl (.there (.there (.there .here))) T24 (s' := [.ints .u64 x1 4]) rfl rfl ?_; clear S a; intro a S
        refine s_loada S rfl .here T24 (s' := [.ints .u64 [0, 0, 0, 0] 4]) rfl rfl ?_; clear S a; intro a S
        refine s_nea S rfl rfl Try.underlying24 Try.underlying22 T22 Q24 rfl ?_; clear S a; intro a S
        refine c_end ?_
        rcases ite_of h2 with ⟨c7, h3⟩ | ⟨c7, h3⟩ <;> clear h2
        · refine c_condT S rfl c7 ?_
          refine wp_seq_k ?_
          intro K4 hK4
          have j4 : ∀ (m : Mem) (y4 : Int) (g12 : Nat) (g13 : Nat) (g14 : Nat) (a : Act) (w : World), St 64 m ⟨mi, w0⟩ [(12, (.v (.int .i64 y4))), (11, (.v (.int .u64 y1))), (10, (.v (.pointer (some ⟨g12, 0, none⟩)))), (6, (.v (.pointer (some ⟨g13, 0, none⟩)))), (4, (.v (.pointer (some ⟨g14, 0, none⟩))))] [Res.cells g12 24 [.ints .u64 [0, 0, 0, 0] 4], Res.cells g13 24 [.ints .u64 x3 4], Res.cells g14 24 [.ints .u64 x1 4]] a w → smithyref12_Sstore.j4 x1 x3 y1 y4 = some r → K4 a w := by
            intro m y4 g12 g13 g14 a w S h0
            delta smithyref12_Sstore.j4 at h0
            refine hK4 a w ?_
            refine c_region ?_
            refine s_loada S rfl (.there .here) T24 (s' := [.ints .u64 x3 4]) rfl rfl ?_; clear S a; intro a S
            refine s_loada S rfl .here T24 (s' := [.ints .u64 [0, 0, 0, 0] 4]) rfl rfl ?_; clear S a; intro a S
            refine s_eqa S rfl rfl Try.underlying24 Try.underlying22 T22 Q24 rfl ?_; clear S a; intro a S
            refine c_end ?_
            rcases ite_of h0 with ⟨c8, h1⟩ | ⟨c8, h1⟩ <;> clear h0
            · refine c_condT S rfl c8 ?_
              refine c_region' ?_
              refine s_move S rfl rfl ?_; clear S a; intro a S
              refine s_bin S rfl rfl rfl rfl ?_; clear S a; intro a S
              refine s_assign S rfl rfl ?_; clear S a; intro a S
              refine c_end' ?_
              refine x_thenN ?_
              exact j2 _ (wr .i64 (y4 + 4800)) g12 g13 g14 a w (S.sub ⟨rfl, rfl, rfl, rfl, rfl, trivial⟩ (.cons .here (.cons .here (.cons .here .nil)))) h1
            · refine c_condF S rfl c8 ?_
              refine wp_skip ?_
              refine x_thenN ?_
              exact j2 _ y4 g12 g13 g14 a w (S.sub ⟨rfl, rfl, rfl, rfl, rfl, trivial⟩ (.cons .here (.cons .here (.cons .here .nil)))) h1
          refine c_region ?_
          refine s_loada S rfl (.there (.there .here)) T24 (s' := [.ints .u64 x2 4]) rfl rfl ?_; clear S a; intro a S
          refine s_loada S rfl .here T24 (s' := [.ints .u64 [0, 0, 0, 0] 4]) rfl rfl ?_; clear S a; intro a S
          refine s_eqa S rfl rfl Try.underlying24 Try.underlying22 T22 Q24 rfl ?_; clear S a; intro a S
          refine c_end ?_
          rcases ite_of h3 with ⟨c9, h4⟩ | ⟨c9, h4⟩ <;> clear h3
          · refine c_condT S rfl c9 ?_
            refine c_region' ?_
            refine s_move S rfl rfl ?_; clear S a; intro a S
            refine s_bin S rfl rfl rfl rfl ?_; clear S a; intro a S
            refine s_assign S rfl rfl ?_; clear S a; intro a S
            refine c_end' ?_
            refine x_thenN ?_
            exact j4 _ (wr .i64 (0 - 4800)) g5 g6 g8 a w (S.sub ⟨rfl, rfl, rfl, rfl, rfl, trivial⟩ (.cons .here (.cons .here (.cons (.there .here) .nil)))) h4
          · refine c_condF S rfl c9 ?_
            refine wp_skip ?_
            refine x_thenN ?_
            exact j4 _ 0 g5 g6 g8 a w (S.sub ⟨rfl, rfl, rfl, rfl, rfl, trivial⟩ (.cons .here (.cons .here (.cons (.there .here) .nil)))) h4
        · refine c_condF S rfl c7 ?_
          refine wp_skip ?_
          refine x_thenN ?_
          exact j2 _ 0 g5 g6 g8 a w (S.sub ⟨rfl, rfl, rfl, rfl, rfl, trivial⟩ (.cons .here (.cons .here (.cons (.there .here) .nil)))) h3
  refine c_region ?_
  refine s_move S rfl rfl ?_; clear S a; intro a S
  refine c_end ?_
  rcases ite_of h0 with ⟨c10, h1⟩ | ⟨c10, h1⟩ <;> clear h0
  · refine c_condT S rfl c10 ?_
    refine c_region' ?_
    refine s_assign S rfl rfl ?_; clear S a; intro a S
    refine c_end' ?_
    refine x_thenN ?_
    exact j1 _ 2100 g4 g3 g2 g1 a w (S.sub ⟨rfl, rfl, rfl, rfl, rfl, trivial⟩ (.cons .here (.cons .here (.cons .here (.cons .here .nil))))) h1
  · refine c_condF S rfl c10 ?_
    refine wp_skip ?_
    refine x_thenN ?_
    exact j1 _ 0 g4 g3 g2 g1 a w (S.sub ⟨rfl, rfl, rfl, rfl, rfl, trivial⟩ (.cons .here (.cons .here (.cons .here (.cons .here .nil))))) h1
/-! smithy/gas.Part -/
def gas_Part.f (x1 : Int) : Option Int := some (wr .u64 (x1 - (wr .u64 (Int.tdiv x1 64))))
theorem gas_Part.ok (x1 : Int) (r : Int) (h0 : gas_Part.f x1 = some r) (mi : Mem) (w0 : World) : okL mi [(.v (.int .u64 x1))] → Frz mi w0 → Calls Try.prog 12 (([(.v (.int .u64 x1))] : List D).map D.val).toArray w0 (Ret mi (.v (.int .u64 r)) w0) := by
  intro ok hm
  delta gas_Part.f at h0
  refine c_enter (n := 7) [(.v (.int .u64 x1))] (l := [(0, (.v (.int .u64 x1)))]) Try.func12 rfl rfl rfl rfl ok hm ?_
  clear ok hm
  intro a S
  refine c_region ?_
  refine s_assign S rfl rfl ?_; clear S a; intro a S
  refine c_end ?_
  refine c_region ?_
  refine s_move S rfl rfl ?_; clear S a; intro a S
  refine s_move S rfl rfl ?_; clear S a; intro a S
  refine s_quo S rfl rfl (by decide) rfl ?_; clear S a; intro a S
  refine s_bin S rfl rfl rfl rfl ?_; clear S a; intro a S
  refine s_assign S rfl rfl ?_; clear S a; intro a S
  refine c_end ?_
  refine wp_ret ?_
  obtain rfl := Option.some.inj h0
  exact b_ret1 (d := (.v (.int .u64 (wr .u64 (x1 - (wr .u64 (Int.tdiv x1 64))))))) S rfl rfl fun ok => ⟨rfl, ok, S.below⟩
/-! smithy/gas.Refund -/
def gas_Refund.f (x1 : Int) (x2 : Int) : Option Int := some (imin x2 (wr .u64 (Int.tdiv x1 5)))
theorem gas_Refund.ok (x1 : Int) (x2 : Int) (r : Int) (h0 : gas_Refund.f x1 x2 = some r) (mi : Mem) (w0 : World) : okL mi [(.v (.int .u64 x1)), (.v (.int .u64 x2))] → Frz mi w0 → Calls Try.prog 13 (([(.v (.int .u64 x1)), (.v (.int .u64 x2))] : List D).map D.val).toArray w0 (Ret mi (.v (.int .u64 r)) w0) := by
  intro ok hm
  delta gas_Refund.f at h0
  refine c_enter (n := 9) [(.v (.int .u64 x1)), (.v (.int .u64 x2))] (l := [(0, (.v (.int .u64 x1))), (1, (.v (.int .u64 x2)))]) Try.func13 rfl rfl rfl rfl ok hm ?_
  clear ok hm
  intro a S
  refine c_region ?_
  refine s_assign S rfl rfl ?_; clear S a; intro a S
  refine c_end ?_
  refine c_region ?_
  refine s_move S rfl rfl ?_; clear S a; intro a S
  refine s_move S rfl rfl ?_; clear S a; intro a S
  refine s_quo S rfl rfl (by decide) rfl ?_; clear S a; intro a S
  refine s_min2 S rfl rfl rfl ?_; clear S a; intro a S
  refine s_assign S rfl rfl ?_; clear S a; intro a S
  refine c_end ?_
  refine wp_ret ?_
  obtain rfl := Option.some.inj h0
  exact b_ret1 (d := (.v (.int .u64 (imin x2 (wr .u64 (Int.tdiv x1 5)))))) S rfl rfl fun ok => ⟨rfl, ok, S.below⟩
/-! smithy/smithylaw12.fixed -/
def smithylaw12_fixed.f : Option Bool := (gas_Sstore.f [0, 0, 0, 0] [0, 0, 0, 0] [1, 0, 0, 0] true).bind fun t1 => ((gas_Sstore.f [1, 0, 0, 0] [1, 0, 0, 0] [0, 0, 0, 0] false).bind fun t2 => (if (t1.1 == 22100) = true then (if (t1.2 == 0) = true then (if (t2.1 == 2900) = true then (if (t2.2 == 4800) = true then ((gas_Part.f 6400).bind fun t3 => (if (t3 == 6300) = true then ((gas_Refund.f 100 50).bind fun t4 => (some (t4 == 20))) else (some false))) else (some false)) else (some false)) else (some false)) else (some false)))
theorem smithylaw12_fixed.ok (r : Bool) (h0 : smithylaw12_fixed.f = some r) (mi : Mem) (w0 : World) : okL mi [] → Frz mi w0 → Calls Try.prog 11 (([] : List D).map D.val).toArray w0 (Ret mi (.v (.bool r)) w0) := by
  intro ok hm
  delta smithylaw12_fixed.f at h0
  refine c_enter (n := 41) [] (l := []) Try.func11 rfl rfl rfl rfl ok hm ?_
  clear ok hm
  intro a S
  refine c_region ?_
  refine s_assign S rfl rfl ?_; clear S a; intro a S
  refine c_end ?_
  refine c_region ?_
  refine s_build S (ds := []) (dv := (.agg [.ints .u64 [0, 0, 0, 0] 4])) rfl (fun _ => by kernel_rfl) ⟨rfl, trivial⟩ rfl ?_; clear S a; intro a S
  refine s_build S (ds := []) (dv := (.agg [.ints .u64 [0, 0, 0, 0] 4])) rfl (fun _ => by kernel_rfl) ⟨rfl, trivial⟩ rfl ?_; clear S a; intro a S
  refine s_build S (ds := [(0, (.v (.int .u64 1)))]) (dv := (.agg [.ints .u64 [1, 0, 0, 0] 4])) rfl (fun _ => by kernel_rfl) ⟨rfl, trivial⟩ rfl ?_; clear S a; intro a S
  obtain ⟨t1, et1, h1⟩ := bind_of h0; clear h0
  refine s_call S (ds := [(.agg [.ints .u64 [0, 0, 0, 0] 4]), (.agg [.ints .u64 [0, 0, 0, 0] 4]), (.agg [.ints .u64 [1, 0, 0, 0] 4]), (.v (.bool true))]) (d := (.tup [(false, [.one (.int .u64 t1.1)]), (false, [.one (.int .i64 t1.2)])])) N9 rfl rfl (gas_Sstore.ok [0, 0, 0, 0] [0, 0, 0, 0] [1, 0, 0, 0] true t1 et1 _ _) ?_; clear S a; intro a w S
  refine s_move S rfl rfl ?_; clear S a; intro a S
  refine s_extract S rfl rfl rfl rfl ?_; clear S a; intro a S
  refine s_extract S rfl rfl rfl rfl ?_; clear S a; intro a S
  refine s_assign S rfl rfl ?_; clear S a; intro a S
  refine s_assign S rfl rfl ?_; clear S a; intro a S
  refine c_end ?_
  refine c_region ?_
  refine s_build S (ds := [(0, (.v (.int .u64 1)))]) (dv := (.agg [.ints .u64 [1, 0, 0, 0] 4])) rfl (fun _ => by kernel_rfl) ⟨rfl, trivial⟩ rfl ?_; clear S a; intro a S
  refine s_build S (ds := [(0, (.v (.int .u64 1)))]) (dv := (.agg [.ints .u64 [1, 0, 0, 0] 4])) rfl (fun _ => by kernel_rfl) ⟨rfl, trivial⟩ rfl ?_; clear S a; intro a S
  refine s_build S (ds := []) (dv := (.agg [.ints .u64 [0, 0, 0, 0] 4])) rfl (fun _ => by kernel_rfl) ⟨rfl, trivial⟩ rfl ?_; clear S a; intro a S
  obtain ⟨t2, et2, h2⟩ := bind_of h1; clear h1
  refine s_call S (ds := [(.agg [.ints .u64 [1, 0, 0, 0] 4]), (.agg [.ints .u64 [1, 0, 0, 0] 4]), (.agg [.ints .u64 [0, 0, 0, 0] 4]), (.v (.bool false))]) (d := (.tup [(false, [.one (.int .u64 t2.1)]), (false, [.one (.int .i64 t2.2)])])) N9 rfl rfl (gas_Sstore.ok [1, 0, 0, 0] [1, 0, 0, 0] [0, 0, 0, 0] false t2 et2 _ _) ?_; clear S a w; intro a w S
  refine s_move S rfl rfl ?_; clear S a; intro a S
  refine s_extract S rfl rfl rfl rfl ?_; clear S a; intro a S
  refine s_extract S rfl rfl rfl rfl ?_; clear S a; intro a S
  refine s_assign S rfl rfl ?_; clear S a; intro a S
  refine s_assign S rfl rfl ?_; clear S a; intro a S
  refine c_end ?_
  refine c_region ?_
  refine s_move S rfl rfl ?_; clear S a; intro a S
  refine s_bin S rfl rfl rfl rfl ?_; clear S a; intro a S
  refine s_move S rfl rfl ?_; clear S a; intro a S
  rcases ite_of h2 with ⟨c1, h3⟩ | ⟨c1, h3⟩ <;> clear h2
  · refine s_gT S (b := (t1.1 == 22100)) rfl rfl c1 ?_
    refine s_move S rfl rfl ?_; clear S a; intro a S
    refine s_gT S (b := (t1.1 == 22100)) rfl rfl c1 ?_
    refine s_bin S rfl rfl rfl rfl ?_; clear S a; intro a S
    refine s_pick S (b := true) (hc_of rfl c1) rfl rfl ?_; clear S a; intro a S
    refine s_move S rfl rfl ?_; clear S a; intro a S
    rcases ite_of h3 with ⟨c2, h4⟩ | ⟨c2, h4⟩ <;> clear h3
    · refine s_gT S (b := (t1.2 == 0)) rfl rfl c2 ?_
      refine s_move S rfl rfl ?_; clear S a; intro a S
      refine s_gT S (b := (t1.2 == 0)) rfl rfl c2 ?_
      refine s_bin S rfl rfl rfl rfl ?_; clear S a; intro a S
      refine s_pick S (b := true) (hc_of rfl c2) rfl rfl ?_; clear S a; intro a S
      refine s_move S rfl rfl ?_; clear S a; intro a S
      rcases ite_of h4 with ⟨c3, h5⟩ | ⟨c3, h5⟩ <;> clear h4
      · refine s_gT S (b := (t2.1 == 2900)) rfl rfl c3 ?_
        refine s_move S rfl rfl ?_; clear S a; intro a S
        refine s_gT S (b := (t2.1 == 2900)) rfl rfl c3 ?_
        refine s_bin S rfl rfl rfl rfl ?_; clear S a; intro a S
        refine s_pick S (b := true) (hc_of rfl c3) rfl rfl ?_; clear S a; intro a S
        refine s_move S rfl rfl ?_; clear S a; intro a S
        rcases ite_of h5 with ⟨c4, h6⟩ | ⟨c4, h6⟩ <;> clear h5
        · refine s_gT S (b := (t2.2 == 4800)) rfl rfl c4 ?_
          obtain ⟨t3, et3, h7⟩ := bind_of h6; clear h6
          refine s_call S (ds := [(.v (.int .u64 6400))]) (d := (.v (.int .u64 t3))) N12 rfl rfl (gas_Part.ok 6400 t3 et3 _ _) ?_; clear S a w; intro a w S
          refine s_gT S (b := (t2.2 == 4800)) rfl rfl c4 ?_
          refine s_bin S rfl rfl rfl rfl ?_; clear S a; intro a S
          refine s_pick S (b := true) (hc_of rfl c4) rfl rfl ?_; clear S a; intro a S
          refine s_move S rfl rfl ?_; clear S a; intro a S
          rcases ite_of h7 with ⟨c5, h8⟩ | ⟨c5, h8⟩ <;> clear h7
          · refine s_gT S (b := (t3 == 6300)) rfl rfl c5 ?_
            obtain ⟨t4, et4, h9⟩ := bind_of h8; clear h8
            refine s_call S (ds := [(.v (.int .u64 100)), (.v (.int .u64 50))]) (d := (.v (.int .u64 t4))) N13 rfl rfl (gas_Refund.ok 100 50 t4 et4 _ _) ?_; clear S a w; intro a w S
            refine s_gT S (b := (t3 == 6300)) rfl rfl c5 ?_
            refine s_bin S rfl rfl rfl rfl ?_; clear S a; intro a S
            refine s_pick S (b := true) (hc_of rfl c5) rfl rfl ?_; clear S a; intro a S
            refine s_assign S rfl rfl ?_; clear S a; intro a S
            refine c_end ?_
            refine wp_ret ?_
            obtain rfl := Option.some.inj h9
            exact b_ret1 (d := (.v (.bool (t4 == 20)))) S rfl rfl fun ok => ⟨rfl, ok, S.below⟩
          · refine s_gF S (b := (t3 == 6300)) rfl rfl c5 rfl ?_; clear S a; intro a S
            refine s_gF S (b := (t3 == 6300)) rfl rfl c5 rfl ?_; clear S a; intro a S
            refine s_pick S (b := false) (hc_of rfl c5) rfl rfl ?_; clear S a; intro a S
            refine s_assign S rfl rfl ?_; clear S a; intro a S
            refine c_end ?_
            refine wp_ret ?_
            obtain rfl := Option.some.inj h8
            exact b_ret1 (d := (.v (.bool false))) S rfl rfl fun ok => ⟨rfl, ok, S.below⟩
        · refine s_gF S (b := (t2.2 == 4800)) rfl rfl c4 rfl ?_; clear S a; intro a S
          refine s_gF S (b := (t2.2 == 4800)) rfl rfl c4 rfl ?_; clear S a; intro a S
          refine s_pick S (b := false) (hc_of rfl c4) rfl rfl ?_; clear S a; intro a S
          refine s_move S rfl rfl ?_; clear S a; intro a S
          refine s_gF S (b := false) rfl rfl rfl rfl ?_; clear S a; intro a S
          refine s_gF S (b := false) rfl rfl rfl rfl ?_; clear S a; intro a S
          refine s_pick S (b := false) (hc_of rfl rfl) rfl rfl ?_; clear S a; intro a S
          refine s_assign S rfl rfl ?_; clear S a; intro a S
          refine c_end ?_
          refine wp_ret ?_
          obtain rfl := Option.some.inj h6
          exact b_ret1 (d := (.v (.bool false))) S rfl rfl fun ok => ⟨rfl, ok, S.below⟩
      · refine s_gF S (b := (t2.1 == 2900)) rfl rfl c3 rfl ?_; clear S a; intro a S
        refine s_gF S (b := (t2.1 == 2900)) rfl rfl c3 rfl ?_; clear S a; intro a S
        refine s_pick S (b := false) (hc_of rfl c3) rfl rfl ?_; clear S a; intro a S
        refine s_move S rfl rfl ?_; clear S a; intro a S
        refine s_gF S (b := false) rfl rfl rfl rfl ?_; clear S a; intro a S
        refine s_gF S (b := false) rfl rfl rfl rfl ?_; clear S a; intro a S
        refine s_pick S (b := false) (hc_of rfl rfl) rfl rfl ?_; clear S a; intro a S
        refine s_move S rfl rfl ?_; clear S a; intro a S
        refine s_gF S (b := false) rfl rfl rfl rfl ?_; clear S a; intro a S
        refine s_gF S (b := false) rfl rfl rfl rfl ?_; clear S a; intro a S
        refine s_pick S (b := false) (hc_of rfl rfl) rfl rfl ?_; clear S a; intro a S
        refine s_assign S rfl rfl ?_; clear S a; intro a S
        refine c_end ?_
        refine wp_ret ?_
        obtain rfl := Option.some.inj h5
        exact b_ret1 (d := (.v (.bool false))) S rfl rfl fun ok => ⟨rfl, ok, S.below⟩
    · refine s_gF S (b := (t1.2 == 0)) rfl rfl c2 rfl ?_; clear S a; intro a S
      refine s_gF S (b := (t1.2 == 0)) rfl rfl c2 rfl ?_; clear S a; intro a S
      refine s_pick S (b := false) (hc_of rfl c2) rfl rfl ?_; clear S a; intro a S
      refine s_move S rfl rfl ?_; clear S a; intro a S
      refine s_gF S (b := false) rfl rfl rfl rfl ?_; clear S a; intro a S
      refine s_gF S (b := false) rfl rfl rfl rfl ?_; clear S a; intro a S
      refine s_pick S (b := false) (hc_of rfl rfl) rfl rfl ?_; clear S a; intro a S
      refine s_move S rfl rfl ?_; clear S a; intro a S
      refine s_gF S (b := false) rfl rfl rfl rfl ?_; clear S a; intro a S
      refine s_gF S (b := false) rfl rfl rfl rfl ?_; clear S a; intro a S
      refine s_pick S (b := false) (hc_of rfl rfl) rfl rfl ?_; clear S a; intro a S
      refine s_move S rfl rfl ?_; clear S a; intro a S
      refine s_gF S (b := false) rfl rfl rfl rfl ?_; clear S a; intro a S
      refine s_gF S (b := false) rfl rfl rfl rfl ?_; clear S a; intro a S
      refine s_pick S (b := false) (hc_of rfl rfl) rfl rfl ?_; clear S a; intro a S
      refine s_assign S rfl rfl ?_; clear S a; intro a S
      refine c_end ?_
      refine wp_ret ?_
      obtain rfl := Option.some.inj h4
      exact b_ret1 (d := (.v (.bool false))) S rfl rfl fun ok => ⟨rfl, ok, S.below⟩
  · refine s_gF S (b := (t1.1 == 22100)) rfl rfl c1 rfl ?_; clear S a; intro a S
    refine s_gF S (b := (t1.1 == 22100)) rfl rfl c1 rfl ?_; clear S a; intro a S
    refine s_pick S (b := false) (hc_of rfl c1) rfl rfl ?_; clear S a; intro a S
    refine s_move S rfl rfl ?_; clear S a; intro a S
    refine s_gF S (b := false) rfl rfl rfl rfl ?_; clear S a; intro a S
    refine s_gF S (b := false) rfl rfl rfl rfl ?_; clear S a; intro a S
    refine s_pick S (b := false) (hc_of rfl rfl) rfl rfl ?_; clear S a; intro a S
    refine s_move S rfl rfl ?_; clear S a; intro a S
    refine s_gF S (b := false) rfl rfl rfl rfl ?_; clear S a; intro a S
    refine s_gF S (b := false) rfl rfl rfl rfl ?_; clear S a; intro a S
    refine s_pick S (b := false) (hc_of rfl rfl) rfl rfl ?_; clear S a; intro a S
    refine s_move S rfl rfl ?_; clear S a; intro a S
    refine s_gF S (b := false) rfl rfl rfl rfl ?_; clear S a; intro a S
    refine s_gF S (b := false) rfl rfl rfl rfl ?_; clear S a; intro a S
    refine s_pick S (b := false) (hc_of rfl rfl) rfl rfl ?_; clear S a; intro a S
    refine s_move S rfl rfl ?_; clear S a; intro a S
    refine s_gF S (b := false) rfl rfl rfl rfl ?_; clear S a; intro a S
    refine s_gF S (b := false) rfl rfl rfl rfl ?_; clear S a; intro a S
    refine s_pick S (b := false) (hc_of rfl rfl) rfl rfl ?_; clear S a; intro a S
    refine s_assign S rfl rfl ?_; clear S a; intro a S
    refine c_end ?_
    refine wp_ret ?_
    obtain rfl := Option.some.inj h3
    exact b_ret1 (d := (.v (.bool false))) S rfl rfl fun ok => ⟨rfl, ok, S.below⟩
/-! smithy/smithylaw12.GasStores -/
def smithylaw12_GasStores.f (x1 : List Int) (x2 : List Int) (x3 : List Int) (x4 : Bool) : Option Bool := (gas_Sstore.f x1 x2 x3 x4).bind fun t1 => ((smithyref12_Sstore.f x1 x2 x3 x4).bind fun t2 => ((smithylaw12_fixed.f).bind fun t3 => (if t3 = true then (if (t1.1 == t2.1) = true then (some (t1.2 == t2.2)) else (some false)) else (some false))))
theorem smithylaw12_GasStores.ok (x1 : List Int) (x2 : List Int) (x3 : List Int) (x4 : Bool) (r : Bool) (h0 : smithylaw12_GasStores.f x1 x2 x3 x4 = some r) (mi : Mem) (w0 : World) : okL mi [(.agg [.ints .u64 x1 4]), (.agg [.ints .u64 x2 4]), (.agg [.ints .u64 x3 4]), (.v (.bool x4))] → Frz mi w0 → Calls Try.prog 3 (([(.agg [.ints .u64 x1 4]), (.agg [.ints .u64 x2 4]), (.agg [.ints .u64 x3 4]), (.v (.bool x4))] : List D).map D.val).toArray w0 (Ret mi (.v (.bool r)) w0) := by
  intro ok hm
  delta smithylaw12_GasStores.f at h0
  refine c_enter (n := 40) [(.agg [.ints .u64 x1 4]), (.agg [.ints .u64 x2 4]), (.agg [.ints .u64 x3 4]), (.v (.bool x4))] (l := [(0, (.agg [.ints .u64 x1 4])), (1, (.agg [.ints .u64 x2 4])), (2, (.agg [.ints .u64 x3 4])), (3, (.v (.bool x4)))]) Try.func3 rfl rfl rfl rfl ok hm ?_
  clear ok hm
  intro a S
  refine c_region ?_
  refine s_box S rfl rfl rfl ?_; clear S a; intro g1 a w S
  refine s_box S rfl rfl rfl ?_; clear S a w; intro g2 a w S
  refine s_box S rfl rfl rfl ?_; clear S a w; intro g3 a w S
  refine s_assign S rfl rfl ?_; clear S a; intro a S
  refine c_end ?_
  refine c_region ?_
  refine s_loada S rfl (.there (.there .here)) T24 (s' := [.ints .u64 x1 4]) rfl rfl ?_; clear S a; intro a S
  refine s_loada S rfl (.there .here) T24 (s' := [.ints .u64 x2 4]) rfl rfl ?_; clear S a; intro a S
  refine s_loada S rfl .here T24 (s' := [.ints .u64 x3 4]) rfl rfl ?_; clear S a; intro a S
  refine s_move S rfl rfl ?_; clear S a; intro a S
  obtain ⟨t1, et1, h1⟩ := bind_of h0; clear h0
  refine s_call S (ds := [(.agg [.ints .u64 x1 4]), (.agg [.ints .u64 x2 4]), (.agg [.ints .u64 x3 4]), (.v (.bool x4))]) (d := (.tup [(false, [.one (.int .u64 t1.1)]), (false, [.one (.int .i64 t1.2)])])) N9 rfl rfl (gas_Sstore.ok x1 x2 x3 x4 t1 et1 _ _) ?_; clear S a w; intro a w S
  refine s_move S rfl rfl ?_; clear S a; intro a S
  refine s_extract S rfl rfl rfl rfl ?_; clear S a; intro a S
  refine s_extract S rfl rfl rfl rfl ?_; clear S a; intro a S
  refine s_assign S rfl rfl ?_; clear S a; intro a S
  refine s_assign S rfl rfl ?_; clear S a; intro a S
  refine c_end ?_
  refine c_region ?_
  refine s_loada S rfl (.there (.there .here)) T24 (s' := [.ints .u64 x1 4]) rfl rfl ?_; clear S a; intro a S
  refine s_loada S rfl (.there .here) T24 (s' := [.ints .u64 x2 4]) rfl rfl ?_; clear S a; intro a S
  refine s_loada S rfl .here T24 (s' := [.ints .u64 x3 4]) rfl rfl ?_; clear S a; intro a S
  refine s_move S rfl rfl ?_; clear S a; intro a S
  obtain ⟨t2, et2, h2⟩ := bind_of h1; clear h1
  refine s_call S (ds := [(.agg [.ints .u64 x1 4]), (.agg [.ints .u64 x2 4]), (.agg [.ints .u64 x3 4]), (.v (.bool x4))]) (d := (.tup [(false, [.one (.int .u64 t2.1)]), (false, [.one (.int .i64 t2.2)])])) N10 rfl rfl (smithyref12_Sstore.ok x1 x2 x3 x4 t2 et2 _ _) ?_; clear S a w; intro a w S
  refine s_move S rfl rfl ?_; clear S a; intro a S
  refine s_extract S rfl rfl rfl rfl ?_; clear S a; intro a S
  refine s_extract S rfl rfl rfl rfl ?_; clear S a; intro a S
  refine s_assign S rfl rfl ?_; clear S a; intro a S
  refine s_assign S rfl rfl ?_; clear S a; intro a S
  refine c_end ?_
  refine c_region ?_
  obtain ⟨t3, et3, h3⟩ := bind_of h2; clear h2
  refine s_call S (ds := []) (d := (.v (.bool t3))) N11 rfl rfl (smithylaw12_fixed.ok t3 et3 _ _) ?_; clear S a w; intro a w S
  refine s_move S rfl rfl ?_; clear S a; intro a S
  rcases ite_of h3 with ⟨c1, h4⟩ | ⟨c1, h4⟩ <;> clear h3
  · refine s_gT S (b := t3) rfl rfl c1 ?_
    refine s_move S rfl rfl ?_; clear S a; intro a S
    refine s_gT S (b := t3) rfl rfl c1 ?_
    refine s_move S rfl rfl ?_; clear S a; intro a S
    refine s_gT S (b := t3) rfl rfl c1 ?_
    refine s_bin S rfl rfl rfl rfl ?_; clear S a; intro a S
    refine s_pick S (b := true) (hc_of rfl c1) rfl rfl ?_; clear S a; intro a S
    refine s_move S rfl rfl ?_; clear S a; intro a S
    rcases ite_of h4 with ⟨c2, h5⟩ | ⟨c2, h5⟩ <;> clear h4
    · refine s_gT S (b := (t1.1 == t2.1)) rfl rfl c2 ?_
      refine s_move S rfl rfl ?_; clear S a; intro a S
      refine s_gT S (b := (t1.1 == t2.1)) rfl rfl c2 ?_
      refine s_move S rfl rfl ?_; clear S a; intro a S
      refine s_gT S (b := (t1.1 == t2.1)) rfl rfl c2 ?_
      refine s_bin S rfl rfl rfl rfl ?_; clear S a; intro a S
      refine s_pick S (b := true) (hc_of rfl c2) rfl rfl ?_; clear S a; intro a S
      refine s_assign S rfl rfl ?_; clear S a; intro a S
      refine c_end ?_
      refine wp_ret ?_
      obtain rfl := Option.some.inj h5
      exact b_ret1 (d := (.v (.bool (t1.2 == t2.2)))) S rfl rfl fun ok => ⟨rfl, ok, S.below⟩
    · refine s_gF S (b := (t1.1 == t2.1)) rfl rfl c2 rfl ?_; clear S a; intro a S
      refine s_gF S (b := (t1.1 == t2.1)) rfl rfl c2 rfl ?_; clear S a; intro a S
      refine s_gF S (b := (t1.1 == t2.1)) rfl rfl c2 rfl ?_; clear S a; intro a S
      refine s_pick S (b := false) (hc_of rfl c2) rfl rfl ?_; clear S a; intro a S
      refine s_assign S rfl rfl ?_; clear S a; intro a S
      refine c_end ?_
      refine wp_ret ?_
      obtain rfl := Option.some.inj h5
      exact b_ret1 (d := (.v (.bool false))) S rfl rfl fun ok => ⟨rfl, ok, S.below⟩
  · refine s_gF S (b := t3) rfl rfl c1 rfl ?_; clear S a; intro a S
    refine s_gF S (b := t3) rfl rfl c1 rfl ?_; clear S a; intro a S
    refine s_gF S (b := t3) rfl rfl c1 rfl ?_; clear S a; intro a S
    refine s_pick S (b := false) (hc_of rfl c1) rfl rfl ?_; clear S a; intro a S
    refine s_move S rfl rfl ?_; clear S a; intro a S
    refine s_gF S (b := false) rfl rfl rfl rfl ?_; clear S a; intro a S
    refine s_gF S (b := false) rfl rfl rfl rfl ?_; clear S a; intro a S
    refine s_gF S (b := false) rfl rfl rfl rfl ?_; clear S a; intro a S
    refine s_pick S (b := false) (hc_of rfl rfl) rfl rfl ?_; clear S a; intro a S
    refine s_assign S rfl rfl ?_; clear S a; intro a S
    refine c_end ?_
    refine wp_ret ?_
    obtain rfl := Option.some.inj h4
    exact b_ret1 (d := (.v (.bool false))) S rfl rfl fun ok => ⟨rfl, ok, S.below⟩
/-! smithy/smithylaw12.GasNever -/
def smithylaw12_GasNever.j1 (x1 : List Int) (x2 : List (List Int)) (y1 : Int) (y2 : Int) (y3 : List Int) : Option Bool := (smithylaw12_fixed.f).bind fun t2 => (if t2 = true then (if (!(decide (y3 = x1))) = true then (some true) else (if (((x2).length : Int) == 0) = true then (some true) else (some (decide (y2 < (wr .i64 y1)))))) else (some false))
def smithylaw12_GasNever.b1 (x1 : List Int) (x2 : List (List Int)) (rec1 : Int → Int → Int → (List Int) → Option Bool) (y8 : Int) (y9 : Int) (y10 : Int) (y11 : List Int) : Option Bool := if (decide (y8 < ((x2).length : Int))) = true then (if 0 ≤ y8 ∧ y8 < ((x2).length : Int) then ((gas_Sstore.f x1 y11 (gt x2 y8) false).bind fun t5 => (if (decide ((wr .i64 (y10 + t5.2)) < 0)) = true then (some false) else (rec1 (wr .i64 (y8 + 1)) (wr .u64 (y9 + t5.1)) (wr .i64 (y10 + t5.2)) (gt x2 y8)))) else none) else (smithylaw12_GasNever.j1 x1 x2 y9 y10 y11)
def smithylaw12_GasNever.l1 (x1 : List Int) (x2 : List (List Int)) : Nat → Int → Int → Int → (List Int) → Option Bool
  | 0, _, _, _, _ => none
  | q + 1, y8, y9, y10, y11 => smithylaw12_GasNever.b1 x1 x2 (smithylaw12_GasNever.l1 x1 x2 q) y8 y9 y10 y11
def smithylaw12_GasNever.f (k : Nat) (x1 : List Int) (x2 : List (List Int)) : Option Bool := if (decide (500 < ((x2).length : Int))) = true then ((smithylaw12_fixed.f).bind fun t1 => (some t1)) else (smithylaw12_GasNever.l1 x1 x2 k 0 0 0 x1)
theorem smithylaw12_GasNever.ok (k : Nat) (x1 : List Int) (x2 : List (List Int)) (ch_x2 : Option Addr × Nat) (r : Bool) (h0 : smithylaw12_GasNever.f k x1 x2 = some r) (mi : Mem) (w0 : World) : okL mi [(.agg [.ints .u64 x1 4]), (.sl ch_x2.1 (x2).length ch_x2.2 (RdS (Ty.arr .u64 4) ch_x2.1 x2))] → Frz mi w0 → Calls Try.prog 4 (([(.agg [.ints .u64 x1 4]), (.sl ch_x2.1 (x2).length ch_x2.2 (RdS (Ty.arr .u64 4) ch_x2.1 x2))] : List D).map D.val).toArray w0 (Ret mi (.v (.bool r)) w0) := by
  intro ok hm
  delta smithylaw12_GasNever.f at h0
  refine c_enter (n := 57) [(.agg [.ints .u64 x1 4]), (.sl ch_x2.1 (x2).length ch_x2.2 (RdS (Ty.arr .u64 4) ch_x2.1 x2))] (l := [(0, (.agg [.ints .u64 x1 4])), (1, (.sl ch_x2.1 (x2).length ch_x2.2 (RdS (Ty.arr .u64 4) ch_x2.1 x2)))]) Try.func4 rfl rfl rfl rfl ok hm ?_
  clear ok hm
  intro a S
  refine c_region ?_
  refine s_box S rfl rfl rfl ?_; clear S a; intro g1 a w S
  refine s_assign S rfl rfl ?_; clear S a; intro a S
  refine c_end ?_
  refine wp_seq ?_
  refine c_region ?_
  refine s_move S rfl rfl ?_; clear S a; intro a S
  refine s_lenS S rfl Try.underlying29 rfl ?_; clear S a; intro a S
  refine s_bin S rfl rfl rfl rfl ?_; clear S a; intro a S
  refine c_end ?_
  rcases ite_of h0 with ⟨c1, h1⟩ | ⟨c1, h1⟩ <;> clear h0
  · refine c_condT S rfl c1 ?_
    refine c_region ?_
    obtain ⟨t1, et1, h2⟩ := bind_of h1; clear h1
    refine s_call S (ds := []) (d := (.v (.bool t1))) N11 rfl rfl (smithylaw12_fixed.ok t1 et1 _ _) ?_; clear S a w; intro a w S
    refine s_assign S rfl rfl ?_; clear S a; intro a S
    refine c_end ?_
    refine wp_ret ?_
    refine x_thenR ?_
    obtain rfl := Option.some.inj h2
    exact b_ret1 (d := (.v (.bool t1))) S rfl rfl fun ok => ⟨rfl, ok, S.below⟩
  · refine c_condF S rfl c1 ?_
    refine wp_skip ?_
    refine x_thenN ?_
    refine c_region ?_
    refine s_loada S rfl .here T24 (s' := [.ints .u64 x1 4]) rfl rfl ?_; clear S a; intro a S
    refine s_alloc S Z24 rfl ⟨rfl, trivial⟩ rfl ?_; clear S a w; intro g2 a w S
    refine s_store S rfl rfl rfl (s' := [.ints .u64 x1 4]) .here T24 rfl rfl ?_; clear S w; intro w S
    refine c_end ?_
    refine c_region ?_
    refine s_assign S rfl rfl ?_; clear S a; intro a S
    refine s_assign S rfl rfl ?_; clear S a; intro a S
    refine c_end ?_
    refine wp_seq_k ?_
    intro K1 hK1
    have j1 : ∀ (m : Mem) (y1 : Int) (y2 : Int) (g3 : Nat) (g4 : Nat) (y3 : List Int) (a : Act) (w : World), St 57 m ⟨mi, w0⟩ [(7, (.v (.int .u64 y1))), (6, (.v (.int .i64 y2))), (5, (.v (.pointer (some ⟨g3, 0, none⟩)))), (2, (.v (.pointer (some ⟨g4, 0, none⟩)))), (1, (.sl ch_x2.1 (x2).length ch_x2.2 (RdS (Ty.arr .u64 4) ch_x2.1 x2)))] [Res.cells g3 24 [.ints .u64 y3 4], Res.cells g4 24 [.ints .u64 x1 4]] a w → smithylaw12_GasNever.j1 x1 x2 y1 y2 y3 = some r → K1 a w := by
      intro m y1 y2 g3 g4 y3 a w S h0
      delta smithylaw12_GasNever.j1 at h0
      refine hK1 a w ?_
      refine c_region ?_
      obtain ⟨t2, et2, h1⟩ := bind_of h0; clear h0
      refine s_call S (ds := []) (d := (.v (.bool t2))) N11 rfl rfl (smithylaw12_fixed.ok t2 et2 _ _) ?_; clear S a w; intro a w S
      refine s_move S rfl rfl ?_; clear S a; intro a S
      rcases ite_of h1 with ⟨c2, h2⟩ | ⟨c2, h2⟩ <;> clear h1
      · refine s_gT S (b := t2) rfl rfl c2 ?_
        refine s_loada S rfl .here T24 (s' := [.ints .u64 y3 4]) rfl rfl ?_; clear S a; intro a S
        refine s_gT S (b := t2) rfl rfl c2 ?_
        refine s_loada S rfl (.there .here) T24 (s' := [.ints .u64 x1 4]) rfl rfl ?_; clear S a; intro a S
        refine s_gT S (b := t2) rfl rfl c2 ?_
        refine s_nea S rfl rfl Try.underlying24 Try.underlying22 T22 Q24 rfl ?_; clear S a; intro a S
        refine s_gT S (b := t2) rfl rfl c2 ?_
        refine s_move S rfl rfl ?_; clear S a; intro a S
        rcases ite_of h2 with ⟨c3, h3⟩ | ⟨c3, h3⟩ <;> clear h2
        · refine s_gF S (b := (!(decide (y3 = x1)))) rfl rfl c3 rfl ?_; clear S a; intro a S
          refine s_gF S (b := (!(decide (y3 = x1)))) rfl rfl c3 rfl ?_; clear S a; intro a S
          refine s_gF S (b := (!(decide (y3 = x1)))) rfl rfl c3 rfl ?_; clear S a; intro a S
          refine s_gT S (b := t2) rfl rfl c2 ?_
          refine s_pick S (b := true) (hc_of rfl c3) rfl rfl ?_; clear S a; intro a S
          refine s_gT S (b := t2) rfl rfl c2 ?_
          refine s_move S rfl rfl ?_; clear S a; intro a S
          refine s_gF S (b := true) rfl rfl rfl rfl ?_; clear S a; intro a S
          refine s_gF S (b := true) rfl rfl rfl rfl ?_; clear S a; intro a S
          refine s_gF S (b := true) rfl rfl rfl rfl ?_; clear S a; intro a S
          refine s_gF S (b := true) rfl rfl rfl rfl ?_; clear S a; intro a S
          refine s_gT S (b := t2) rfl rfl c2 ?_
          refine s_pick S (b := true) (hc_of rfl rfl) rfl rfl ?_; clear S a; intro a S
          refine s_pick S (b := true) (hc_of rfl c2) rfl rfl ?_; clear S a; intro a S
          refine s_assign S rfl rfl ?_; clear S a; intro a S
          refine c_end ?_
          refine wp_ret ?_
          obtain rfl := Option.some.inj h3
          exact b_ret1 (d := (.v (.bool true))) S rfl rfl fun ok => ⟨rfl, ok, S.below⟩
        · refine s_gT S (b := (!(decide (y3 = x1)))) rfl rfl c3 ?_
          refine s_move S rfl rfl ?_; clear S a; intro a S
          refine s_gT S (b := (!(decide (y3 = x1)))) rfl rfl c3 ?_
          refine s_lenS S rfl Try.underlying29 rfl ?_; clear S a; intro a S
          refine s_gT S (b := (!(decide (y3 = x1)))) rfl rfl c3 ?_
          refine s_bin S rfl rfl rfl rfl ?_; clear S a; intro a S
          refine s_gT S (b := t2) rfl rfl c2 ?_
          refine s_pick S (b := false) (hc_of rfl c3) rfl rfl ?_; clear S a; intro a S
          refine s_gT S (b := t2) rfl rfl c2 ?_
          refine s_move S rfl rfl ?_; clear S a; intro a S
          rcases ite_of h3 with ⟨c4, h4⟩ | ⟨c4, h4⟩ <;> clear h3
          · refine s_gF S (b := (((x2).length : Int) == 0)) rfl rfl c4 rfl ?_; clear S a; intro a S
            refine s_gF S (b := (((x2).length : Int) == 0)) rfl rfl c4 rfl ?_; clear S a; intro a S
            refine s_gF S (b := (((x2).length : Int) == 0)) rfl rfl c4 rfl ?_; clear S a; intro a S
            refine s_gF S (b := (((x2).length : Int) == 0)) rfl rfl c4 rfl ?_; clear S a; intro a S
            refine s_gT S (b := t2) rfl rfl c2 ?_
            refine s_pick S (b := true) (hc_of rfl c4) rfl rfl ?_; clear S a; intro a S
            refine s_pick S (b := true) (hc_of rfl c2) rfl rfl ?_; clear S a; intro a S
            refine s_assign S rfl rfl ?_; clear S a; intro a S
            refine c_end ?_
            refine wp_ret ?_
            obtain rfl := Option.some.inj h4
            exact b_ret1 (d := (.v (.bool true))) S rfl rfl fun ok => ⟨rfl, ok, S.below⟩
          · refine s_gT S (b := (((x2).length : Int) == 0)) rfl rfl c4 ?_
            refine s_move S rfl rfl ?_; clear S a; intro a S
            refine s_gT S (b := (((x2).length : Int) == 0)) rfl rfl c4 ?_
            refine s_move S rfl rfl ?_; clear S a; intro a S
            refine s_gT S (b := (((x2).length : Int) == 0)) rfl rfl c4 ?_
            refine s_conv S rfl rfl Try.underlying2 rfl ?_; clear S a; intro a S
            refine s_gT S (b := (((x2).length : Int) == 0)) rfl rfl c4 ?_
            refine s_bin S rfl rfl rfl rfl ?_; clear S a; intro a S
            refine s_gT S (b := t2) rfl rfl c2 ?_
            refine s_pick S (b := false) (hc_of rfl c4) rfl rfl ?_; clear S a; intro a S
            refine s_pick S (b := true) (hc_of rfl c2) rfl rfl ?_; clear S a; intro a S
            refine s_assign S rfl rfl ?_; clear S a; intro a S
            refine c_end ?_
            refine wp_ret ?_
            obtain rfl := Option.some.inj h4
            exact b_ret1 (d := (.v (.bool (decide (y2 < (wr .i64 y1)))))) S rfl rfl fun ok => ⟨rfl, ok, S.below⟩
      · refine s_gF S (b := t2) rfl rfl c2 rfl ?_; clear S a; intro a S
        refine s_gF S (b := t2) rfl rfl c2 rfl ?_; clear S a; intro a S
        refine s_gF S (b := t2) rfl rfl c2 rfl ?_; clear S a; intro a S
        refine s_gF S (b := t2) rfl rfl c2 rfl ?_; clear S a; intro a S
        refine s_gU S rfl rfl rfl ?_; clear S a; intro a S
        refine s_gU S rfl rfl rfl ?_; clear S a; intro a S
        refine s_gU S rfl rfl rfl ?_; clear S a; intro a S
        refine s_gF S (b := t2) rfl rfl c2 rfl ?_; clear S a; intro a S
        refine s_gF S (b := t2) rfl rfl c2 rfl ?_; clear S a; intro a S
        refine s_gU S rfl rfl rfl ?_; clear S a; intro a S
        refine s_gU S rfl rfl rfl ?_; clear S a; intro a S
        refine s_gU S rfl rfl rfl ?_; clear S a; intro a S
        refine s_gU S rfl rfl rfl ?_; clear S a; intro a S
        refine s_gF S (b := t2) rfl rfl c2 rfl ?_; clear S a; intro a S
        refine s_pick S (b := false) (hc_of rfl c2) rfl rfl ?_; clear S a; intro a S
        refine s_assign S rfl rfl ?_; clear S a; intro a S
        refine c_end ?_
        refine wp_ret ?_
        obtain rfl := Option.some.inj h2
        exact b_ret1 (d := (.v (.bool false))) S rfl rfl fun ok => ⟨rfl, ok, S.below⟩
    refine c_region ?_
    refine s_move S rfl rfl ?_; clear S a; intro a S
    refine s_lenS S rfl Try.underlying29 rfl ?_; clear S a; intro a S
    refine s_move S rfl rfl ?_; clear S a; intro a S
    refine c_end ?_
    refine wp_block ?_
    refine c_loop (fun q1 a w => ∃ (m : Mem) (y8 : Int) (y9 : Int) (y10 : Int) (g11 : Nat) (g12 : Nat) (y11 : List Int), St 57 m ⟨mi, w0⟩ [(19, (.v (.int .i64 y8))), (18, (.v (.int .i64 ((x2).length : Int)))), (17, (.sl ch_x2.1 (x2).length ch_x2.2 (RdS (Ty.arr .u64 4) ch_x2.1 x2))), (7, (.v (.int .u64 y9))), (6, (.v (.int .i64 y10))), (5, (.v (.pointer (some ⟨g11, 0, none⟩)))), (2, (.v (.pointer (some ⟨g12, 0, none⟩)))), (1, (.sl ch_x2.1 (x2).length ch_x2.2 (RdS (Ty.arr .u64 4) ch_x2.1 x2)))] [Res.cells g11 24 [.ints .u64 y11 4], Res.cells g12 24 [.ints .u64 x1 4]] a w ∧ smithylaw12_GasNever.l1 x1 x2 q1 y8 y9 y10 y11 = some r) ?_ ?_ (k := k) ⟨_, 0, 0, 0, g2, g1, x1, (S.sub ⟨rfl, rfl, rfl, rfl, rfl, rfl, rfl, rfl, trivial⟩ (.cons .here (.cons .here .nil))), h1⟩
    · rintro a w ⟨m, y8, y9, y10, g11, g12, y11, S, h0⟩
      exact (nomatch (show (none : Option Bool) = some r from h0))
    · clear S h1
      rintro q1 a w ⟨m, y8, y9, y10, g11, g12, y11, S, h0⟩
      replace h0 : smithylaw12_GasNever.b1 x1 x2 (smithylaw12_GasNever.l1 x1 x2 q1) y8 y9 y10 y11 = some r := h0
      delta smithylaw12_GasNever.b1 at h0
      refine c_region ?_
      refine s_bin S rfl rfl rfl rfl ?_; clear S a; intro a S
      refine c_end ?_
      refine wp_seq ?_
      rcases ite_of h0 with ⟨c5, h1⟩ | ⟨c5, h1⟩ <;> clear h0
      · refine c_condT S rfl c5 ?_
        refine wp_skip ?_
        refine x_thenN ?_
        refine wp_seq ?_
        refine wp_block ?_
        refine c_region ?_
        obtain ⟨c6, h2⟩ := chk_of h1; clear h1
        refine s_iaddrS S rfl rfl rfl Try.underlying29 T24 c6.1 c6.2 rfl ?_; clear S a; intro p1 a S
        refine s_ldA S (fun c => [.ints .u64 (gt x2 y8) 4]) rfl T24 (fun _ => rfl) rfl ?_; clear S a; intro ch1 a S
        refine s_alloc S Z24 rfl ⟨rfl, trivial⟩ rfl ?_; clear S a w; intro g13 a w S
        refine s_store S rfl rfl rfl (s' := [.ints .u64 (gt x2 y8) 4]) .here T24 rfl rfl ?_; clear S w; intro w S
        refine c_end ?_
        refine c_region ?_
        refine s_loada S rfl (.there (.there .here)) T24 (s' := [.ints .u64 x1 4]) rfl rfl ?_; clear S a; intro a S
        refine s_loada S rfl (.there .here) T24 (s' := [.ints .u64 y11 4]) rfl rfl ?_; clear S a; intro a S
        refine s_loada S rfl .here T24 (s' := [.ints .u64 (gt x2 y8) 4]) rfl rfl ?_; clear S a; intro a S
        obtain ⟨t5, et5, h3⟩ := bind_of h2; clear h2
        refine s_call S (ds := [(.agg [.ints .u64 x1 4]), (.agg [.ints .u64 y11 4]), (.agg [.ints .u64 (gt x2 y8) 4]), (.v (.bool false))]) (d := (.tup [(false, [.one (.int .u64 t5.1)]), (false, [.one (.int .i64 t5.2)])])) N9 rfl rfl (gas_Sstore.ok x1 y11 (gt x2 y8) false t5 et5 _ _) ?_; clear S a w; intro a w S
        refine s_move S rfl rfl ?_; clear S a; intro a S
        refine s_extract S rfl rfl rfl rfl ?_; clear S a; intro a S
        refine s_extract S rfl rfl rfl rfl ?_; clear S a; intro a S
        refine s_assign S rfl rfl ?_; clear S a; intro a S
        refine s_assign S rfl rfl ?_; clear S a; intro a S
        refine c_end ?_
        refine c_region ?_
        refine s_move S rfl rfl ?_; clear S a; intro a S
        refine s_move S rfl rfl ?_; clear S a; intro a S
        refine s_bin S rfl rfl rfl rfl ?_; clear S a; intro a S
        refine s_assign S rfl rfl ?_; clear S a; intro a S
        refine c_end ?_
        refine c_region ?_
        refine s_move S rfl rfl ?_; clear S a; intro a S
        refine s_move S rfl rfl ?_; clear S a; intro a S
        refine s_bin S rfl rfl rfl rfl ?_; clear S a; intro a S
        refine s_assign S rfl rfl ?_; clear S a; intro a S
        refine c_end ?_
        refine wp_seq ?_
        refine c_region ?_
        refine s_move S rfl rfl ?_; clear S a; intro a S
        refine s_bin S rfl rfl rfl rfl ?_; clear S a; intro a S
        refine c_end ?_
        rcases ite_of h3 with ⟨c7, h4⟩ | ⟨c7, h4⟩ <;> clear h3
        · refine c_condT S rfl c7 ?_
          refine c_region ?_
          refine s_assign S rfl rfl ?_; clear S a; intro a S
          refine c_end ?_
          refine wp_ret ?_
          refine x_thenR ?_
          refine x_blockR ?_
          refine x_thenR ?_
          refine x_thenR ?_
          refine x_blockR ?_
          refine x_thenR ?_
          obtain rfl := Option.some.inj h4
          exact b_ret1 (d := (.v (.bool false))) S rfl rfl fun ok => ⟨rfl, ok, S.below⟩
        · refine c_condF S rfl c7 ?_
          refine wp_skip ?_
          refine x_thenN ?_
          refine c_region' ?_
          refine s_loada S rfl .here T24 (s' := [.ints .u64 (gt x2 y8) 4]) rfl rfl ?_; clear S a; intro a S
          refine s_store S rfl rfl rfl (s' := [.ints .u64 (gt x2 y8) 4]) (.there .here) T24 rfl rfl ?_; clear S w; intro w S
          refine c_end' ?_
          refine x_blockN ?_
          refine x_thenN ?_
          refine c_region' ?_
          refine s_bin S rfl rfl rfl rfl ?_; clear S a; intro a S
          refine s_move S rfl rfl ?_; clear S a; intro a S
          refine c_end' ?_
          refine x_thenN ?_
          exact ⟨_, (wr .i64 (y8 + 1)), (wr .u64 (y9 + t5.1)), (wr .i64 (y10 + t5.2)), g11, g12, (gt x2 y8), (S.sub ⟨rfl, rfl, rfl, rfl, rfl, rfl, rfl, rfl, trivial⟩ (.cons (.there .here) (.cons (.there .here) .nil))), h4⟩
      · refine c_condF S rfl c5 ?_
        refine wp_exit ?_
        refine x_thenX ?_
        refine x_thenX ?_
        refine x_blockX ?_
        refine x_thenN ?_
        exact j1 _ y9 y10 g11 g12 y11 a w (S.sub ⟨rfl, rfl, rfl, rfl, rfl, trivial⟩ (.cons .here (.cons .here .nil))) h1
/-! smithy/smithylaw12.GasParts -/
def smithylaw12_GasParts.j1 (x1 : Int) (x2 : Int) (t1 : Int) (t2 : Int) (y1 : Int) : Option Bool := (smithylaw12_fixed.f).bind fun t3 => (if t3 = true then (if (t1 == (wr .u64 (x1 - (wr .u64 (Int.tdiv x1 64))))) = true then (if (decide (t1 ≤ x1)) = true then (if (t2 == y1) = true then (some (decide (t2 ≤ x2))) else (some false)) else (some false)) else (some false)) else (some false))
def smithylaw12_GasParts.f (x1 : Int) (x2 : Int) (x3 : Int) : Option Bool := (gas_Part.f x1).bind fun t1 => ((gas_Refund.f x2 x3).bind fun t2 => (if (decide (x3 < (wr .u64 (Int.tdiv x2 5)))) = true then (smithylaw12_GasParts.j1 x1 x2 t1 t2 x3) else (smithylaw12_GasParts.j1 x1 x2 t1 t2 (wr .u64 (Int.tdiv x2 5)))))
theorem smithylaw12_GasParts.ok (x1 : Int) (x2 : Int) (x3 : Int) (r : Bool) (h0 : smithylaw12_GasParts.f x1 x2 x3 = some r) (mi : Mem) (w0 : World) : okL mi [(.v (.int .u64 x1)), (.v (.int .u64 x2)), (.v (.int .u64 x3))] → Frz mi w0 → Calls Try.prog 5 (([(.v (.int .u64 x1)), (.v (.int .u64 x2)), (.v (.int .u64 x3))] : List D).map D.val).toArray w0 (Ret mi (.v (.bool r)) w0) := by
  intro ok hm
  delta smithylaw12_GasParts.f at h0
  refine c_enter (n := 45) [(.v (.int .u64 x1)), (.v (.int .u64 x2)), (.v (.int .u64 x3))] (l := [(0, (.v (.int .u64 x1))), (1, (.v (.int .u64 x2))), (2, (.v (.int .u64 x3)))]) Try.func5 rfl rfl rfl rfl ok hm ?_
  clear ok hm
  intro a S
  refine c_region ?_
  refine s_assign S rfl rfl ?_; clear S a; intro a S
  refine c_end ?_
  refine c_region ?_
  refine s_move S rfl rfl ?_; clear S a; intro a S
  obtain ⟨t1, et1, h1⟩ := bind_of h0; clear h0
  refine s_call S (ds := [(.v (.int .u64 x1))]) (d := (.v (.int .u64 t1))) N12 rfl rfl (gas_Part.ok x1 t1 et1 _ _) ?_; clear S a; intro a w S
  refine s_move S rfl rfl ?_; clear S a; intro a S
  refine s_move S rfl rfl ?_; clear S a; intro a S
  obtain ⟨t2, et2, h2⟩ := bind_of h1; clear h1
  refine s_call S (ds := [(.v (.int .u64 x2)), (.v (.int .u64 x3))]) (d := (.v (.int .u64 t2))) N13 rfl rfl (gas_Refund.ok x2 x3 t2 et2 _ _) ?_; clear S a w; intro a w S
  refine s_assign S rfl rfl ?_; clear S a; intro a S
  refine s_assign S rfl rfl ?_; clear S a; intro a S
  refine c_end ?_
  refine c_region ?_
  refine s_move S rfl rfl ?_; clear S a; intro a S
  refine s_quo S rfl rfl (by decide) rfl ?_; clear S a; intro a S
  refine s_assign S rfl rfl ?_; clear S a; intro a S
  refine c_end ?_
  refine wp_seq_k ?_
  intro K1 hK1
  have j1 : ∀ (m : Mem) (y1 : Int) (a : Act) (w : World), St 45 m ⟨mi, w0⟩ [(9, (.v (.int .u64 y1))), (8, (.v (.int .u64 t2))), (7, (.v (.int .u64 t1))), (0, (.v (.int .u64 x1))), (1, (.v (.int .u64 x2)))] [] a w → smithylaw12_GasParts.j1 x1 x2 t1 t2 y1 = some r → K1 a w := by
    intro m y1 a w S h0
    delta smithylaw12_GasParts.j1 at h0
    refine hK1 a w ?_
    refine c_region ?_
    obtain ⟨t3, et3, h1⟩ := bind_of h0; clear h0
    refine s_call S (ds := []) (d := (.v (.bool t3))) N11 rfl rfl (smithylaw12_fixed.ok t3 et3 _ _) ?_; clear S a w; intro a w S
    refine s_move S rfl rfl ?_; clear S a; intro a S
    rcases ite_of h1 with ⟨c1, h2⟩ | ⟨c1, h2⟩ <;> clear h1
    · refine s_gT S (b := t3) rfl rfl c1 ?_
      refine s_move S rfl rfl ?_; clear S a; intro a S
      refine s_gT S (b := t3) rfl rfl c1 ?_
      refine s_move S rfl rfl ?_; clear S a; intro a S
      refine s_gT S (b := t3) rfl rfl c1 ?_
      refine s_move S rfl rfl ?_; clear S a; intro a S
      refine s_gT S (b := t3) rfl rfl c1 ?_
      refine s_quo S rfl rfl (by decide) rfl ?_; clear S a; intro a S
      refine s_gT S (b := t3) rfl rfl c1 ?_
      refine s_bin S rfl rfl rfl rfl ?_; clear S a; intro a S
      refine s_gT S (b := t3) rfl rfl c1 ?_
      refine s_bin S rfl rfl rfl rfl ?_; clear S a; intro a S
      refine s_pick S (b := true) (hc_of rfl c1) rfl rfl ?_; clear S a; intro a S
      refine s_move S rfl rfl ?_; clear S a; intro a S
      rcases ite_of h2 with ⟨c2, h3⟩ | ⟨c2, h3⟩ <;> clear h2
      · refine s_gT S (b := (t1 == (wr .u64 (x1 - (wr .u64 (Int.tdiv x1 64)))))) rfl rfl c2 ?_
        refine s_move S rfl rfl ?_; clear S a; intro a S
        refine s_gT S (b := (t1 == (wr .u64 (x1 - (wr .u64 (Int.tdiv x1 64)))))) rfl rfl c2 ?_
        refine s_move S rfl rfl ?_; clear S a; intro a S
        refine s_gT S (b := (t1 == (wr .u64 (x1 - (wr .u64 (Int.tdiv x1 64)))))) rfl rfl c2 ?_
        refine s_bin S rfl rfl rfl rfl ?_; clear S a; intro a S
        refine s_pick S (b := true) (hc_of rfl c2) rfl rfl ?_; clear S a; intro a S
        refine s_move S rfl rfl ?_; clear S a; intro a S
        rcases ite_of h3 with ⟨c3, h4⟩ | ⟨c3, h4⟩ <;> clear h3
        · refine s_gT S (b := (decide (t1 ≤ x1))) rfl rfl c3 ?_
          refine s_move S rfl rfl ?_; clear S a; intro a S
          refine s_gT S (b := (decide (t1 ≤ x1))) rfl rfl c3 ?_
          refine s_move S rfl rfl ?_; clear S a; intro a S
          refine s_gT S (b := (decide (t1 ≤ x1))) rfl rfl c3 ?_
          refine s_bin S rfl rfl rfl rfl ?_; clear S a; intro a S
          refine s_pick S (b := true) (hc_of rfl c3) rfl rfl ?_; clear S a; intro a S
          refine s_move S rfl rfl ?_; clear S a; intro a S
          rcases ite_of h4 with ⟨c4, h5⟩ | ⟨c4, h5⟩ <;> clear h4
          · refine s_gT S (b := (t2 == y1)) rfl rfl c4 ?_
            refine s_move S rfl rfl ?_; clear S a; intro a S
            refine s_gT S (b := (t2 == y1)) rfl rfl c4 ?_
            refine s_move S rfl rfl ?_; clear S a; intro a S
            refine s_gT S (b := (t2 == y1)) rfl rfl c4 ?_
            refine s_bin S rfl rfl rfl rfl ?_; clear S a; intro a S
            refine s_pick S (b := true) (hc_of rfl c4) rfl rfl ?_; clear S a; intro a S
            refine s_assign S rfl rfl ?_; clear S a; intro a S
            refine c_end ?_
            refine wp_ret ?_
            obtain rfl := Option.some.inj h5
            exact b_ret1 (d := (.v (.bool (decide (t2 ≤ x2))))) S rfl rfl fun ok => ⟨rfl, ok, S.below⟩
          · refine s_gF S (b := (t2 == y1)) rfl rfl c4 rfl ?_; clear S a; intro a S
            refine s_gF S (b := (t2 == y1)) rfl rfl c4 rfl ?_; clear S a; intro a S
            refine s_gF S (b := (t2 == y1)) rfl rfl c4 rfl ?_; clear S a; intro a S
            refine s_pick S (b := false) (hc_of rfl c4) rfl rfl ?_; clear S a; intro a S
            refine s_assign S rfl rfl ?_; clear S a; intro a S
            refine c_end ?_
            refine wp_ret ?_
            obtain rfl := Option.some.inj h5
            exact b_ret1 (d := (.v (.bool false))) S rfl rfl fun ok => ⟨rfl, ok, S.below⟩
        · refine s_gF S (b := (decide (t1 ≤ x1))) rfl rfl c3 rfl ?_; clear S a; intro a S
          refine s_gF S (b := (decide (t1 ≤ x1))) rfl rfl c3 rfl ?_; clear S a; intro a S
          refine s_gF S (b := (decide (t1 ≤ x1))) rfl rfl c3 rfl ?_; clear S a; intro a S
          refine s_pick S (b := false) (hc_of rfl c3) rfl rfl ?_; clear S a; intro a S
          refine s_move S rfl rfl ?_; clear S a; intro a S
          refine s_gF S (b := false) rfl rfl rfl rfl ?_; clear S a; intro a S
          refine s_gF S (b := false) rfl rfl rfl rfl ?_; clear S a; intro a S
          refine s_gF S (b := false) rfl rfl rfl rfl ?_; clear S a; intro a S
          refine s_pick S (b := false) (hc_of rfl rfl) rfl rfl ?_; clear S a; intro a S
          refine s_assign S rfl rfl ?_; clear S a; intro a S
          refine c_end ?_
          refine wp_ret ?_
          obtain rfl := Option.some.inj h4
          exact b_ret1 (d := (.v (.bool false))) S rfl rfl fun ok => ⟨rfl, ok, S.below⟩
      · refine s_gF S (b := (t1 == (wr .u64 (x1 - (wr .u64 (Int.tdiv x1 64)))))) rfl rfl c2 rfl ?_; clear S a; intro a S
        refine s_gF S (b := (t1 == (wr .u64 (x1 - (wr .u64 (Int.tdiv x1 64)))))) rfl rfl c2 rfl ?_; clear S a; intro a S
        refine s_gF S (b := (t1 == (wr .u64 (x1 - (wr .u64 (Int.tdiv x1 64)))))) rfl rfl c2 rfl ?_; clear S a; intro a S
        refine s_pick S (b := false) (hc_of rfl c2) rfl rfl ?_; clear S a; intro a S
        refine s_move S rfl rfl ?_; clear S a; intro a S
        refine s_gF S (b := false) rfl rfl rfl rfl ?_; clear S a; intro a S
        refine s_gF S (b := false) rfl rfl rfl rfl ?_; clear S a; intro a S
        refine s_gF S (b := false) rfl rfl rfl rfl ?_; clear S a; intro a S
        refine s_pick S (b := false) (hc_of rfl rfl) rfl rfl ?_; clear S a; intro a S
        refine s_move S rfl rfl ?_; clear S a; intro a S
        refine s_gF S (b := false) rfl rfl rfl rfl ?_; clear S a; intro a S
        refine s_gF S (b := false) rfl rfl rfl rfl ?_; clear S a; intro a S
        refine s_gF S (b := false) rfl rfl rfl rfl ?_; clear S a; intro a S
        refine s_pick S (b := false) (hc_of rfl rfl) rfl rfl ?_; clear S a; intro a S
        refine s_assign S rfl rfl ?_; clear S a; intro a S
        refine c_end ?_
        refine wp_ret ?_
        obtain rfl := Option.some.inj h3
        exact b_ret1 (d := (.v (.bool false))) S rfl rfl fun ok => ⟨rfl, ok, S.below⟩
    · refine s_gF S (b := t3) rfl rfl c1 rfl ?_; clear S a; intro a S
      refine s_gF S (b := t3) rfl rfl c1 rfl ?_; clear S a; intro a S
      refine s_gF S (b := t3) rfl rfl c1 rfl ?_; clear S a; intro a S
      refine s_gF S (b := t3) rfl rfl c1 rfl ?_; clear S a; intro a S
      refine s_gF S (b := t3) rfl rfl c1 rfl ?_; clear S a; intro a S
      refine s_gF S (b := t3) rfl rfl c1 rfl ?_; clear S a; intro a S
      refine s_pick S (b := false) (hc_of rfl c1) rfl rfl ?_; clear S a; intro a S
      refine s_move S rfl rfl ?_; clear S a; intro a S
      refine s_gF S (b := false) rfl rfl rfl rfl ?_; clear S a; intro a S
      refine s_gF S (b := false) rfl rfl rfl rfl ?_; clear S a; intro a S
      refine s_gF S (b := false) rfl rfl rfl rfl ?_; clear S a; intro a S
      refine s_pick S (b := false) (hc_of rfl rfl) rfl rfl ?_; clear S a; intro a S
      refine s_move S rfl rfl ?_; clear S a; intro a S
      refine s_gF S (b := false) rfl rfl rfl rfl ?_; clear S a; intro a S
      refine s_gF S (b := false) rfl rfl rfl rfl ?_; clear S a; intro a S
      refine s_gF S (b := false) rfl rfl rfl rfl ?_; clear S a; intro a S
      refine s_pick S (b := false) (hc_of rfl rfl) rfl rfl ?_; clear S a; intro a S
      refine s_move S rfl rfl ?_; clear S a; intro a S
      refine s_gF S (b := false) rfl rfl rfl rfl ?_; clear S a; intro a S
      refine s_gF S (b := false) rfl rfl rfl rfl ?_; clear S a; intro a S
      refine s_gF S (b := false) rfl rfl rfl rfl ?_; clear S a; intro a S
      refine s_pick S (b := false) (hc_of rfl rfl) rfl rfl ?_; clear S a; intro a S
      refine s_assign S rfl rfl ?_; clear S a; intro a S
      refine c_end ?_
      refine wp_ret ?_
      obtain rfl := Option.some.inj h2
      exact b_ret1 (d := (.v (.bool false))) S rfl rfl fun ok => ⟨rfl, ok, S.below⟩
  refine c_region ?_
  refine s_move S rfl rfl ?_; clear S a; intro a S
  refine s_move S rfl rfl ?_; clear S a; intro a S
  refine s_bin S rfl rfl rfl rfl ?_; clear S a; intro a S
  refine c_end ?_
  rcases ite_of h2 with ⟨c5, h3⟩ | ⟨c5, h3⟩ <;> clear h2
  · refine c_condT S rfl c5 ?_
    refine c_region' ?_
    refine s_move S rfl rfl ?_; clear S a; intro a S
    refine s_assign S rfl rfl ?_; clear S a; intro a S
    refine c_end' ?_
    refine x_thenN ?_
    exact j1 _ x3 a w (S.sub ⟨rfl, rfl, rfl, rfl, rfl, trivial⟩ .nil) h3
  · refine c_condF S rfl c5 ?_
    refine wp_skip ?_
    refine x_thenN ?_
    exact j1 _ (wr .u64 (Int.tdiv x2 5)) a w (S.sub ⟨rfl, rfl, rfl, rfl, rfl, trivial⟩ .nil) h3
/-! smithy/gas.Account -/
def gas_Account.f (x1 : Bool) : Option Int := (gas_either.f x1 2600 100).bind fun t1 => (some t1)
theorem gas_Account.ok (x1 : Bool) (r : Int) (h0 : gas_Account.f x1 = some r) (mi : Mem) (w0 : World) : okL mi [(.v (.bool x1))] → Frz mi w0 → Calls Try.prog 14 (([(.v (.bool x1))] : List D).map D.val).toArray w0 (Ret mi (.v (.int .u64 r)) w0) := by
  intro ok hm
  delta gas_Account.f at h0
  refine c_enter (n := 5) [(.v (.bool x1))] (l := [(0, (.v (.bool x1)))]) Try.func14 rfl rfl rfl rfl ok hm ?_
  clear ok hm
  intro a S
  refine c_region ?_
  refine s_assign S rfl rfl ?_; clear S a; intro a S
  refine c_end ?_
  refine c_region ?_
  refine s_move S rfl rfl ?_; clear S a; intro a S
  obtain ⟨t1, et1, h1⟩ := bind_of h0; clear h0
  refine s_call S (ds := [(.v (.bool x1)), (.v (.int .u64 2600)), (.v (.int .u64 100))]) (d := (.v (.int .u64 t1))) N28 rfl rfl (gas_either.ok x1 2600 100 t1 et1 _ _) ?_; clear S a; intro a w S
  refine s_assign S rfl rfl ?_; clear S a; intro a S
  refine c_end ?_
  refine wp_ret ?_
  obtain rfl := Option.some.inj h1
  exact b_ret1 (d := (.v (.int .u64 t1))) S rfl rfl fun ok => ⟨rfl, ok, S.below⟩
/-! smithy/gas.Sload -/
def gas_Sload.f (x1 : Bool) : Option Int := (gas_either.f x1 2100 100).bind fun t1 => (some t1)
theorem gas_Sload.ok (x1 : Bool) (r : Int) (h0 : gas_Sload.f x1 = some r) (mi : Mem) (w0 : World) : okL mi [(.v (.bool x1))] → Frz mi w0 → Calls Try.prog 15 (([(.v (.bool x1))] : List D).map D.val).toArray w0 (Ret mi (.v (.int .u64 r)) w0) := by
  intro ok hm
  delta gas_Sload.f at h0
  refine c_enter (n := 5) [(.v (.bool x1))] (l := [(0, (.v (.bool x1)))]) Try.func15 rfl rfl rfl rfl ok hm ?_
  clear ok hm
  intro a S
  refine c_region ?_
  refine s_assign S rfl rfl ?_; clear S a; intro a S
  refine c_end ?_
  refine c_region ?_
  refine s_move S rfl rfl ?_; clear S a; intro a S
  obtain ⟨t1, et1, h1⟩ := bind_of h0; clear h0
  refine s_call S (ds := [(.v (.bool x1)), (.v (.int .u64 2100)), (.v (.int .u64 100))]) (d := (.v (.int .u64 t1))) N28 rfl rfl (gas_either.ok x1 2100 100 t1 et1 _ _) ?_; clear S a; intro a w S
  refine s_assign S rfl rfl ?_; clear S a; intro a S
  refine c_end ?_
  refine wp_ret ?_
  obtain rfl := Option.some.inj h1
  exact b_ret1 (d := (.v (.int .u64 t1))) S rfl rfl fun ok => ⟨rfl, ok, S.below⟩
/-! smithy/gas.Call -/
def gas_Call.f (x1 : Bool) (x2 : Bool) (x3 : Bool) : Option Int := (gas_Account.f x1).bind fun t1 => ((gas_either.f x2 9000 0).bind fun t2 => (if x2 = true then ((gas_either.f x3 25000 0).bind fun t3 => (some (wr .u64 ((wr .u64 (t1 + t2)) + t3)))) else ((gas_either.f false 25000 0).bind fun t4 => (some (wr .u64 ((wr .u64 (t1 + t2)) + t4))))))
theorem gas_Call.ok (x1 : Bool) (x2 : Bool) (x3 : Bool) (r : Int) (h0 : gas_Call.f x1 x2 x3 = some r) (mi : Mem) (w0 : World) : okL mi [(.v (.bool x1)), (.v (.bool x2)), (.v (.bool x3))] → Frz mi w0 → Calls Try.prog 16 (([(.v (.bool x1)), (.v (.bool x2)), (.v (.bool x3))] : List D).map D.val).toArray w0 (Ret mi (.v (.int .u64 r)) w0) := by
  intro ok hm
  delta gas_Call.f at h0
  refine c_enter (n := 18) [(.v (.bool x1)), (.v (.bool x2)), (.v (.bool x3))] (l := [(0, (.v (.bool x1))), (1, (.v (.bool x2))), (2, (.v (.bool x3)))]) Try.func16 rfl rfl rfl rfl ok hm ?_
  clear ok hm
  intro a S
  refine c_region ?_
  refine s_assign S rfl rfl ?_; clear S a; intro a S
  refine c_end ?_
  refine c_region ?_
  refine s_move S rfl rfl ?_; clear S a; intro a S
  obtain ⟨t1, et1, h1⟩ := bind_of h0; clear h0
  refine s_call S (ds := [(.v (.bool x1))]) (d := (.v (.int .u64 t1))) N14 rfl rfl (gas_Account.ok x1 t1 et1 _ _) ?_; clear S a; intro a w S
  refine s_move S rfl rfl ?_; clear S a; intro a S
  obtain ⟨t2, et2, h2⟩ := bind_of h1; clear h1
  refine s_call S (ds := [(.v (.bool x2)), (.v (.int .u64 9000)), (.v (.int .u64 0))]) (d := (.v (.int .u64 t2))) N28 rfl rfl (gas_either.ok x2 9000 0 t2 et2 _ _) ?_; clear S a w; intro a w S
  refine s_bin S rfl rfl rfl rfl ?_; clear S a; intro a S
  refine s_move S rfl rfl ?_; clear S a; intro a S
  refine s_move S rfl rfl ?_; clear S a; intro a S
  rcases ite_of h2 with ⟨c1, h3⟩ | ⟨c1, h3⟩ <;> clear h2
  · refine s_gT S (b := x2) rfl rfl c1 ?_
    refine s_move S rfl rfl ?_; clear S a; intro a S
    refine s_pick S (b := true) (hc_of rfl c1) rfl rfl ?_; clear S a; intro a S
    obtain ⟨t3, et3, h4⟩ := bind_of h3; clear h3
    refine s_call S (ds := [(.v (.bool x3)), (.v (.int .u64 25000)), (.v (.int .u64 0))]) (d := (.v (.int .u64 t3))) N28 rfl rfl (gas_either.ok x3 25000 0 t3 et3 _ _) ?_; clear S a w; intro a w S
    refine s_bin S rfl rfl rfl rfl ?_; clear S a; intro a S
    refine s_assign S rfl rfl ?_; clear S a; intro a S
    refine c_end ?_
    refine wp_ret ?_
    obtain rfl := Option.some.inj h4
    exact b_ret1 (d := (.v (.int .u64 (wr .u64 ((wr .u64 (t1 + t2)) + t3))))) S rfl rfl fun ok => ⟨rfl, ok, S.below⟩
  · refine s_gF S (b := x2) rfl rfl c1 rfl ?_; clear S a; intro a S
    refine s_pick S (b := false) (hc_of rfl c1) rfl rfl ?_; clear S a; intro a S
    obtain ⟨t4, et4, h4⟩ := bind_of h3; clear h3
    refine s_call S (ds := [(.v (.bool false)), (.v (.int .u64 25000)), (.v (.int .u64 0))]) (d := (.v (.int .u64 t4))) N28 rfl rfl (gas_either.ok false 25000 0 t4 et4 _ _) ?_; clear S a w; intro a w S
    refine s_bin S rfl rfl rfl rfl ?_; clear S a; intro a S
    refine s_assign S rfl rfl ?_; clear S a; intro a S
    refine c_end ?_
    refine wp_ret ?_
    obtain rfl := Option.some.inj h4
    exact b_ret1 (d := (.v (.int .u64 (wr .u64 ((wr .u64 (t1 + t2)) + t4))))) S rfl rfl fun ok => ⟨rfl, ok, S.below⟩
/-! smithy/gas.Destroy -/
def gas_Destroy.f (x1 : Bool) (x2 : Bool) : Option Int := (gas_either.f x1 2600 0).bind fun t1 => ((gas_either.f x2 25000 0).bind fun t2 => (some (wr .u64 ((wr .u64 (5000 + t1)) + t2))))
theorem gas_Destroy.ok (x1 : Bool) (x2 : Bool) (r : Int) (h0 : gas_Destroy.f x1 x2 = some r) (mi : Mem) (w0 : World) : okL mi [(.v (.bool x1)), (.v (.bool x2))] → Frz mi w0 → Calls Try.prog 17 (([(.v (.bool x1)), (.v (.bool x2))] : List D).map D.val).toArray w0 (Ret mi (.v (.int .u64 r)) w0) := by
  intro ok hm
  delta gas_Destroy.f at h0
  refine c_enter (n := 11) [(.v (.bool x1)), (.v (.bool x2))] (l := [(0, (.v (.bool x1))), (1, (.v (.bool x2)))]) Try.func17 rfl rfl rfl rfl ok hm ?_
  clear ok hm
  intro a S
  refine c_region ?_
  refine s_assign S rfl rfl ?_; clear S a; intro a S
  refine c_end ?_
  refine c_region ?_
  refine s_move S rfl rfl ?_; clear S a; intro a S
  obtain ⟨t1, et1, h1⟩ := bind_of h0; clear h0
  refine s_call S (ds := [(.v (.bool x1)), (.v (.int .u64 2600)), (.v (.int .u64 0))]) (d := (.v (.int .u64 t1))) N28 rfl rfl (gas_either.ok x1 2600 0 t1 et1 _ _) ?_; clear S a; intro a w S
  refine s_bin S rfl rfl rfl rfl ?_; clear S a; intro a S
  refine s_move S rfl rfl ?_; clear S a; intro a S
  obtain ⟨t2, et2, h2⟩ := bind_of h1; clear h1
  refine s_call S (ds := [(.v (.bool x2)), (.v (.int .u64 25000)), (.v (.int .u64 0))]) (d := (.v (.int .u64 t2))) N28 rfl rfl (gas_either.ok x2 25000 0 t2 et2 _ _) ?_; clear S a w; intro a w S
  refine s_bin S rfl rfl rfl rfl ?_; clear S a; intro a S
  refine s_assign S rfl rfl ?_; clear S a; intro a S
  refine c_end ?_
  refine wp_ret ?_
  obtain rfl := Option.some.inj h2
  exact b_ret1 (d := (.v (.int .u64 (wr .u64 ((wr .u64 (5000 + t1)) + t2))))) S rfl rfl fun ok => ⟨rfl, ok, S.below⟩
/-! smithy/smithylaw12.GasAccounts -/
def smithylaw12_GasAccounts.j3 (x1 : Bool) (x2 : Bool) (x3 : Bool) (y3 : Int) (y4 : Int) (y5 : Int) (y6 : Int) : Option Bool := (smithylaw12_fixed.f).bind fun t1 => (if t1 = true then ((gas_Account.f x1).bind fun t2 => (if (t2 == y4) = true then ((gas_Sload.f x1).bind fun t3 => (if (t3 == y3) = true then ((gas_Call.f x1 x2 x3).bind fun t4 => (if (t4 == y5) = true then ((gas_Destroy.f x1 x3).bind fun t5 => (some (t5 == y6))) else (some false))) else (some false))) else (some false))) else (some false))
def smithylaw12_GasAccounts.j2 (x1 : Bool) (x2 : Bool) (x3 : Bool) (y1 : Int) (y3 : Int) (y4 : Int) (y5 : Int) : Option Bool := if x3 = true then (smithylaw12_GasAccounts.j3 x1 x2 x3 y3 y4 y5 (wr .u64 (y1 + 25000))) else (smithylaw12_GasAccounts.j3 x1 x2 x3 y3 y4 y5 y1)
def smithylaw12_GasAccounts.j1 (x1 : Bool) (x2 : Bool) (x3 : Bool) (y1 : Int) (y2 : Int) (y3 : Int) (y4 : Int) : Option Bool := if x2 = true then (if x3 = true then (smithylaw12_GasAccounts.j2 x1 x2 x3 y1 y3 y4 (wr .u64 ((wr .u64 (y2 + 9000)) + 25000))) else (smithylaw12_GasAccounts.j2 x1 x2 x3 y1 y3 y4 (wr .u64 (y2 + 9000)))) else (smithylaw12_GasAccounts.j2 x1 x2 x3 y1 y3 y4 y2)
def smithylaw12_GasAccounts.f (x1 : Bool) (x2 : Bool) (x3 : Bool) : Option Bool := if x1 = true then (smithylaw12_GasAccounts.j1 x1 x2 x3 7600 2600 2100 2600) else (smithylaw12_GasAccounts.j1 x1 x2 x3 5000 100 100 100)
theorem smithylaw12_GasAccounts.ok (x1 : Bool) (x2 : Bool) (x3 : Bool) (r : Bool) (h0 : smithylaw12_GasAccounts.f x1 x2 x3 = some r) (mi : Mem) (w0 : World) : okL mi [(.v (.bool x1)), (.v (.bool x2)), (.v (.bool x3))] → Frz mi w0 → Calls Try.prog 6 (([(.v (.bool x1)), (.v (.bool x2)), (.v (.bool x3))] : List D).map D.val).toArray w0 (Ret mi (.v (.bool r)) w0) := by
  intro ok hm
  delta smithylaw12_GasAccounts.f at h0
  refine c_enter (n := 49) [(.v (.bool x1)), (.v (.bool x2)), (.v (.bool x3))] (l := [(0, (.v (.bool x1))), (1, (.v (.bool x2))), (2, (.v (.bool x3)))]) Try.func6 rfl rfl rfl rfl ok hm ?_
  clear ok hm
  intro a S
  refine c_region ?_
  refine s_assign S rfl rfl ?_; clear S a; intro a S
  refine c_end ?_
  refine c_region ?_
  refine s_assign S rfl rfl ?_; clear S a; intro a S
  refine s_assign S rfl rfl ?_; clear S a; intro a S
  refine s_assign S rfl rfl ?_; clear S a; intro a S
  refine s_assign S rfl rfl ?_; clear S a; intro a S
  refine c_end ?_
  refine wp_seq_k ?_
  intro K1 hK1
  have j1 : ∀ (m : Mem) (y1 : Int) (y2 : Int) (y3 : Int) (y4 : Int) (a : Act) (w : World), St 49 m ⟨mi, w0⟩ [(10, (.v (.int .u64 y1))), (9, (.v (.int .u64 y2))), (8, (.v (.int .u64 y3))), (7, (.v (.int .u64 y4))), (0, (.v (.bool x1))), (1, (.v (.bool x2))), (2, (.v (.bool x3)))] [] a w → smithylaw12_GasAccounts.j1 x1 x2 x3 y1 y2 y3 y4 = some r → K1 a w := by
    intro m y1 y2 y3 y4 a w S h0
    delta smithylaw12_GasAccounts.j1 at h0
    refine hK1 a w ?_
    refine wp_seq_k ?_
    intro K2 hK2
    have j2 : ∀ (m : Mem) (y5 : Int) (a : Act) (w : World), St 49 m ⟨mi, w0⟩ [(9, (.v (.int .u64 y5))), (10, (.v (.int .u64 y1))), (8, (.v (.int .u64 y3))), (7, (.v (.int .u64 y4))), (0, (.v (.bool x1))), (1, (.v (.bool x2))), (2, (.v (.bool x3)))] [] a w → smithylaw12_GasAccounts.j2 x1 x2 x3 y1 y3 y4 y5 = some r → K2 a w := by
      intro m y5 a w S h0
      delta smithylaw12_GasAccounts.j2 at h0
      refine hK2 a w ?_
      refine wp_seq_k ?_
      intro K3 hK3
      have j3 : ∀ (m : Mem) (y6 : Int) (a : Act) (w : World), St 49 m ⟨mi, w0⟩ [(10, (.v (.int .u64 y6))), (9, (.v (.int .u64 y5))), (8, (.v (.int .u64 y3))), (7, (.v (.int .u64 y4))), (0, (.v (.bool x1))), (1, (.v (.bool x2))), (2, (.v (.bool x3)))] [] a w → smithylaw12_GasAccounts.j3 x1 x2 x3 y3 y4 y5 y6 = some r → K3 a w := by
        intro m y6 a w S h0
        delta smithylaw12_GasAccounts.j3 at h0
        refine hK3 a w ?_
        refine c_region ?_
        obtain ⟨t1, et1, h1⟩ := bind_of h0; clear h0
        refine s_call S (ds := []) (d := (.v (.bool t1))) N11 rfl rfl (smithylaw12_fixed.ok t1 et1 _ _) ?_; clear S a w; intro a w S
        refine s_move S rfl rfl ?_; clear S a; intro a S
        rcases ite_of h1 with ⟨c1, h2⟩ | ⟨c1, h2⟩ <;> clear h1
        · refine s_gT S (b := t1) rfl rfl c1 ?_
          refine s_move S rfl rfl ?_; clear S a; intro a S
          refine s_gT S (b := t1) rfl rfl c1 ?_
          obtain ⟨t2, et2, h3⟩ := bind_of h2; clear h2
          refine s_call S (ds := [(.v (.bool x1))]) (d := (.v (.int .u64 t2))) N14 rfl rfl (gas_Account.ok x1 t2 et2 _ _) ?_; clear S a w; intro a w S
          refine s_gT S (b := t1) rfl rfl c1 ?_
          refine s_move S rfl rfl ?_; clear S a; intro a S
          refine s_gT S (b := t1) rfl rfl c1 ?_
          refine s_bin S rfl rfl rfl rfl ?_; clear S a; intro a S
          refine s_pick S (b := true) (hc_of rfl c1) rfl rfl ?_; clear S a; intro a S
          refine s_move S rfl rfl ?_; clear S a; intro a S
          rcases ite_of h3 with ⟨c2, h4⟩ | ⟨c2, h4⟩ <;> clear h3
          · refine s_gT S (b := (t2 == y4)) rfl rfl c2 ?_
            refine s_move S rfl rfl ?_; clear S a; intro a S
            refine s_gT S (b := (t2 == y4)) rfl rfl c2 ?_
            obtain ⟨t3, et3, h5⟩ := bind_of h4; clear h4
            refine s_call S (ds := [(.v (.bool x1))]) (d := (.v (.int .u64 t3))) N15 rfl rfl (gas_Sload.ok x1 t3 et3 _ _) ?_; clear S a w; intro a w S
            refine s_gT S (b := (t2 == y4)) rfl rfl c2 ?_
            refine s_move S rfl rfl ?_; clear S a; intro a S
            refine s_gT S (b := (t2 == y4)) rfl rfl c2 ?_
            refine s_bin S rfl rfl rfl rfl ?_; clear S a; intro a S
            refine s_pick S (b := true) (hc_of rfl c2) rfl rfl ?_; clear S a; intro a S
            refine s_move S rfl rfl ?_; clear S a; intro a S
            rcases ite_of h5 with ⟨c3, h6⟩ | ⟨c3, h6⟩ <;> clear h5
            · refine s_gT S (b := (t3 == y3)) rfl rfl c3 ?_
              refine s_move S rfl rfl ?_; clear S a; intro a S
              refine s_gT S (b := (t3 == y3)) rfl rfl c3 ?_
              refine s_move S rfl rfl ?_; clear S a; intro a S
              refine s_gT S (b := (t3 == y3)) rfl rfl c3 ?_
              refine s_move S rfl rfl ?_; clear S a; intro a S
              refine s_gT S (b := (t3 == y3)) rfl rfl c3 ?_
              obtain ⟨t4, et4, h7⟩ := bind_of h6; clear h6
              refine s_call S (ds := [(.v (.bool x1)), (.v (.bool x2)), (.v (.bool x3))]) (d := (.v (.int .u64 t4))) N16 rfl rfl (gas_Call.ok x1 x2 x3 t4 et4 _ _) ?_; clear S a w; intro a w S
              refine s_gT S (b := (t3 == y3)) rfl rfl c3 ?_
              refine s_move S rfl rfl ?_; clear S a; intro a S
              refine s_gT S (b := (t3 == y3)) rfl rfl c3 ?_
              refine s_bin S rfl rfl rfl rfl ?_; clear S a; intro a S
              refine s_pick S (b := true) (hc_of rfl c3) rfl rfl ?_; clear S a; intro a S
              refine s_move S rfl rfl ?_; clear S a; intro a S
              rcases ite_of h7 with ⟨c4, h8⟩ | ⟨c4, h8⟩ <;> clear h7
              · refine s_gT S (b := (t4 == y5)) rfl rfl c4 ?_
                refine s_move S rfl rfl ?_; clear S a; intro a S
                refine s_gT S (b := (t4 == y5)) rfl rfl c4 ?_
                refine s_move S rfl rfl ?_; clear S a; intro a S
                refine s_gT S (b := (t4 == y5)) rfl rfl c4 ?_
                obtain ⟨t5, et5, h9⟩ := bind_of h8; clear h8
                refine s_call S (ds := [(.v (.bool x1)), (.v (.bool x3))]) (d := (.v (.int .u64 t5))) N17 rfl rfl (gas_Destroy.ok x1 x3 t5 et5 _ _) ?_; clear S a w; intro a w S
                refine s_gT S (b := (t4 == y5)) rfl rfl c4 ?_
                refine s_move S rfl rfl ?_; clear S a; intro a S
                refine s_gT S (b := (t4 == y5)) rfl rfl c4 ?_
                refine s_bin S rfl rfl rfl rfl ?_; clear S a; intro a S
                refine s_pick S (b := true) (hc_of rfl c4) rfl rfl ?_; clear S a; intro a S
                refine s_assign S rfl rfl ?_; clear S a; intro a S
                refine c_end ?_
                refine wp_ret ?_
                obtain rfl := Option.some.inj h9
                exact b_ret1 (d := (.v (.bool (t5 == y6)))) S rfl rfl fun ok => ⟨rfl, ok, S.below⟩
              · refine s_gF S (b := (t4 == y5)) rfl rfl c4 rfl ?_; clear S a; intro a S
                refine s_gF S (b := (t4 == y5)) rfl rfl c4 rfl ?_; clear S a; intro a S
                refine s_gF S (b := (t4 == y5)) rfl rfl c4 rfl ?_; clear S a; intro a S
                refine s_gF S (b := (t4 == y5)) rfl rfl c4 rfl ?_; clear S a; intro a S
                refine s_gF S (b := (t4 == y5)) rfl rfl c4 rfl ?_; clear S a; intro a S
                refine s_pick S (b := false) (hc_of rfl c4) rfl rfl ?_; clear S a; intro a S
                refine s_assign S rfl rfl ?_; clear S a; intro a S
                refine c_end ?_
                refine wp_ret ?_
                obtain rfl := Option.some.inj h8
                exact b_ret1 (d := (.v (.bool false))) S rfl rfl fun ok => ⟨rfl, ok, S.below⟩
            · refine s_gF S (b := (t3 == y3)) rfl rfl c3 rfl ?_; clear S a; intro a S
              refine s_gF S (b := (t3 == y3)) rfl rfl c3 rfl ?_; clear S a; intro a S
              refine s_gF S (b := (t3 == y3)) rfl rfl c3 rfl ?_; clear S a; intro a S
              refine s_gF S (b := (t3 == y3)) rfl rfl c3 rfl ?_; clear S a; intro a S
              refine s_gF S (b := (t3 == y3)) rfl rfl c3 rfl ?_; clear S a; intro a S
              refine s_gF S (b := (t3 == y3)) rfl rfl c3 rfl ?_; clear S a; intro a S
              refine s_pick S (b := false) (hc_of rfl c3) rfl rfl ?_; clear S a; intro a S
              refine s_move S rfl rfl ?_; clear S a; intro a S
              refine s_gF S (b := false) rfl rfl rfl rfl ?_; clear S a; intro a S
              refine s_gF S (b := false) rfl rfl rfl rfl ?_; clear S a; intro a S
              refine s_gF S (b := false) rfl rfl rfl rfl ?_; clear S a; intro a S
              refine s_gF S (b := false) rfl rfl rfl rfl ?_; clear S a; intro a S
              refine s_gF S (b := false) rfl rfl rfl rfl ?_; clear S a; intro a S
              refine s_pick S (b := false) (hc_of rfl rfl) rfl rfl ?_; clear S a; intro a S
              refine s_assign S rfl rfl ?_; clear S a; intro a S
              refine c_end ?_
              refine wp_ret ?_
              obtain rfl := Option.some.inj h6
              exact b_ret1 (d := (.v (.bool false))) S rfl rfl fun ok => ⟨rfl, ok, S.below⟩
          · refine s_gF S (b := (t2 == y4)) rfl rfl c2 rfl ?_; clear S a; intro a S
            refine s_gF S (b := (t2 == y4)) rfl rfl c2 rfl ?_; clear S a; intro a S
            refine s_gF S (b := (t2 == y4)) rfl rfl c2 rfl ?_; clear S a; intro a S
            refine s_gF S (b := (t2 == y4)) rfl rfl c2 rfl ?_; clear S a; intro a S
            refine s_pick S (b := false) (hc_of rfl c2) rfl rfl ?_; clear S a; intro a S
            refine s_move S rfl rfl ?_; clear S a; intro a S
            refine s_gF S (b := false) rfl rfl rfl rfl ?_; clear S a; intro a S
            refine s_gF S (b := false) rfl rfl rfl rfl ?_; clear S a; intro a S
            refine s_gF S (b := false) rfl rfl rfl rfl ?_; clear S a; intro a S
            refine s_gF S (b := false) rfl rfl rfl rfl ?_; clear S a; intro a S
            refine s_gF S (b := false) rfl rfl rfl rfl ?_; clear S a; intro a S
            refine s_gF S (b := false) rfl rfl rfl rfl ?_; clear S a; intro a S
            refine s_pick S (b := false) (hc_of rfl rfl) rfl rfl ?_; clear S a; intro a S
            refine s_move S rfl rfl ?_; clear S a; intro a S
            refine s_gF S (b := false) rfl rfl rfl rfl ?_; clear S a; intro a S
            refine s_gF S (b := false) rfl rfl rfl rfl ?_; clear S a; intro a S
            refine s_gF S (b := false) rfl rfl rfl rfl ?_; clear S a; intro a S
            refine s_gF S (b := false) rfl rfl rfl rfl ?_; clear S a; intro a S
            refine s_gF S (b := false) rfl rfl rfl rfl ?_; clear S a; intro a S
            refine s_pick S (b := false) (hc_of rfl rfl) rfl rfl ?_; clear S a; intro a S
            refine s_assign S rfl rfl ?_; clear S a; intro a S
            refine c_end ?_
            refine wp_ret ?_
            obtain rfl := Option.some.inj h4
            exact b_ret1 (d := (.v (.bool false))) S rfl rfl fun ok => ⟨rfl, ok, S.below⟩
        · refine s_gF S (b := t1) rfl rfl c1 rfl ?_; clear S a; intro a S
          refine s_gF S (b := t1) rfl rfl c1 rfl ?_; clear S a; intro a S
          refine s_gF S (b := t1) rfl rfl c1 rfl ?_; clear S a; intro a S
          refine s_gF S (b := t1) rfl rfl c1 rfl ?_; clear S a; intro a S
          refine s_pick S (b := false) (hc_of rfl c1) rfl rfl ?_; clear S a; intro a S
          refine s_move S rfl rfl ?_; clear S a; intro a S
          refine s_gF S (b := false) rfl rfl rfl rfl ?_; clear S a; intro a S
          refine s_gF S (b := false) rfl rfl rfl rfl ?_; clear S a; intro a S
          refine s_gF S (b := false) rfl rfl rfl rfl ?_; clear S a; intro a S
          refine s_gF S (b := false) rfl rfl rfl rfl ?_; clear S a; intro a S
          refine s_pick S (b := false) (hc_of rfl rfl) rfl rfl ?_; clear S a; intro a S
          refine s_move S rfl rfl ?_; clear S a; intro a S
          refine s_gF S (b := false) rfl rfl rfl rfl ?_; clear S a; intro a S
          refine s_gF S (b := false) rfl rfl rfl rfl ?_; clear S a; intro a S
          refine s_gF S (b := false) rfl rfl rfl rfl ?_; clear S a; intro a S
          refine s_gF S (b := false) rfl rfl rfl rfl ?_; clear S a; intro a S
          refine s_gF S (b := false) rfl rfl rfl rfl ?_; clear S a; intro a S
          refine s_gF S (b := false) rfl rfl rfl rfl ?_; clear S a; intro a S
          refine s_pick S (b := false) (hc_of rfl rfl) rfl rfl ?_; clear S a; intro a S
          refine s_move S rfl rfl ?_; clear S a; intro a S
          refine s_gF S (b := false) rfl rfl rfl rfl ?_; clear S a; intro a S
          refine s_gF S (b := false) rfl rfl rfl rfl ?_; clear S a; intro a S
          refine s_gF S (b := false) rfl rfl rfl rfl ?_; clear S a; intro a S
          refine s_gF S (b := false) rfl rfl rfl rfl ?_; clear S a; intro a S
          refine s_gF S (b := false) rfl rfl rfl rfl ?_; clear S a; intro a S
          refine s_pick S (b := false) (hc_of rfl rfl) rfl rfl ?_; clear S a; intro a S
          refine s_assign S rfl rfl ?_; clear S a; intro a S
          refine c_end ?_
          refine wp_ret ?_
          obtain rfl := Option.some.inj h2
          exact b_ret1 (d := (.v (.bool false))) S rfl rfl fun ok => ⟨rfl, ok, S.below⟩
      refine c_region ?_
      refine s_move S rfl rfl ?_; clear S a; intro a S
      refine c_end ?_
      rcases ite_of h0 with ⟨c5, h1⟩ | ⟨c5, h1⟩ <;> clear h0
      · refine c_condT S rfl c5 ?_
        refine c_region' ?_
        refine s_move S rfl rfl ?_; clear S a; intro a S
        refine s_bin S rfl rfl rfl rfl ?_; clear S a; intro a S
        refine s_assign S rfl rfl ?_; clear S a; intro a S
        refine c_end' ?_
        refine x_thenN ?_
        exact j3 _ (wr .u64 (y1 + 25000)) a w (S.sub ⟨rfl, rfl, rfl, rfl, rfl, rfl, rfl, trivial⟩ .nil) h1
      · refine c_condF S rfl c5 ?_
        refine wp_skip ?_
        refine x_thenN ?_
        exact j3 _ y1 a w (S.sub ⟨rfl, rfl, rfl, rfl, rfl, rfl, rfl, trivial⟩ .nil) h1
    refine c_region ?_
    refine s_move S rfl rfl ?_; clear S a; intro a S
    refine c_end ?_
    rcases ite_of h0 with ⟨c6, h1⟩ | ⟨c6, h1⟩ <;> clear h0
    · refine c_condT S rfl c6 ?_
      refine c_region ?_
      refine s_move S rfl rfl ?_; clear S a; intro a S
      refine s_bin S rfl rfl rfl rfl ?_; clear S a; intro a S
      refine s_assign S rfl rfl ?_; clear S a; intro a S
      refine c_end ?_
      refine c_region ?_
      refine s_move S rfl rfl ?_; clear S a; intro a S
      refine c_end ?_
      rcases ite_of h1 with ⟨c7, h2⟩ | ⟨c7, h2⟩ <;> clear h1
      · refine c_condT S rfl c7 ?_
        refine c_region' ?_
        refine s_move S rfl rfl ?_; clear S a; intro a S
        refine s_bin S rfl rfl rfl rfl ?_; clear S a; intro a S
        refine s_assign S rfl rfl ?_; clear S a; intro a S
        refine c_end' ?_
        refine x_thenN ?_
        exact j2 _ (wr .u64 ((wr .u64 (y2 + 9000)) + 25000)) a w (S.sub ⟨rfl, rfl, rfl, rfl, rfl, rfl, rfl, trivial⟩ .nil) h2
      · refine c_condF S rfl c7 ?_
        refine wp_skip ?_
        refine x_thenN ?_
        exact j2 _ (wr .u64 (y2 + 9000)) a w (S.sub ⟨rfl, rfl, rfl, rfl, rfl, rfl, rfl, trivial⟩ .nil) h2
    · refine c_condF S rfl c6 ?_
      refine wp_skip ?_
      refine x_thenN ?_
      exact j2 _ y2 a w (S.sub ⟨rfl, rfl, rfl, rfl, rfl, rfl, rfl, trivial⟩ .nil) h1
  refine c_region ?_
  refine s_move S rfl rfl ?_; clear S a; intro a S
  refine c_end ?_
  rcases ite_of h0 with ⟨c8, h1⟩ | ⟨c8, h1⟩ <;> clear h0
  · refine c_condT S rfl c8 ?_
    refine c_region' ?_
    refine s_assign S rfl rfl ?_; clear S a; intro a S
    refine s_assign S rfl rfl ?_; clear S a; intro a S
    refine s_assign S rfl rfl ?_; clear S a; intro a S
    refine s_assign S rfl rfl ?_; clear S a; intro a S
    refine c_end' ?_
    refine x_thenN ?_
    exact j1 _ 7600 2600 2100 2600 a w0 (S.sub ⟨rfl, rfl, rfl, rfl, rfl, rfl, rfl, trivial⟩ .nil) h1
  · refine c_condF S rfl c8 ?_
    refine wp_skip ?_
    refine x_thenN ?_
    exact j1 _ 5000 100 100 100 a w0 (S.sub ⟨rfl, rfl, rfl, rfl, rfl, rfl, rfl, trivial⟩ .nil) h1
/-! smithy/mem.Words -/
def mem_Words.j1 (y1 : Int) : Option Int := some y1
def mem_Words.f (x1 : Int) : Option Int := if (decide (0 < (Int.tmod x1 32))) = true then (mem_Words.j1 (wr .u64 ((wr .u64 (Int.tdiv x1 32)) + 1))) else (mem_Words.j1 (wr .u64 (Int.tdiv x1 32)))
theorem mem_Words.ok (x1 : Int) (r : Int) (h0 : mem_Words.f x1 = some r) (mi : Mem) (w0 : World) : okL mi [(.v (.int .u64 x1))] → Frz mi w0 → Calls Try.prog 30 (([(.v (.int .u64 x1))] : List D).map D.val).toArray w0 (Ret mi (.v (.int .u64 r)) w0) := by
  intro ok hm
  delta mem_Words.f at h0
  refine c_enter (n := 12) [(.v (.int .u64 x1))] (l := [(0, (.v (.int .u64 x1)))]) Try.func30 rfl rfl rfl rfl ok hm ?_
  clear ok hm
  intro a S
  refine c_region ?_
  refine s_assign S rfl rfl ?_; clear S a; intro a S
  refine c_end ?_
  refine c_region ?_
  refine s_move S rfl rfl ?_; clear S a; intro a S
  refine s_quo S rfl rfl (by decide) rfl ?_; clear S a; intro a S
  refine s_assign S rfl rfl ?_; clear S a; intro a S
  refine c_end ?_
  refine wp_seq_k ?_
  intro K1 hK1
  have j1 : ∀ (m : Mem) (y1 : Int) (a : Act) (w : World), St 12 m ⟨mi, w0⟩ [(3, (.v (.int .u64 y1)))] [] a w → mem_Words.j1 y1 = some r → K1 a w := by
    intro m y1 a w S h0
    delta mem_Words.j1 at h0
    refine hK1 a w ?_
    refine c_region ?_
    refine s_move S rfl rfl ?_; clear S a; intro a S
    refine s_assign S rfl rfl ?_; clear S a; intro a S
    refine c_end ?_
    refine wp_ret ?_
    obtain rfl := Option.some.inj h0
    exact b_ret1 (d := (.v (.int .u64 y1))) S rfl rfl fun ok => ⟨rfl, ok, S.below⟩
  refine c_region ?_
  refine s_move S rfl rfl ?_; clear S a; intro a S
  refine s_rem S rfl rfl (by decide) rfl ?_; clear S a; intro a S
  refine s_bin S rfl rfl rfl rfl ?_; clear S a; intro a S
  refine c_end ?_
  rcases ite_of h0 with ⟨c1, h1⟩ | ⟨c1, h1⟩ <;> clear h0
  · refine c_condT S rfl c1 ?_
    refine c_region' ?_
    refine s_move S rfl rfl ?_; clear S a; intro a S
    refine s_bin S rfl rfl rfl rfl ?_; clear S a; intro a S
    refine s_assign S rfl rfl ?_; clear S a; intro a S
    refine c_end' ?_
    refine x_thenN ?_
    exact j1 _ (wr .u64 ((wr .u64 (Int.tdiv x1 32)) + 1)) a w0 (S.sub ⟨rfl, trivial⟩ .nil) h1
  · refine c_condF S rfl c1 ?_
    refine wp_skip ?_
    refine x_thenN ?_
    exact j1 _ (wr .u64 (Int.tdiv x1 32)) a w0 (S.sub ⟨rfl, trivial⟩ .nil) h1
/-! smithy/gas.Intrinsic -/
def gas_Intrinsic.j2 (y2 : Int) : Option Int := some y2
def gas_Intrinsic.j1 (x1 : List Int) (x2 : Bool) (y1 : Int) : Option Int := if x2 = true then ((mem_Words.f (wr .u64 ((x1).length : Int))).bind fun t1 => (gas_Intrinsic.j2 (wr .u64 (y1 + (wr .u64 (32000 + (wr .u64 (2 * t1)))))))) else (gas_Intrinsic.j2 y1)
def gas_Intrinsic.b1 (x1 : List Int) (x2 : Bool) (rec1 : Int → Int → Option Int) (y5 : Int) (y6 : Int) : Option Int := if (decide (y5 < ((x1).length : Int))) = true then (if 0 ≤ y5 ∧ y5 < ((x1).length : Int) then ((gas_either.f ((rd x1 y5) == 0) 4 16).bind fun t4 => (rec1 (wr .i64 (y5 + 1)) (wr .u64 (y6 + t4)))) else none) else (gas_Intrinsic.j1 x1 x2 y6)
def gas_Intrinsic.l1 (x1 : List Int) (x2 : Bool) : Nat → Int → Int → Option Int
  | 0, _, _ => none
  | q + 1, y5, y6 => gas_Intrinsic.b1 x1 x2 (gas_Intrinsic.l1 x1 x2 q) y5 y6
def gas_Intrinsic.f (k : Nat) (x1 : List Int) (x2 : Bool) (x3 : Int) (x4 : Int) : Option Int := gas_Intrinsic.l1 x1 x2 k 0 (wr .u64 ((wr .u64 (21000 + (wr .u64 (2400 * x3)))) + (wr .u64 (1900 * x4))))
theorem gas_Intrinsic.ok (k : Nat) (x1 : List Int) (x2 : Bool) (x3 : Int) (x4 : Int) (ch_x1 : Option Addr × Nat) (r : Int) (h0 : gas_Intrinsic.f k x1 x2 x3 x4 = some r) (mi : Mem) (w0 : World) : okL mi [(.sl ch_x1.1 (x1).length ch_x1.2 (RdS (Ty.int .u8) ch_x1.1 x1)), (.v (.bool x2)), (.v (.int .u64 x3)), (.v (.int .u64 x4))] → Frz mi w0 → Calls Try.prog 18 (([(.sl ch_x1.1 (x1).length ch_x1.2 (RdS (Ty.int .u8) ch_x1.1 x1)), (.v (.bool x2)), (.v (.int .u64 x3)), (.v (.int .u64 x4))] : List D).map D.val).toArray w0 (Ret mi (.v (.int .u64 r)) w0) := by
  intro ok hm
  delta gas_Intrinsic.f at h0
  refine c_enter (n := 40) [(.sl ch_x1.1 (x1).length ch_x1.2 (RdS (Ty.int .u8) ch_x1.1 x1)), (.v (.bool x2)), (.v (.int .u64 x3)), (.v (.int .u64 x4))] (l := [(0, (.sl ch_x1.1 (x1).length ch_x1.2 (RdS (Ty.int .u8) ch_x1.1 x1))), (1, (.v (.bool x2))), (2, (.v (.int .u64 x3))), (3, (.v (.int .u64 x4)))]) Try.func18 rfl rfl rfl rfl ok hm ?_
  clear ok hm
  intro a S
  refine c_region ?_
  refine s_assign S rfl rfl ?_; clear S a; intro a S
  refine c_end ?_
  refine c_region ?_
  refine s_move S rfl rfl ?_; clear S a; intro a S
  refine s_bin S rfl rfl rfl rfl ?_; clear S a; intro a S
  refine s_bin S rfl rfl rfl rfl ?_; clear S a; intro a S
  refine s_move S rfl rfl ?_; clear S a; intro a S
  refine s_bin S rfl rfl rfl rfl ?_; clear S a; intro a S
  refine s_bin S rfl rfl rfl rfl ?_; clear S a; intro a S
  refine s_assign S rfl rfl ?_; clear S a; intro a S
  refine c_end ?_
  refine wp_seq_k ?_
  intro K1 hK1
  have j1 : ∀ (m : Mem) (y1 : Int) (a : Act) (w : World), St 40 m ⟨mi, w0⟩ [(9, (.v (.int .u64 y1))), (0, (.sl ch_x1.1 (x1).length ch_x1.2 (RdS (Ty.int .u8) ch_x1.1 x1))), (1, (.v (.bool x2)))] [] a w → gas_Intrinsic.j1 x1 x2 y1 = some r → K1 a w := by
    intro m y1 a w S h0
    delta gas_Intrinsic.j1 at h0
    refine hK1 a w ?_
    refine wp_seq_k ?_
    intro K2 hK2
    have j2 : ∀ (m : Mem) (y2 : Int) (a : Act) (w : World), St 40 m ⟨mi, w0⟩ [(9, (.v (.int .u64 y2)))] [] a w → gas_Intrinsic.j2 y2 = some r → K2 a w := by
      intro m y2 a w S h0
      delta gas_Intrinsic.j2 at h0
      refine hK2 a w ?_
      refine c_region ?_
      refine s_move S rfl rfl ?_; clear S a; intro a S
      refine s_assign S rfl rfl ?_; clear S a; intro a S
      refine c_end ?_
      refine wp_ret ?_
      obtain rfl := Option.some.inj h0
      exact b_ret1 (d := (.v (.int .u64 y2))) S rfl rfl fun ok => ⟨rfl, ok, S.below⟩
    refine c_region ?_
    refine s_move S rfl rfl ?_; clear S a; intro a S
    refine c_end ?_
    rcases ite_of h0 with ⟨c1, h1⟩ | ⟨c1, h1⟩ <;> clear h0
    · refine c_condT S rfl c1 ?_
      refine c_region' ?_
      refine s_move S rfl rfl ?_; clear S a; intro a S
      refine s_move S rfl rfl ?_; clear S a; intro a S
      refine s_lenS S rfl Try.underlying38 rfl ?_; clear S a; intro a S
      refine s_conv S rfl rfl Try.underlying22 rfl ?_; clear S a; intro a S
      obtain ⟨t1, et1, h2⟩ := bind_of h1; clear h1
      refine s_call S (ds := [(.v (.int .u64 (wr .u64 ((x1).length : Int))))]) (d := (.v (.int .u64 t1))) N30 rfl rfl (mem_Words.ok (wr .u64 ((x1).length : Int)) t1 et1 _ _) ?_; clear S a w; intro a w S
      refine s_bin S rfl rfl rfl rfl ?_; clear S a; intro a S
      refine s_bin S rfl rfl rfl rfl ?_; clear S a; intro a S
      refine s_bin S rfl rfl rfl rfl ?_; clear S a; intro a S
      refine s_assign S rfl rfl ?_; clear S a; intro a S
      refine c_end' ?_
      refine x_thenN ?_
      exact j2 _ (wr .u64 (y1 + (wr .u64 (32000 + (wr .u64 (2 * t1)))))) a w (S.sub ⟨rfl, trivial⟩ .nil) h2
    · refine c_condF S rfl c1 ?_
      refine wp_skip ?_
      refine x_thenN ?_
      exact j2 _ y1 a w (S.sub ⟨rfl, trivial⟩ .nil) h1
  refine c_region ?_
  refine s_move S rfl rfl ?_; clear S a; intro a S
  refine s_lenS S rfl Try.underlying38 rfl ?_; clear S a; intro a S
  refine s_move S rfl rfl ?_; clear S a; intro a S
  refine c_end ?_
  refine wp_block ?_
  refine c_loop (fun q1 a w => ∃ (m : Mem) (y5 : Int) (y6 : Int), St 40 m ⟨mi, w0⟩ [(20, (.v (.int .i64 y5))), (19, (.v (.int .i64 ((x1).length : Int)))), (18, (.sl ch_x1.1 (x1).length ch_x1.2 (RdS (Ty.int .u8) ch_x1.1 x1))), (9, (.v (.int .u64 y6))), (0, (.sl ch_x1.1 (x1).length ch_x1.2 (RdS (Ty.int .u8) ch_x1.1 x1))), (1, (.v (.bool x2)))] [] a w ∧ gas_Intrinsic.l1 x1 x2 q1 y5 y6 = some r) ?_ ?_ (k := k) ⟨_, 0, (wr .u64 ((wr .u64 (21000 + (wr .u64 (2400 * x3)))) + (wr .u64 (1900 * x4)))), (S.sub ⟨rfl, rfl, rfl, rfl, rfl, rfl, trivial⟩ .nil), h0⟩
  · rintro a w ⟨m, y5, y6, S, h0⟩
    exact (nomatch (show (none : Option Int) = some r from h0))
  · clear S h0
    rintro q1 a w ⟨m, y5, y6, S, h0⟩
    replace h0 : gas_Intrinsic.b1 x1 x2 (gas_Intrinsic.l1 x1 x2 q1) y5 y6 = some r := h0
    delta gas_Intrinsic.b1 at h0
    refine c_region ?_
    refine s_bin S rfl rfl rfl rfl ?_; clear S a; intro a S
    refine c_end ?_
    refine wp_seq ?_
    rcases ite_of h0 with ⟨c2, h1⟩ | ⟨c2, h1⟩ <;> clear h0
    · refine c_condT S rfl c2 ?_
      refine wp_skip ?_
      refine x_thenN ?_
      refine wp_seq ?_
      refine wp_block ?_
      refine c_region ?_
      obtain ⟨c3, h2⟩ := chk_of h1; clear h1
      refine s_iaddrS S rfl rfl rfl Try.underlying38 T5 c3.1 c3.2 rfl ?_; clear S a; intro p1 a S
      refine s_ld1 S (v := (.int .u8 (rd x1 y5))) rfl T5 (fun _ => rfl) rfl ?_; clear S a; intro a S
      refine s_assign S rfl rfl ?_; clear S a; intro a S
      refine c_end ?_
      refine c_region' ?_
      refine s_move S rfl rfl ?_; clear S a; intro a S
      refine s_move S rfl rfl ?_; clear S a; intro a S
      refine s_bin S rfl rfl rfl rfl ?_; clear S a; intro a S
      obtain ⟨t4, et4, h3⟩ := bind_of h2; clear h2
      refine s_call S (ds := [(.v (.bool ((rd x1 y5) == 0))), (.v (.int .u64 4)), (.v (.int .u64 16))]) (d := (.v (.int .u64 t4))) N28 rfl rfl (gas_either.ok ((rd x1 y5) == 0) 4 16 t4 et4 _ _) ?_; clear S a w; intro a w S
      refine s_bin S rfl rfl rfl rfl ?_; clear S a; intro a S
      refine s_assign S rfl rfl ?_; clear S a; intro a S
      refine c_end' ?_
      refine x_blockN ?_
      refine x_thenN ?_
      refine c_region' ?_
      refine s_bin S rfl rfl rfl rfl ?_; clear S a; intro a S
      refine s_move S rfl rfl ?_; clear S a; intro a S
      refine c_end' ?_
      refine x_thenN ?_
      exact ⟨_, (wr .i64 (y5 + 1)), (wr .u64 (y6 + t4)), (S.sub ⟨rfl, rfl, rfl, rfl, rfl, rfl, trivial⟩ .nil), h3⟩
    · refine c_condF S rfl c2 ?_
      refine wp_exit ?_
      refine x_thenX ?_
      refine x_thenX ?_
      refine x_blockX ?_
      refine x_thenN ?_
      exact j1 _ y6 a w (S.sub ⟨rfl, rfl, rfl, trivial⟩ .nil) h1
/-! smithy/smithyref10.Words -/
def smithyref10_Words.f (x1 : Int) : Option Int := if ((Int.tmod x1 32) == 0) = true then (some (wr .u64 (Int.tdiv x1 32))) else (some (wr .u64 ((wr .u64 (Int.tdiv x1 32)) + 1)))
theorem smithyref10_Words.ok (x1 : Int) (r : Int) (h0 : smithyref10_Words.f x1 = some r) (mi : Mem) (w0 : World) : okL mi [(.v (.int .u64 x1))] → Frz mi w0 → Calls Try.prog 20 (([(.v (.int .u64 x1))] : List D).map D.val).toArray w0 (Ret mi (.v (.int .u64 r)) w0) := by
  intro ok hm
  delta smithyref10_Words.f at h0
  refine c_enter (n := 11) [(.v (.int .u64 x1))] (l := [(0, (.v (.int .u64 x1)))]) Try.func20 rfl rfl rfl rfl ok hm ?_
  clear ok hm
  intro a S
  refine c_region ?_
  refine s_assign S rfl rfl ?_; clear S a; intro a S
  refine c_end ?_
  refine wp_seq ?_
  refine c_region ?_
  refine s_move S rfl rfl ?_; clear S a; intro a S
  refine s_rem S rfl rfl (by decide) rfl ?_; clear S a; intro a S
  refine s_bin S rfl rfl rfl rfl ?_; clear S a; intro a S
  refine c_end ?_
  rcases ite_of h0 with ⟨c1, h1⟩ | ⟨c1, h1⟩ <;> clear h0
  · refine c_condT S rfl c1 ?_
    refine c_region ?_
    refine s_move S rfl rfl ?_; clear S a; intro a S
    refine s_quo S rfl rfl (by decide) rfl ?_; clear S a; intro a S
    refine s_assign S rfl rfl ?_; clear S a; intro a S
    refine c_end ?_
    refine wp_ret ?_
    refine x_thenR ?_
    obtain rfl := Option.some.inj h1
    exact b_ret1 (d := (.v (.int .u64 (wr .u64 (Int.tdiv x1 32))))) S rfl rfl fun ok => ⟨rfl, ok, S.below⟩
  · refine c_condF S rfl c1 ?_
    refine wp_skip ?_
    refine x_thenN ?_
    refine c_region ?_
    refine s_move S rfl rfl ?_; clear S a; intro a S
    refine s_quo S rfl rfl (by decide) rfl ?_; clear S a; intro a S
    refine s_bin S rfl rfl rfl rfl ?_; clear S a; intro a S
    refine s_assign S rfl rfl ?_; clear S a; intro a S
    refine c_end ?_
    refine wp_ret ?_
    obtain rfl := Option.some.inj h1
    exact b_ret1 (d := (.v (.int .u64 (wr .u64 ((wr .u64 (Int.tdiv x1 32)) + 1))))) S rfl rfl fun ok => ⟨rfl, ok, S.below⟩
/-! smithy/smithyref12.Intrinsic -/
def smithyref12_Intrinsic.j2 (x3 : Int) (x4 : Int) (y2 : Int) : Option Int := some (wr .u64 ((wr .u64 (y2 + (wr .u64 (x3 * 2400)))) + (wr .u64 (x4 * 1900))))
def smithyref12_Intrinsic.j1 (x1 : List Int) (x2 : Bool) (x3 : Int) (x4 : Int) (y1 : Int) : Option Int := if x2 = true then ((smithyref10_Words.f (wr .u64 ((x1).length : Int))).bind fun t1 => (smithyref12_Intrinsic.j2 x3 x4 (wr .u64 ((wr .u64 (y1 + 32000)) + (wr .u64 (2 * t1)))))) else (smithyref12_Intrinsic.j2 x3 x4 y1)
def smithyref12_Intrinsic.j3 (y7 : Int) (rec1 : Int → Int → Option Int) (y9 : Int) : Option Int := rec1 (wr .i64 (y7 + 1)) y9
def smithyref12_Intrinsic.b1 (x1 : List Int) (x2 : Bool) (x3 : Int) (x4 : Int) (rec1 : Int → Int → Option Int) (y7 : Int) (y8 : Int) : Option Int := if (decide (y7 < ((x1).length : Int))) = true then (if 0 ≤ y7 ∧ y7 < ((x1).length : Int) then (if ((rd x1 y7) != 0) = true then (smithyref12_Intrinsic.j3 y7 rec1 (wr .u64 ((wr .u64 (y8 + 4)) + 12))) else (smithyref12_Intrinsic.j3 y7 rec1 (wr .u64 (y8 + 4)))) else none) else (smithyref12_Intrinsic.j1 x1 x2 x3 x4 y8)
def smithyref12_Intrinsic.l1 (x1 : List Int) (x2 : Bool) (x3 : Int) (x4 : Int) : Nat → Int → Int → Option Int
  | 0, _, _ => none
  | q + 1, y7, y8 => smithyref12_Intrinsic.b1 x1 x2 x3 x4 (smithyref12_Intrinsic.l1 x1 x2 x3 x4 q) y7 y8
def smithyref12_Intrinsic.f (k : Nat) (x1 : List Int) (x2 : Bool) (x3 : Int) (x4 : Int) : Option Int := smithyref12_Intrinsic.l1 x1 x2 x3 x4 k 0 21000
theorem smithyref12_Intrinsic.ok (k : Nat) (x1 : List Int) (x2 : Bool) (x3 : Int) (x4 : Int) (ch_x1 : Option Addr × Nat) (r : Int) (h0 : smithyref12_Intrinsic.f k x1 x2 x3 x4 = some r) (mi : Mem) (w0 : World) : okL mi [(.sl ch_x1.1 (x1).length ch_x1.2 (RdS (Ty.int .u8) ch_x1.1 x1)), (.v (.bool x2)), (.v (.int .u64 x3)), (.v (.int .u64 x4))] → Frz mi w0 → Calls Try.prog 19 (([(.sl ch_x1.1 (x1).length ch_x1.2 (RdS (Ty.int .u8) ch_x1.1 x1)), (.v (.bool x2)), (.v (.int .u64 x3)), (.v (.int .u64 x4))] : List D).map D.val).toArray w0 (Ret mi (.v (.int .u64 r)) w0) := by
  intro ok hm
  delta smithyref12_Intrinsic.f at h0
  refine c_enter (n := 43) [(.sl ch_x1.1 (x1).length ch_x1.2 (RdS (Ty.int .u8) ch_x1.1 x1)), (.v (.bool x2)), (.v (.int .u64 x3)), (.v (.int .u64 x4))] (l := [(0, (.sl ch_x1.1 (x1).length ch_x1.2 (RdS (Ty.int .u8) ch_x1.1 x1))), (1, (.v (.bool x2))), (2, (.v (.int .u64 x3))), (3, (.v (.int .u64 x4)))]) Try.func19 rfl rfl rfl rfl ok hm ?_
  clear ok hm
  intro a S
  refine c_region ?_
  refine s_assign S rfl rfl ?_; clear S a; intro a S
  refine c_end ?_
  refine c_region ?_
  refine s_assign S rfl rfl ?_; clear S a; intro a S
  refine c_end ?_
  refine wp_seq_k ?_
  intro K1 hK1
  have j1 : ∀ (m : Mem) (y1 : Int) (a : Act) (w : World), St 43 m ⟨mi, w0⟩ [(9, (.v (.int .u64 y1))), (0, (.sl ch_x1.1 (x1).length ch_x1.2 (RdS (Ty.int .u8) ch_x1.1 x1))), (1, (.v (.bool x2))), (2, (.v (.int .u64 x3))), (3, (.v (.int .u64 x4)))] [] a w → smithyref12_Intrinsic.j1 x1 x2 x3 x4 y1 = some r → K1 a w := by
    intro m y1 a w S h0
    delta smithyref12_Intrinsic.j1 at h0
    refine hK1 a w ?_
    refine wp_seq_k ?_
    intro K2 hK2
    have j2 : ∀ (m : Mem) (y2 : Int) (a : Act) (w : World), St 43 m ⟨mi, w0⟩ [(9, (.v (.int .u64 y2))), (2, (.v (.int .u64 x3))), (3, (.v (.int .u64 x4)))] [] a w → smithyref12_Intrinsic.j2 x3 x4 y2 = some r → K2 a w := by
      intro m y2 a w S h0
      delta smithyref12_Intrinsic.j2 at h0
      refine hK2 a w ?_
      refine c_region ?_
      refine s_move S rfl rfl ?_; clear S a; intro a S
      refine s_move S rfl rfl ?_; clear S a; intro a S
      refine s_bin S rfl rfl rfl rfl ?_; clear S a; intro a S
      refine s_bin S rfl rfl rfl rfl ?_; clear S a; intro a S
      refine s_move S rfl rfl ?_; clear S a; intro a S
      refine s_bin S rfl rfl rfl rfl ?_; clear S a; intro a S
      refine s_bin S rfl rfl rfl rfl ?_; clear S a; intro a S
      refine s_assign S rfl rfl ?_; clear S a; intro a S
      refine c_end ?_
      refine wp_ret ?_
      obtain rfl := Option.some.inj h0
      exact b_ret1 (d := (.v (.int .u64 (wr .u64 ((wr .u64 (y2 + (wr .u64 (x3 * 2400)))) + (wr .u64 (x4 * 1900))))))) S rfl rfl fun ok => ⟨rfl, ok, S.below⟩
    refine c_region ?_
    refine s_move S rfl rfl ?_; clear S a; intro a S
    refine c_end ?_
    rcases ite_of h0 with ⟨c1, h1⟩ | ⟨c1, h1⟩ <;> clear h0
    · refine c_condT S rfl c1 ?_
      refine c_region ?_
      refine s_move S rfl rfl ?_; clear S a; intro a S
      refine s_bin S rfl rfl rfl rfl ?_; clear S a; intro a S
      refine s_assign S rfl rfl ?_; clear S a; intro a S
      refine c_end ?_
      refine c_region' ?_
      refine s_move S rfl rfl ?_; clear S a; intro a S
      refine s_move S rfl rfl ?_; clear S a; intro a S
      refine s_lenS S rfl Try.underlying38 rfl ?_; clear S a; intro a S
      refine s_conv S rfl rfl Try.underlying22 rfl ?_; clear S a; intro a S
      obtain ⟨t1, et1, h2⟩ := bind_of h1; clear h1
      refine s_call S (ds := [(.v (.int .u64 (wr .u64 ((x1).length : Int))))]) (d := (.v (.int .u64 t1))) N20 rfl rfl (smithyref10_Words.ok (wr .u64 ((x1).length : Int)) t1 et1 _ _) ?_; clear S a w; intro a w S
      refine s_bin S rfl rfl rfl rfl ?_; clear S a; intro a S
      refine s_bin S rfl rfl rfl rfl ?_; clear S a; intro a S
      refine s_assign S rfl rfl ?_; clear S a; intro a S
      refine c_end' ?_
      refine x_thenN ?_
      exact j2 _ (wr .u64 ((wr .u64 (y1 + 32000)) + (wr .u64 (2 * t1)))) a w (S.sub ⟨rfl, rfl, rfl, trivial⟩ .nil) h2
    · refine c_condF S rfl c1 ?_
      refine wp_skip ?_
      refine x_thenN ?_
      exact j2 _ y1 a w (S.sub ⟨rfl, rfl, rfl, trivial⟩ .nil) h1
  refine c_region ?_
  refine s_move S rfl rfl ?_; clear S a; intro a S
  refine s_lenS S rfl Try.underlying38 rfl ?_; clear S a; intro a S
  refine s_move S rfl rfl ?_; clear S a; intro a S
  refine c_end ?_
  refine wp_block ?_
  refine c_loop (fun q1 a w => ∃ (m : Mem) (y7 : Int) (y8 : Int), St 43 m ⟨mi, w0⟩ [(13, (.v (.int .i64 y7))), (12, (.v (.int .i64 ((x1).length : Int)))), (9, (.v (.int .u64 y8))), (0, (.sl ch_x1.1 (x1).length ch_x1.2 (RdS (Ty.int .u8) ch_x1.1 x1))), (1, (.v (.bool x2))), (2, (.v (.int .u64 x3))), (3, (.v (.int .u64 x4)))] [] a w ∧ smithyref12_Intrinsic.l1 x1 x2 x3 x4 q1 y7 y8 = some r) ?_ ?_ (k := k) ⟨_, 0, 21000, (S.sub ⟨rfl, rfl, rfl, rfl, rfl, rfl, rfl, trivial⟩ .nil), h0⟩
  · rintro a w ⟨m, y7, y8, S, h0⟩
    exact (nomatch (show (none : Option Int) = some r from h0))
  · clear S h0
    rintro q1 a w ⟨m, y7, y8, S, h0⟩
    replace h0 : smithyref12_Intrinsic.b1 x1 x2 x3 x4 (smithyref12_Intrinsic.l1 x1 x2 x3 x4 q1) y7 y8 = some r := h0
    delta smithyref12_Intrinsic.b1 at h0
    refine c_region ?_
    refine s_bin S rfl rfl rfl rfl ?_; clear S a; intro a S
    refine c_end ?_
    refine wp_seq ?_
    rcases ite_of h0 with ⟨c2, h1⟩ | ⟨c2, h1⟩ <;> clear h0
    · refine c_condT S rfl c2 ?_
      refine wp_skip ?_
      refine x_thenN ?_
      refine wp_seq_k ?_
      intro K3 hK3
      have j3 : ∀ (m : Mem) (y9 : Int) (a : Act) (w : World), St 43 m ⟨mi, w0⟩ [(9, (.v (.int .u64 y9))), (13, (.v (.int .i64 y7))), (12, (.v (.int .i64 ((x1).length : Int)))), (0, (.sl ch_x1.1 (x1).length ch_x1.2 (RdS (Ty.int .u8) ch_x1.1 x1))), (1, (.v (.bool x2))), (2, (.v (.int .u64 x3))), (3, (.v (.int .u64 x4)))] [] a w → smithyref12_Intrinsic.j3 y7 (smithyref12_Intrinsic.l1 x1 x2 x3 x4 q1) y9 = some r → K3 a w := by
        intro m y9 a w S h0
        delta smithyref12_Intrinsic.j3 at h0
        refine hK3 a w ?_
        refine c_region' ?_
        refine s_bin S rfl rfl rfl rfl ?_; clear S a; intro a S
        refine s_move S rfl rfl ?_; clear S a; intro a S
        refine c_end' ?_
        refine x_thenN ?_
        exact ⟨_, (wr .i64 (y7 + 1)), y9, (S.sub ⟨rfl, rfl, rfl, rfl, rfl, rfl, rfl, trivial⟩ .nil), h0⟩
      refine wp_block ?_
      refine c_region ?_
      refine s_move S rfl rfl ?_; clear S a; intro a S
      refine s_assign S rfl rfl ?_; clear S a; intro a S
      refine c_end ?_
      refine c_region ?_
      refine s_move S rfl rfl ?_; clear S a; intro a S
      refine s_bin S rfl rfl rfl rfl ?_; clear S a; intro a S
      refine s_assign S rfl rfl ?_; clear S a; intro a S
      refine c_end ?_
      refine c_region ?_
      refine s_move S rfl rfl ?_; clear S a; intro a S
      refine s_move S rfl rfl ?_; clear S a; intro a S
      obtain ⟨c3, h2⟩ := chk_of h1; clear h1
      refine s_iaddrS S rfl rfl rfl Try.underlying38 T5 c3.1 c3.2 rfl ?_; clear S a; intro p1 a S
      refine s_ld1 S (v := (.int .u8 (rd x1 y7))) rfl T5 (fun _ => rfl) rfl ?_; clear S a; intro a S
      refine s_bin S rfl rfl rfl rfl ?_; clear S a; intro a S
      refine c_end ?_
      rcases ite_of h2 with ⟨c4, h3⟩ | ⟨c4, h3⟩ <;> clear h2
      · refine c_condT S rfl c4 ?_
        refine c_region' ?_
        refine s_move S rfl rfl ?_; clear S a; intro a S
        refine s_bin S rfl rfl rfl rfl ?_; clear S a; intro a S
        refine s_assign S rfl rfl ?_; clear S a; intro a S
        refine c_end' ?_
        refine x_blockN ?_
        refine x_thenN ?_
        exact j3 _ (wr .u64 ((wr .u64 (y8 + 4)) + 12)) a w (S.sub ⟨rfl, rfl, rfl, rfl, rfl, rfl, rfl, trivial⟩ .nil) h3
      · refine c_condF S rfl c4 ?_
        refine wp_skip ?_
        refine x_blockN ?_
        refine x_thenN ?_
        exact j3 _ (wr .u64 (y8 + 4)) a w (S.sub ⟨rfl, rfl, rfl, rfl, rfl, rfl, rfl, trivial⟩ .nil) h3
    · refine c_condF S rfl c2 ?_
      refine wp_exit ?_
      refine x_thenX ?_
      refine x_thenX ?_
      refine x_blockX ?_
      refine x_thenN ?_
      exact j1 _ y8 a w (S.sub ⟨rfl, rfl, rfl, rfl, rfl, trivial⟩ .nil) h1
/-! smithy/smithylaw12.GasIntrinsic -/
def smithylaw12_GasIntrinsic.f (k : Nat) (x1 : List Int) (x2 : Bool) (x3 : Int) (x4 : Int) : Option Bool := if (decide (5000 < ((x1).length : Int))) = true then ((smithylaw12_fixed.f).bind fun t1 => (some t1)) else ((smithylaw12_fixed.f).bind fun t2 => (if t2 = true then ((gas_Intrinsic.f k x1 x2 (Int.tmod x3 4294967297) (Int.tmod x4 4294967297)).bind fun t3 => ((smithyref12_Intrinsic.f k x1 x2 (Int.tmod x3 4294967297) (Int.tmod x4 4294967297)).bind fun t4 => (some (t3 == t4)))) else (some false)))
theorem smithylaw12_GasIntrinsic.ok (k : Nat) (x1 : List Int) (x2 : Bool) (x3 : Int) (x4 : Int) (ch_x1 : Option Addr × Nat) (r : Bool) (h0 : smithylaw12_GasIntrinsic.f k x1 x2 x3 x4 = some r) (mi : Mem) (w0 : World) : okL mi [(.sl ch_x1.1 (x1).length ch_x1.2 (RdS (Ty.int .u8) ch_x1.1 x1)), (.v (.bool x2)), (.v (.int .u64 x3)), (.v (.int .u64 x4))] → Frz mi w0 → Calls Try.prog 7 (([(.sl ch_x1.1 (x1).length ch_x1.2 (RdS (Ty.int .u8) ch_x1.1 x1)), (.v (.bool x2)), (.v (.int .u64 x3)), (.v (.int .u64 x4))] : List D).map D.val).toArray w0 (Ret mi (.v (.bool r)) w0) := by
  intro ok hm
  delta smithylaw12_GasIntrinsic.f at h0
  refine c_enter (n := 31) [(.sl ch_x1.1 (x1).length ch_x1.2 (RdS (Ty.int .u8) ch_x1.1 x1)), (.v (.bool x2)), (.v (.int .u64 x3)), (.v (.int .u64 x4))] (l := [(0, (.sl ch_x1.1 (x1).length ch_x1.2 (RdS (Ty.int .u8) ch_x1.1 x1))), (1, (.v (.bool x2))), (2, (.v (.int .u64 x3))), (3, (.v (.int .u64 x4)))]) Try.func7 rfl rfl rfl rfl ok hm ?_
  clear ok hm
  intro a S
  refine c_region ?_
  refine s_assign S rfl rfl ?_; clear S a; intro a S
  refine c_end ?_
  refine wp_seq ?_
  refine c_region ?_
  refine s_move S rfl rfl ?_; clear S a; intro a S
  refine s_lenS S rfl Try.underlying38 rfl ?_; clear S a; intro a S
  refine s_bin S rfl rfl rfl rfl ?_; clear S a; intro a S
  refine c_end ?_
  rcases ite_of h0 with ⟨c1, h1⟩ | ⟨c1, h1⟩ <;> clear h0
  · refine c_condT S rfl c1 ?_
    refine c_region ?_
    obtain ⟨t1, et1, h2⟩ := bind_of h1; clear h1
    refine s_call S (ds := []) (d := (.v (.bool t1))) N11 rfl rfl (smithylaw12_fixed.ok t1 et1 _ _) ?_; clear S a; intro a w S
    refine s_assign S rfl rfl ?_; clear S a; intro a S
    refine c_end ?_
    refine wp_ret ?_
    refine x_thenR ?_
    obtain rfl := Option.some.inj h2
    exact b_ret1 (d := (.v (.bool t1))) S rfl rfl fun ok => ⟨rfl, ok, S.below⟩
  · refine c_condF S rfl c1 ?_
    refine wp_skip ?_
    refine x_thenN ?_
    refine c_region ?_
    refine s_move S rfl rfl ?_; clear S a; intro a S
    refine s_rem S rfl rfl (by decide) rfl ?_; clear S a; intro a S
    refine s_assign S rfl rfl ?_; clear S a; intro a S
    refine c_end ?_
    refine c_region ?_
    refine s_move S rfl rfl ?_; clear S a; intro a S
    refine s_rem S rfl rfl (by decide) rfl ?_; clear S a; intro a S
    refine s_assign S rfl rfl ?_; clear S a; intro a S
    refine c_end ?_
    refine c_region ?_
    obtain ⟨t2, et2, h2⟩ := bind_of h1; clear h1
    refine s_call S (ds := []) (d := (.v (.bool t2))) N11 rfl rfl (smithylaw12_fixed.ok t2 et2 _ _) ?_; clear S a; intro a w S
    refine s_move S rfl rfl ?_; clear S a; intro a S
    rcases ite_of h2 with ⟨c2, h3⟩ | ⟨c2, h3⟩ <;> clear h2
    · refine s_gT S (b := t2) rfl rfl c2 ?_
      refine s_move S rfl rfl ?_; clear S a; intro a S
      refine s_gT S (b := t2) rfl rfl c2 ?_
      refine s_move S rfl rfl ?_; clear S a; intro a S
      refine s_gT S (b := t2) rfl rfl c2 ?_
      refine s_move S rfl rfl ?_; clear S a; intro a S
      refine s_gT S (b := t2) rfl rfl c2 ?_
      refine s_move S rfl rfl ?_; clear S a; intro a S
      refine s_gT S (b := t2) rfl rfl c2 ?_
      obtain ⟨t3, et3, h4⟩ := bind_of h3; clear h3
      refine s_call S (ds := [(.sl ch_x1.1 (x1).length ch_x1.2 (RdS (Ty.int .u8) ch_x1.1 x1)), (.v (.bool x2)), (.v (.int .u64 (Int.tmod x3 4294967297))), (.v (.int .u64 (Int.tmod x4 4294967297)))]) (d := (.v (.int .u64 t3))) N18 rfl rfl (gas_Intrinsic.ok k x1 x2 (Int.tmod x3 4294967297) (Int.tmod x4 4294967297) (ch_x1.1, ch_x1.2) t3 et3 _ _) ?_; clear S a w; intro a w S
      refine s_gT S (b := t2) rfl rfl c2 ?_
      refine s_move S rfl rfl ?_; clear S a; intro a S
      refine s_gT S (b := t2) rfl rfl c2 ?_
      refine s_move S rfl rfl ?_; clear S a; intro a S
      refine s_gT S (b := t2) rfl rfl c2 ?_
      refine s_move S rfl rfl ?_; clear S a; intro a S
      refine s_gT S (b := t2) rfl rfl c2 ?_
      refine s_move S rfl rfl ?_; clear S a; intro a S
      refine s_gT S (b := t2) rfl rfl c2 ?_
      obtain ⟨t4, et4, h5⟩ := bind_of h4; clear h4
      refine s_call S (ds := [(.sl ch_x1.1 (x1).length ch_x1.2 (RdS (Ty.int .u8) ch_x1.1 x1)), (.v (.bool x2)), (.v (.int .u64 (Int.tmod x3 4294967297))), (.v (.int .u64 (Int.tmod x4 4294967297)))]) (d := (.v (.int .u64 t4))) N19 rfl rfl (smithyref12_Intrinsic.ok k x1 x2 (Int.tmod x3 4294967297) (Int.tmod x4 4294967297) (ch_x1.1, ch_x1.2) t4 et4 _ _) ?_; clear S a w; intro a w S
      refine s_gT S (b := t2) rfl rfl c2 ?_
      refine s_bin S rfl rfl rfl rfl ?_; clear S a; intro a S
      refine s_pick S (b := true) (hc_of rfl c2) rfl rfl ?_; clear S a; intro a S
      refine s_assign S rfl rfl ?_; clear S a; intro a S
      refine c_end ?_
      refine wp_ret ?_
      obtain rfl := Option.some.inj h5
      exact b_ret1 (d := (.v (.bool (t3 == t4)))) S rfl rfl fun ok => ⟨rfl, ok, S.below⟩
    · refine s_gF S (b := t2) rfl rfl c2 rfl ?_; clear S a; intro a S
      refine s_gF S (b := t2) rfl rfl c2 rfl ?_; clear S a; intro a S
      refine s_gF S (b := t2) rfl rfl c2 rfl ?_; clear S a; intro a S
      refine s_gF S (b := t2) rfl rfl c2 rfl ?_; clear S a; intro a S
      refine s_gF S (b := t2) rfl rfl c2 rfl ?_; clear S a; intro a S
      refine s_gF S (b := t2) rfl rfl c2 rfl ?_; clear S a; intro a S
      refine s_gF S (b := t2) rfl rfl c2 rfl ?_; clear S a; intro a S
      refine s_gF S (b := t2) rfl rfl c2 rfl ?_; clear S a; intro a S
      refine s_gF S (b := t2) rfl rfl c2 rfl ?_; clear S a; intro a S
      refine s_gF S (b := t2) rfl rfl c2 rfl ?_; clear S a; intro a S
      refine s_gF S (b := t2) rfl rfl c2 rfl ?_; clear S a; intro a S
      refine s_pick S (b := false) (hc_of rfl c2) rfl rfl ?_; clear S a; intro a S
      refine s_assign S rfl rfl ?_; clear S a; intro a S
      refine c_end ?_
      refine wp_ret ?_
      obtain rfl := Option.some.inj h3
      exact b_ret1 (d := (.v (.bool false))) S rfl rfl fun ok => ⟨rfl, ok, S.below⟩
/-! math/bits.Len64 -/
def bits_Len64.j3 (y5 : Int) (y6 : Int) : Option Int := if 0 ≤ (wr .u8 y6) ∧ (wr .u8 y6) < (txt0.size : Int) then (some (wr .i64 (y5 + (wr .i64 (bt txt0 (wr .u8 y6)))))) else none
def bits_Len64.j2 (y3 : Int) (y4 : Int) : Option Int := if (decide (256 ≤ y4)) = true then (bits_Len64.j3 (wr .i64 (y3 + 8)) (shr y4 8)) else (bits_Len64.j3 y3 y4)
def bits_Len64.j1 (y1 : Int) (y2 : Int) : Option Int := if (decide (65536 ≤ y2)) = true then (bits_Len64.j2 (wr .i64 (y1 + 16)) (shr y2 16)) else (bits_Len64.j2 y1 y2)
def bits_Len64.f (x1 : Int) : Option Int := if (decide (4294967296 ≤ x1)) = true then (bits_Len64.j1 32 (shr x1 32)) else (bits_Len64.j1 0 x1)
theorem bits_Len64.ok (x1 : Int) (r : Int) (h0 : bits_Len64.f x1 = some r) (mi : Mem) (w0 : World) : okL mi [(.v (.int .u64 x1))] → Frz mi w0 → Calls Try.prog 36 (([(.v (.int .u64 x1))] : List D).map D.val).toArray w0 (Ret mi (.v (.int .i64 r)) w0) := by
  intro ok hm
  delta bits_Len64.f at h0
  refine c_enter (n := 25) [(.v (.int .u64 x1))] (l := [(0, (.v (.int .u64 x1)))]) Try.func36 rfl rfl rfl rfl ok hm ?_
  clear ok hm
  intro a S
  refine c_region ?_
  refine s_assign S rfl rfl ?_; clear S a; intro a S
  refine c_end ?_
  refine wp_seq_k ?_
  intro K1 hK1
  have j1 : ∀ (m : Mem) (y1 : Int) (y2 : Int) (a : Act) (w : World), St 25 m ⟨mi, w0⟩ [(2, (.v (.int .i64 y1))), (0, (.v (.int .u64 y2)))] [] a w → bits_Len64.j1 y1 y2 = some r → K1 a w := by
    intro m y1 y2 a w S h0
    delta bits_Len64.j1 at h0
    refine hK1 a w ?_
    refine wp_seq_k ?_
    intro K2 hK2
    have j2 : ∀ (m : Mem) (y3 : Int) (y4 : Int) (a : Act) (w : World), St 25 m ⟨mi, w0⟩ [(2, (.v (.int .i64 y3))), (0, (.v (.int .u64 y4)))] [] a w → bits_Len64.j2 y3 y4 = some r → K2 a w := by
      intro m y3 y4 a w S h0
      delta bits_Len64.j2 at h0
      refine hK2 a w ?_
      refine wp_seq_k ?_
      intro K3 hK3
      have j3 : ∀ (m : Mem) (y5 : Int) (y6 : Int) (a : Act) (w : World), St 25 m ⟨mi, w0⟩ [(2, (.v (.int .i64 y5))), (0, (.v (.int .u64 y6)))] [] a w → bits_Len64.j3 y5 y6 = some r → K3 a w := by
        intro m y5 y6 a w S h0
        delta bits_Len64.j3 at h0
        refine hK3 a w ?_
        refine c_region ?_
        refine s_move S rfl rfl ?_; clear S a; intro a S
        refine s_move S rfl rfl ?_; clear S a; intro a S
        refine s_conv S rfl rfl Try.underlying5 rfl ?_; clear S a; intro a S
        obtain ⟨c1, h1⟩ := chk_of h0; clear h0
        refine s_indexT S rfl rfl Try.underlying9 c1.1 c1.2 rfl ?_; clear S a; intro a S
        refine s_conv S rfl rfl Try.underlying3 rfl ?_; clear S a; intro a S
        refine s_bin S rfl rfl rfl rfl ?_; clear S a; intro a S
        refine s_assign S rfl rfl ?_; clear S a; intro a S
        refine c_end ?_
        refine wp_ret ?_
        obtain rfl := Option.some.inj h1
        exact b_ret1 (d := (.v (.int .i64 (wr .i64 (y5 + (wr .i64 (bt txt0 (wr .u8 y6)))))))) S rfl rfl fun ok => ⟨rfl, ok, S.below⟩
      refine c_region ?_
      refine s_move S rfl rfl ?_; clear S a; intro a S
      refine s_bin S rfl rfl rfl rfl ?_; clear S a; intro a S
      refine c_end ?_
      rcases ite_of h0 with ⟨c2, h1⟩ | ⟨c2, h1⟩ <;> clear h0
      · refine c_condT S rfl c2 ?_
        refine c_region ?_
        refine s_move S rfl rfl ?_; clear S a; intro a S
        refine s_shr S (e := 8) rfl rfl (by decide) rfl rfl ?_; clear S a; intro a S
        refine s_assign S rfl rfl ?_; clear S a; intro a S
        refine c_end ?_
        refine c_region' ?_
        refine s_move S rfl rfl ?_; clear S a; intro a S
        refine s_bin S rfl rfl rfl rfl ?_; clear S a; intro a S
        refine s_assign S rfl rfl ?_; clear S a; intro a S
        refine c_end' ?_
        refine x_thenN ?_
        exact j3 _ (wr .i64 (y3 + 8)) (shr y4 8) a w (S.sub ⟨rfl, rfl, trivial⟩ .nil) h1
      · refine c_condF S rfl c2 ?_
        refine wp_skip ?_
        refine x_thenN ?_
        exact j3 _ y3 y4 a w (S.sub ⟨rfl, rfl, trivial⟩ .nil) h1
    refine c_region ?_
    refine s_move S rfl rfl ?_; clear S a; intro a S
    refine s_bin S rfl rfl rfl rfl ?_; clear S a; intro a S
    refine c_end ?_
    rcases ite_of h0 with ⟨c3, h1⟩ | ⟨c3, h1⟩ <;> clear h0
    · refine c_condT S rfl c3 ?_
      refine c_region ?_
      refine s_move S rfl rfl ?_; clear S a; intro a S
      refine s_shr S (e := 16) rfl rfl (by decide) rfl rfl ?_; clear S a; intro a S
      refine s_assign S rfl rfl ?_; clear S a; intro a S
      refine c_end ?_
      refine c_region' ?_
      refine s_move S rfl rfl ?_; clear S a; intro a S
      refine s_bin S rfl rfl rfl rfl ?_; clear S a; intro a S
      refine s_assign S rfl rfl ?_; clear S a; intro a S
      refine c_end' ?_
      refine x_thenN ?_
      exact j2 _ (wr .i64 (y1 + 16)) (shr y2 16) a w (S.sub ⟨rfl, rfl, trivial⟩ .nil) h1
    · refine c_condF S rfl c3 ?_
      refine wp_skip ?_
      refine x_thenN ?_
      exact j2 _ y1 y2 a w (S.sub ⟨rfl, rfl, trivial⟩ .nil) h1
  refine c_region ?_
  refine s_move S rfl rfl ?_; clear S a; intro a S
  refine s_bin S rfl rfl rfl rfl ?_; clear S a; intro a S
  refine c_end ?_
  rcases ite_of h0 with ⟨c4, h1⟩ | ⟨c4, h1⟩ <;> clear h0
  · refine c_condT S rfl c4 ?_
    refine c_region ?_
    refine s_move S rfl rfl ?_; clear S a; intro a S
    refine s_shr S (e := 32) rfl rfl (by decide) rfl rfl ?_; clear S a; intro a S
    refine s_assign S rfl rfl ?_; clear S a; intro a S
    refine c_end ?_
    refine c_region' ?_
    refine s_assign S rfl rfl ?_; clear S a; intro a S
    refine c_end' ?_
    refine x_thenN ?_
    exact j1 _ 32 (shr x1 32) a w0 (S.sub ⟨rfl, rfl, trivial⟩ .nil) h1
  · refine c_condF S rfl c4 ?_
    refine wp_skip ?_
    refine x_thenN ?_
    exact j1 _ 0 x1 a w0 (S.sub ⟨rfl, rfl, trivial⟩ .nil) h1
/-! smithy/word.Len -/
def word_Len.j1 : Option Int := some 0
def word_Len.b1 (x1 : List Int) (rec1 : Int → Option Int) (y1 : Int) : Option Int := if (decide (0 ≤ y1)) = true then (if 0 ≤ y1 ∧ y1 < 4 then (if ((rd x1 y1) != 0) = true then ((bits_Len64.f (rd x1 y1)).bind fun t1 => (some (wr .i64 ((wr .i64 (64 * y1)) + t1)))) else (rec1 (wr .i64 (y1 - 1)))) else none) else word_Len.j1
def word_Len.l1 (x1 : List Int) : Nat → Int → Option Int
  | 0, _ => none
  | q + 1, y1 => word_Len.b1 x1 (word_Len.l1 x1 q) y1
def word_Len.f (k : Nat) (x1 : List Int) : Option Int := word_Len.l1 x1 k 3
theorem word_Len.ok (k : Nat) (x1 : List Int) (r : Int) (h0 : word_Len.f k x1 = some r) (mi : Mem) (w0 : World) : okL mi [(.agg [.ints .u64 x1 4])] → Frz mi w0 → Calls Try.prog 34 (([(.agg [.ints .u64 x1 4])] : List D).map D.val).toArray w0 (Ret mi (.v (.int .i64 r)) w0) := by
  intro ok hm
  delta word_Len.f at h0
  refine c_enter (n := 19) [(.agg [.ints .u64 x1 4])] (l := [(0, (.agg [.ints .u64 x1 4]))]) Try.func34 rfl rfl rfl rfl ok hm ?_
  clear ok hm
  intro a S
  refine c_region ?_
  refine s_box S rfl rfl rfl ?_; clear S a; intro g1 a w S
  refine s_assign S rfl rfl ?_; clear S a; intro a S
  refine c_end ?_
  refine wp_seq_k ?_
  intro K1 hK1
  have j1 : ∀ (m : Mem) (a : Act) (w : World), St 19 m ⟨mi, w0⟩ [] [] a w → word_Len.j1 = some r → K1 a w := by
    intro m a w S h0
    delta word_Len.j1 at h0
    refine hK1 a w ?_
    refine c_region ?_
    refine s_assign S rfl rfl ?_; clear S a; intro a S
    refine c_end ?_
    refine wp_ret ?_
    obtain rfl := Option.some.inj h0
    exact b_ret1 (d := (.v (.int .i64 0))) S rfl rfl fun ok => ⟨rfl, ok, S.below⟩
  refine c_region ?_
  refine s_assign S rfl rfl ?_; clear S a; intro a S
  refine c_end ?_
  refine wp_block ?_
  refine c_loop (fun q1 a w => ∃ (m : Mem) (y1 : Int) (g4 : Nat), St 19 m ⟨mi, w0⟩ [(3, (.v (.int .i64 y1))), (1, (.v (.pointer (some ⟨g4, 0, none⟩))))] [Res.cells g4 24 [.ints .u64 x1 4]] a w ∧ word_Len.l1 x1 q1 y1 = some r) ?_ ?_ (k := k) ⟨_, 3, g1, (S.sub ⟨rfl, rfl, trivial⟩ (.cons .here .nil)), h0⟩
  · rintro a w ⟨m, y1, g4, S, h0⟩
    exact (nomatch (show (none : Option Int) = some r from h0))
  · clear S h0
    rintro q1 a w ⟨m, y1, g4, S, h0⟩
    replace h0 : word_Len.b1 x1 (word_Len.l1 x1 q1) y1 = some r := h0
    delta word_Len.b1 at h0
    refine wp_seq ?_
    refine c_region ?_
    refine s_move S rfl rfl ?_; clear S a; intro a S
    refine s_bin S rfl rfl rfl rfl ?_; clear S a; intro a S
    refine c_end ?_
    rcases ite_of h0 with ⟨c1, h1⟩ | ⟨c1, h1⟩ <;> clear h0
    · refine c_condT S rfl c1 ?_
      refine wp_skip ?_
      refine x_thenN ?_
      refine wp_seq ?_
      refine wp_block ?_
      refine c_region ?_
      refine s_move S rfl rfl ?_; clear S a; intro a S
      obtain ⟨c2, h2⟩ := chk_of h1; clear h1
      refine s_iaddr S rfl rfl Try.underlying24 T22 c2.1 c2.2 (mul1 _ _) rfl ?_; clear S a; intro a S
      refine s_loadi S (i := y1) rfl .here T22 .here rfl c2.1 c2.2 rfl ?_; clear S a; intro a S
      refine s_bin S rfl rfl rfl rfl ?_; clear S a; intro a S
      refine c_end ?_
      rcases ite_of h2 with ⟨c3, h3⟩ | ⟨c3, h3⟩ <;> clear h2
      · refine c_condT S rfl c3 ?_
        refine c_region ?_
        refine s_move S rfl rfl ?_; clear S a; intro a S
        refine s_bin S rfl rfl rfl rfl ?_; clear S a; intro a S
        refine s_move S rfl rfl ?_; clear S a; intro a S
        refine s_iaddr S rfl rfl Try.underlying24 T22 c2.1 c2.2 (mul1 _ _) rfl ?_; clear S a; intro a S
        refine s_loadi S (i := y1) rfl .here T22 .here rfl c2.1 c2.2 rfl ?_; clear S a; intro a S
        obtain ⟨t1, et1, h4⟩ := bind_of h3; clear h3
        refine s_call S (ds := [(.v (.int .u64 (rd x1 y1)))]) (d := (.v (.int .i64 t1))) N36 rfl rfl (bits_Len64.ok (rd x1 y1) t1 et1 _ _) ?_; clear S a w; intro a w S
        refine s_bin S rfl rfl rfl rfl ?_; clear S a; intro a S
        refine s_assign S rfl rfl ?_; clear S a; intro a S
        refine c_end ?_
        refine wp_ret ?_
        refine x_blockR ?_
        refine x_thenR ?_
        refine x_thenR ?_
        refine x_blockR ?_
        refine x_thenR ?_
        obtain rfl := Option.some.inj h4
        exact b_ret1 (d := (.v (.int .i64 (wr .i64 ((wr .i64 (64 * y1)) + t1))))) S rfl rfl fun ok => ⟨rfl, ok, S.below⟩
      · refine c_condF S rfl c3 ?_
        refine wp_skip ?_
        refine x_blockN ?_
        refine x_thenN ?_
        refine c_region' ?_
        refine s_move S rfl rfl ?_; clear S a; intro a S
        refine s_bin S rfl rfl rfl rfl ?_; clear S a; intro a S
        refine s_assign S rfl rfl ?_; clear S a; intro a S
        refine c_end' ?_
        refine x_thenN ?_
        exact ⟨_, (wr .i64 (y1 - 1)), g4, (S.sub ⟨rfl, rfl, trivial⟩ (.cons .here .nil)), h3⟩
    · refine c_condF S rfl c1 ?_
      refine wp_exit ?_
      refine x_thenX ?_
      refine x_thenX ?_
      refine x_blockX ?_
      refine x_thenN ?_
      exact j1 _ a w (S.sub trivial .nil) h1
/-! smithy/word.Size -/
def word_Size.f (k : Nat) (x1 : List Int) : Option Int := (word_Len.f k x1).bind fun t1 => (some (wr .i64 (Int.tdiv (wr .i64 (t1 + 7)) 8)))
theorem word_Size.ok (k : Nat) (x1 : List Int) (r : Int) (h0 : word_Size.f k x1 = some r) (mi : Mem) (w0 : World) : okL mi [(.agg [.ints .u64 x1 4])] → Frz mi w0 → Calls Try.prog 31 (([(.agg [.ints .u64 x1 4])] : List D).map D.val).toArray w0 (Ret mi (.v (.int .i64 r)) w0) := by
  intro ok hm
  delta word_Size.f at h0
  refine c_enter (n := 7) [(.agg [.ints .u64 x1 4])] (l := [(0, (.agg [.ints .u64 x1 4]))]) Try.func31 rfl rfl rfl rfl ok hm ?_
  clear ok hm
  intro a S
  refine c_region ?_
  refine s_box S rfl rfl rfl ?_; clear S a; intro g1 a w S
  refine s_assign S rfl rfl ?_; clear S a; intro a S
  refine c_end ?_
  refine c_region ?_
  refine s_loada S rfl .here T24 (s' := [.ints .u64 x1 4]) rfl rfl ?_; clear S a; intro a S
  obtain ⟨t1, et1, h1⟩ := bind_of h0; clear h0
  refine s_call S (ds := [(.agg [.ints .u64 x1 4])]) (d := (.v (.int .i64 t1))) N34 rfl rfl (word_Len.ok k x1 t1 et1 _ _) ?_; clear S a w; intro a w S
  refine s_bin S rfl rfl rfl rfl ?_; clear S a; intro a S
  refine s_quo S rfl rfl (by decide) rfl ?_; clear S a; intro a S
  refine s_assign S rfl rfl ?_; clear S a; intro a S
  refine c_end ?_
  refine wp_ret ?_
  obtain rfl := Option.some.inj h1
  exact b_ret1 (d := (.v (.int .i64 (wr .i64 (Int.tdiv (wr .i64 (t1 + 7)) 8))))) S rfl rfl fun ok => ⟨rfl, ok, S.below⟩
/-! smithy/gas.Exp -/
def gas_Exp.f (k : Nat) (x1 : List Int) : Option Int := (word_Size.f k x1).bind fun t1 => (some (wr .u64 (10 + (wr .u64 (50 * (wr .u64 t1))))))
theorem gas_Exp.ok (k : Nat) (x1 : List Int) (r : Int) (h0 : gas_Exp.f k x1 = some r) (mi : Mem) (w0 : World) : okL mi [(.agg [.ints .u64 x1 4])] → Frz mi w0 → Calls Try.prog 21 (([(.agg [.ints .u64 x1 4])] : List D).map D.val).toArray w0 (Ret mi (.v (.int .u64 r)) w0) := by
  intro ok hm
  delta gas_Exp.f at h0
  refine c_enter (n := 8) [(.agg [.ints .u64 x1 4])] (l := [(0, (.agg [.ints .u64 x1 4]))]) Try.func21 rfl rfl rfl rfl ok hm ?_
  clear ok hm
  intro a S
  refine c_region ?_
  refine s_box S rfl rfl rfl ?_; clear S a; intro g1 a w S
  refine s_assign S rfl rfl ?_; clear S a; intro a S
  refine c_end ?_
  refine c_region ?_
  refine s_loada S rfl .here T24 (s' := [.ints .u64 x1 4]) rfl rfl ?_; clear S a; intro a S
  obtain ⟨t1, et1, h1⟩ := bind_of h0; clear h0
  refine s_call S (ds := [(.agg [.ints .u64 x1 4])]) (d := (.v (.int .i64 t1))) N31 rfl rfl (word_Size.ok k x1 t1 et1 _ _) ?_; clear S a w; intro a w S
  refine s_conv S rfl rfl Try.underlying22 rfl ?_; clear S a; intro a S
  refine s_bin S rfl rfl rfl rfl ?_; clear S a; intro a S
  refine s_bin S rfl rfl rfl rfl ?_; clear S a; intro a S
  refine s_assign S rfl rfl ?_; clear S a; intro a S
  refine c_end ?_
  refine wp_ret ?_
  obtain rfl := Option.some.inj h1
  exact b_ret1 (d := (.v (.int .u64 (wr .u64 (10 + (wr .u64 (50 * (wr .u64 t1)))))))) S rfl rfl fun ok => ⟨rfl, ok, S.below⟩
/-! smithy/smithyref01.Of -/
def smithyref01_Of.j1 (y1 : List Int) : Option (List Int) := some y1
def smithyref01_Of.b1 (x1 : List Int) (rec1 : Int → (List Int) → Option (List Int)) (y4 : Int) (y5 : List Int) : Option (List Int) := if (decide (y4 < 32)) = true then (if 0 ≤ (wr .i64 (Int.tdiv y4 8)) ∧ (wr .i64 (Int.tdiv y4 8)) < 4 then (if 0 ≤ (wr .i64 (8 * (Int.tmod y4 8))) then (if 0 ≤ y4 ∧ y4 < 32 then (rec1 (wr .i64 (y4 + 1)) (y5.set (Int.toNat y4) (wr .i64 (Int.tmod (shr (rd x1 (wr .i64 (Int.tdiv y4 8))) (min (Int.toNat (wr .i64 (8 * (Int.tmod y4 8)))) 64)) 256)))) else none) else none) else none) else (smithyref01_Of.j1 y5)
def smithyref01_Of.l1 (x1 : List Int) : Nat → Int → (List Int) → Option (List Int)
  | 0, _, _ => none
  | q + 1, y4, y5 => smithyref01_Of.b1 x1 (smithyref01_Of.l1 x1 q) y4 y5
def smithyref01_Of.f (k : Nat) (x1 : List Int) : Option (List Int) := smithyref01_Of.l1 x1 k 0 [0, 0, 0, 0, 0, 0, 0, 0, 0, 0, 0, 0, 0, 0, 0, 0, 0, 0, 0, 0, 0, 0, 0, 0, 0, 0, 0, 0, 0, 0, 0, 0]
theorem smithyref01_Of.ok (k : Nat) (x1 : List Int) (r : List Int) (h0 : smithyref01_Of.f k x1 = some r) (mi : Mem) (w0 : World) : okL mi [(.agg [.ints .u64 x1 4])] → Frz mi w0 → Calls Try.prog 32 (([(.agg [.ints .u64 x1 4])] : List D).map D.val).toArray w0 (Ret mi (.agg [.ints .i64 r 32]) w0) := by
  intro ok hm
  delta smithyref01_Of.f at h0
  refine c_enter (n := 23) [(.agg [.ints .u64 x1 4])] (l := [(0, (.agg [.ints .u64 x1 4]))]) Try.func32 rfl rfl rfl rfl ok hm ?_
  clear ok hm
  intro a S
  refine c_region ?_
  refine s_box S rfl rfl rfl ?_; clear S a; intro g1 a w S
  refine s_alloc S Z49 rfl ⟨rfl, trivial⟩ rfl ?_; clear S a w; intro g2 a w S
  refine c_end ?_
  refine c_region ?_
  refine s_build S (ds := []) (dv := (.agg [.ints .i64 [0, 0, 0, 0, 0, 0, 0, 0, 0, 0, 0, 0, 0, 0, 0, 0, 0, 0, 0, 0, 0, 0, 0, 0, 0, 0, 0, 0, 0, 0, 0, 0] 32])) rfl (fun _ => by kernel_rfl) ⟨rfl, trivial⟩ rfl ?_; clear S a; intro a S
  refine s_alloc S Z49 rfl ⟨rfl, trivial⟩ rfl ?_; clear S a w; intro g3 a w S
  refine s_store S rfl rfl rfl (s' := [.ints .i64 [0, 0, 0, 0, 0, 0, 0, 0, 0, 0, 0, 0, 0, 0, 0, 0, 0, 0, 0, 0, 0, 0, 0, 0, 0, 0, 0, 0, 0, 0, 0, 0] 32]) .here T49 rfl rfl ?_; clear S w; intro w S
  refine c_end ?_
  refine wp_seq_k ?_
  intro K1 hK1
  have j1 : ∀ (m : Mem) (g4 : Nat) (g5 : Nat) (y1 : List Int) (a : Act) (w : World), St 23 m ⟨mi, w0⟩ [(3, (.v (.pointer (some ⟨g4, 0, none⟩)))), (2, (.v (.pointer (some ⟨g5, 0, none⟩))))] [Res.cells g4 49 [.ints .i64 y1 32], Res.cells g5 49 [.ints .i64 [0, 0, 0, 0, 0, 0, 0, 0, 0, 0, 0, 0, 0, 0, 0, 0, 0, 0, 0, 0, 0, 0, 0, 0, 0, 0, 0, 0, 0, 0, 0, 0] 32]] a w → smithyref01_Of.j1 y1 = some r → K1 a w := by
    intro m g4 g5 y1 a w S h0
    delta smithyref01_Of.j1 at h0
    refine hK1 a w ?_
    refine c_region ?_
    refine s_loada S rfl .here T49 (s' := [.ints .i64 y1 32]) rfl rfl ?_; clear S a; intro a S
    refine s_store S rfl rfl rfl (s' := [.ints .i64 y1 32]) (.there .here) T49 rfl rfl ?_; clear S w; intro w S
    refine c_end ?_
    refine wp_ret ?_
    obtain rfl := Option.some.inj h0
    exact b_ret1 (d := (.agg [.ints .i64 y1 32])) S rfl (resD_cell rfl (.there .here) T49 rfl rfl) fun ok => ⟨rfl, ok, S.below⟩
  refine c_region ?_
  refine s_assign S rfl rfl ?_; clear S a; intro a S
  refine c_end ?_
  refine wp_block ?_
  refine c_loop (fun q1 a w => ∃ (m : Mem) (y4 : Int) (g12 : Nat) (g13 : Nat) (g14 : Nat) (y5 : List Int), St 23 m ⟨mi, w0⟩ [(4, (.v (.int .i64 y4))), (3, (.v (.pointer (some ⟨g12, 0, none⟩)))), (2, (.v (.pointer (some ⟨g13, 0, none⟩)))), (1, (.v (.pointer (some ⟨g14, 0, none⟩))))] [Res.cells g12 49 [.ints .i64 y5 32], Res.cells g13 49 [.ints .i64 [0, 0, 0, 0, 0, 0, 0, 0, 0, 0, 0, 0, 0, 0, 0, 0, 0, 0, 0, 0, 0, 0, 0, 0, 0, 0, 0, 0, 0, 0, 0, 0] 32], Res.cells g14 24 [.ints .u64 x1 4]] a w ∧ smithyref01_Of.l1 x1 q1 y4 y5 = some r) ?_ ?_ (k := k) ⟨_, 0, g3, g2, g1, [0, 0, 0, 0, 0, 0, 0, 0, 0, 0, 0, 0, 0, 0, 0, 0, 0, 0, 0, 0, 0, 0, 0, 0, 0, 0, 0, 0, 0, 0, 0, 0], (S.sub ⟨rfl, rfl, rfl, rfl, trivial⟩ (.cons .here (.cons .here (.cons .here .nil)))), h0⟩
  · rintro a w ⟨m, y4, g12, g13, g14, y5, S, h0⟩
    exact (nomatch (show (none : Option (List Int)) = some r from h0))
  · clear S h0
    rintro q1 a w ⟨m, y4, g12, g13, g14, y5, S, h0⟩
    replace h0 : smithyref01_Of.b1 x1 (smithyref01_Of.l1 x1 q1) y4 y5 = some r := h0
    delta smithyref01_Of.b1 at h0
    refine wp_seq ?_
    refine c_region ?_
    refine s_move S rfl rfl ?_; clear S a; intro a S
    refine s_bin S rfl rfl rfl rfl ?_; clear S a; intro a S
    refine c_end ?_
    rcases ite_of h0 with ⟨c1, h1⟩ | ⟨c1, h1⟩ <;> clear h0
    · refine c_condT S rfl c1 ?_
      refine wp_skip ?_
      refine x_thenN ?_
      refine wp_seq ?_
      refine wp_block ?_
      refine c_region' ?_
      refine s_move S rfl rfl ?_; clear S a; intro a S
      refine s_move S rfl rfl ?_; clear S a; intro a S
      refine s_quo S rfl rfl (by decide) rfl ?_; clear S a; intro a S
      obtain ⟨c2, h2⟩ := chk_of h1; clear h1
      refine s_iaddr S rfl rfl Try.underlying24 T22 c2.1 c2.2 (mul1 _ _) rfl ?_; clear S a; intro a S
      refine s_loadi S (i := (wr .i64 (Int.tdiv y4 8))) rfl (.there (.there .here)) T22 .here rfl c2.1 c2.2 rfl ?_; clear S a; intro a S
      refine s_move S rfl rfl ?_; clear S a; intro a S
      refine s_rem S rfl rfl (by decide) rfl ?_; clear S a; intro a S
      refine s_bin S rfl rfl rfl rfl ?_; clear S a; intro a S
      obtain ⟨c3, h3⟩ := chk_of h2; clear h2
      refine s_shr S (e := (min (Int.toNat (wr .i64 (8 * (Int.tmod y4 8)))) 64)) rfl rfl c3 rfl rfl ?_; clear S a; intro a S
      refine s_rem S rfl rfl (by decide) rfl ?_; clear S a; intro a S
      refine s_conv S rfl rfl Try.underlying3 rfl ?_; clear S a; intro a S
      obtain ⟨c4, h4⟩ := chk_of h3; clear h3
      refine s_iaddr S rfl rfl Try.underlying49 T3 c4.1 c4.2 (mul1 _ _) rfl ?_; clear S a; intro a S
      refine s_storei S (i := y4) rfl rfl .here T3 .here rfl c4.1 c4.2 ?_; clear S w; intro w S
      refine c_end' ?_
      refine x_blockN ?_
      refine x_thenN ?_
      refine c_region' ?_
      refine s_move S rfl rfl ?_; clear S a; intro a S
      refine s_bin S rfl rfl rfl rfl ?_; clear S a; intro a S
      refine s_assign S rfl rfl ?_; clear S a; intro a S
      refine c_end' ?_
      refine x_thenN ?_
      exact ⟨_, (wr .i64 (y4 + 1)), g12, g13, g14, (y5.set (Int.toNat y4) (wr .i64 (Int.tmod (shr (rd x1 (wr .i64 (Int.tdiv y4 8))) (min (Int.toNat (wr .i64 (8 * (Int.tmod y4 8)))) 64)) 256))), (S.sub ⟨rfl, rfl, rfl, rfl, trivial⟩ (.cons .here (.cons .here (.cons .here .nil)))), h4⟩
    · refine c_condF S rfl c1 ?_
      refine wp_exit ?_
      refine x_thenX ?_
      refine x_thenX ?_
      refine x_blockX ?_
      refine x_thenN ?_
      exact j1 _ g12 g13 y5 a w (S.sub ⟨rfl, rfl, trivial⟩ (.cons .here (.cons .here .nil))) h1
/-! (smithy/smithyref01.D).Bit -/
def smithyref01_D_Bit.j2 (y2 : Int) : Option Int := some (Int.tmod y2 2)
def smithyref01_D_Bit.b1 (x2 : Int) (rec1 : Int → Int → Option Int) (y5 : Int) (y6 : Int) : Option Int := if (decide (y5 < (Int.tmod x2 8))) = true then (rec1 (wr .i64 (y5 + 1)) (wr .i64 (Int.tdiv y6 2))) else (smithyref01_D_Bit.j2 y6)
def smithyref01_D_Bit.l1 (x2 : Int) : Nat → Int → Int → Option Int
  | 0, _, _ => none
  | q + 1, y5, y6 => smithyref01_D_Bit.b1 x2 (smithyref01_D_Bit.l1 x2 q) y5 y6
def smithyref01_D_Bit.j1 (k : Nat) (x1 : List Int) (x2 : Int) (y1 : Bool) : Option Int := if y1 = true then (some 0) else (if 0 ≤ (wr .i64 (Int.tdiv x2 8)) ∧ (wr .i64 (Int.tdiv x2 8)) < 32 then (smithyref01_D_Bit.l1 x2 k 0 (rd x1 (wr .i64 (Int.tdiv x2 8)))) else none)
def smithyref01_D_Bit.f (k : Nat) (x1 : List Int) (x2 : Int) : Option Int := if (decide (x2 < 0)) = true then (smithyref01_D_Bit.j1 k x1 x2 true) else (smithyref01_D_Bit.j1 k x1 x2 (decide (255 < x2)))
theorem smithyref01_D_Bit.ok (k : Nat) (x1 : List Int) (x2 : Int) (r : Int) (h0 : smithyref01_D_Bit.f k x1 x2 = some r) (mi : Mem) (w0 : World) : okL mi [(.agg [.ints .i64 x1 32]), (.v (.int .i64 x2))] → Frz mi w0 → Calls Try.prog 35 (([(.agg [.ints .i64 x1 32]), (.v (.int .i64 x2))] : List D).map D.val).toArray w0 (Ret mi (.v (.int .i64 r)) w0) := by
  intro ok hm
  delta smithyref01_D_Bit.f at h0
  refine c_enter (n := 27) [(.agg [.ints .i64 x1 32]), (.v (.int .i64 x2))] (l := [(0, (.agg [.ints .i64 x1 32])), (1, (.v (.int .i64 x2)))]) Try.func35 rfl rfl rfl rfl ok hm ?_
  clear ok hm
  intro a S
  refine c_region ?_
  refine s_box S rfl rfl rfl ?_; clear S a; intro g1 a w S
  refine s_assign S rfl rfl ?_; clear S a; intro a S
  refine c_end ?_
  refine wp_seq ?_
  refine wp_seq_k ?_
  intro K1 hK1
  have j1 : ∀ (m : Mem) (y1 : Bool) (g2 : Nat) (a : Act) (w : World), St 27 m ⟨mi, w0⟩ [(12, (.v (.bool y1))), (2, (.v (.pointer (some ⟨g2, 0, none⟩)))), (1, (.v (.int .i64 x2)))] [Res.cells g2 49 [.ints .i64 x1 32]] a w → smithyref01_D_Bit.j1 k x1 x2 y1 = some r → K1 a w := by
    intro m y1 g2 a w S h0
    delta smithyref01_D_Bit.j1 at h0
    refine hK1 a w ?_
    rcases ite_of h0 with ⟨c1, h1⟩ | ⟨c1, h1⟩ <;> clear h0
    · refine c_condT S rfl c1 ?_
      refine c_region ?_
      refine s_assign S rfl rfl ?_; clear S a; intro a S
      refine c_end ?_
      refine wp_ret ?_
      refine x_thenR ?_
      obtain rfl := Option.some.inj h1
      exact b_ret1 (d := (.v (.int .i64 0))) S rfl rfl fun ok => ⟨rfl, ok, S.below⟩
    · refine c_condF S rfl c1 ?_
      refine wp_skip ?_
      refine x_thenN ?_
      refine c_region ?_
      refine s_move S rfl rfl ?_; clear S a; intro a S
      refine s_quo S rfl rfl (by decide) rfl ?_; clear S a; intro a S
      obtain ⟨c2, h2⟩ := chk_of h1; clear h1
      refine s_iaddr S rfl rfl Try.underlying49 T3 c2.1 c2.2 (mul1 _ _) rfl ?_; clear S a; intro a S
      refine s_loadi S (i := (wr .i64 (Int.tdiv x2 8))) rfl .here T3 .here rfl c2.1 c2.2 rfl ?_; clear S a; intro a S
      refine s_assign S rfl rfl ?_; clear S a; intro a S
      refine c_end ?_
      refine wp_seq_k ?_
      intro K2 hK2
      have j2 : ∀ (m : Mem) (y2 : Int) (a : Act) (w : World), St 27 m ⟨mi, w0⟩ [(5, (.v (.int .i64 y2)))] [] a w → smithyref01_D_Bit.j2 y2 = some r → K2 a w := by
        intro m y2 a w S h0
        delta smithyref01_D_Bit.j2 at h0
        refine hK2 a w ?_
        refine c_region ?_
        refine s_move S rfl rfl ?_; clear S a; intro a S
        refine s_rem S rfl rfl (by decide) rfl ?_; clear S a; intro a S
        refine s_assign S rfl rfl ?_; clear S a; intro a S
        refine c_end ?_
        refine wp_ret ?_
        obtain rfl := Option.some.inj h0
        exact b_ret1 (d := (.v (.int .i64 (Int.tmod y2 2)))) S rfl rfl fun ok => ⟨rfl, ok, S.below⟩
      refine c_region ?_
      refine s_assign S rfl rfl ?_; clear S a; intro a S
      refine c_end ?_
      refine wp_block ?_
      refine c_loop (fun q1 a w => ∃ (m : Mem) (y5 : Int) (y6 : Int), St 27 m ⟨mi, w0⟩ [(6, (.v (.int .i64 y5))), (5, (.v (.int .i64 y6))), (1, (.v (.int .i64 x2)))] [] a w ∧ smithyref01_D_Bit.l1 x2 q1 y5 y6 = some r) ?_ ?_ (k := k) ⟨_, 0, (rd x1 (wr .i64 (Int.tdiv x2 8))), (S.sub ⟨rfl, rfl, rfl, trivial⟩ .nil), h2⟩
      · rintro a w ⟨m, y5, y6, S, h0⟩
        exact (nomatch (show (none : Option Int) = some r from h0))
      · clear S h2
        rintro q1 a w ⟨m, y5, y6, S, h0⟩
        replace h0 : smithyref01_D_Bit.b1 x2 (smithyref01_D_Bit.l1 x2 q1) y5 y6 = some r := h0
        delta smithyref01_D_Bit.b1 at h0
        refine wp_seq ?_
        refine c_region ?_
        refine s_move S rfl rfl ?_; clear S a; intro a S
        refine s_move S rfl rfl ?_; clear S a; intro a S
        refine s_rem S rfl rfl (by decide) rfl ?_; clear S a; intro a S
        refine s_bin S rfl rfl rfl rfl ?_; clear S a; intro a S
        refine c_end ?_
        rcases ite_of h0 with ⟨c3, h1⟩ | ⟨c3, h1⟩ <;> clear h0
        · refine c_condT S rfl c3 ?_
          refine wp_skip ?_
          refine x_thenN ?_
          refine wp_seq ?_
          refine wp_block ?_
          refine c_region' ?_
          refine s_move S rfl rfl ?_; clear S a; intro a S
          refine s_quo S rfl rfl (by decide) rfl ?_; clear S a; intro a S
          refine s_assign S rfl rfl ?_; clear S a; intro a S
          refine c_end' ?_
          refine x_blockN ?_
          refine x_thenN ?_
          refine c_region' ?_
          refine s_move S rfl rfl ?_; clear S a; intro a S
          refine s_bin S rfl rfl rfl rfl ?_; clear S a; intro a S
          refine s_assign S rfl rfl ?_; clear S a; intro a S
          refine c_end' ?_
          refine x_thenN ?_
          exact ⟨_, (wr .i64 (y5 + 1)), (wr .i64 (Int.tdiv y6 2)), (S.sub ⟨rfl, rfl, rfl, trivial⟩ .nil), h1⟩
        · refine c_condF S rfl c3 ?_
          refine wp_exit ?_
          refine x_thenX ?_
          refine x_thenX ?_
          refine x_blockX ?_
          refine x_thenN ?_
          exact j2 _ y6 a w (S.sub ⟨rfl, trivial⟩ .nil) h1
  refine c_region' ?_
  refine s_move S rfl rfl ?_; clear S a; intro a S
  refine s_bin S rfl rfl rfl rfl ?_; clear S a; intro a S
  refine s_move S rfl rfl ?_; clear S a; intro a S
  rcases ite_of h0 with ⟨c4, h1⟩ | ⟨c4, h1⟩ <;> clear h0
  · refine s_gF S (b := (decide (x2 < 0))) rfl rfl c4 rfl ?_; clear S a; intro a S
    refine s_gF S (b := (decide (x2 < 0))) rfl rfl c4 rfl ?_; clear S a; intro a S
    refine s_pick S (b := true) (hc_of rfl c4) rfl rfl ?_; clear S a; intro a S
    refine c_end' ?_
    refine x_thenN ?_
    exact j1 _ true g1 a w (S.sub ⟨rfl, rfl, rfl, trivial⟩ (.cons .here .nil)) h1
  · refine s_gT S (b := (decide (x2 < 0))) rfl rfl c4 ?_
    refine s_move S rfl rfl ?_; clear S a; intro a S
    refine s_gT S (b := (decide (x2 < 0))) rfl rfl c4 ?_
    refine s_bin S rfl rfl rfl rfl ?_; clear S a; intro a S
    refine s_pick S (b := false) (hc_of rfl c4) rfl rfl ?_; clear S a; intro a S
    refine c_end' ?_
    refine x_thenN ?_
    exact j1 _ (decide (255 < x2)) g1 a w (S.sub ⟨rfl, rfl, rfl, trivial⟩ (.cons .here .nil)) h1
/-! (smithy/smithyref01.D).Len -/
def smithyref01_D_Len.j1 (y1 : Int) : Option Int := some y1
def smithyref01_D_Len.j2 (y6 : Int) (rec1 : Int → Int → Option Int) (y8 : Int) : Option Int := rec1 (wr .i64 (y6 + 1)) y8
def smithyref01_D_Len.b1 (k : Nat) (x1 : List Int) (rec1 : Int → Int → Option Int) (y6 : Int) (y7 : Int) : Option Int := if (decide (y6 < 256)) = true then ((smithyref01_D_Bit.f k x1 y6).bind fun t1 => (if (t1 == 1) = true then (smithyref01_D_Len.j2 y6 rec1 (wr .i64 (y6 + 1))) else (smithyref01_D_Len.j2 y6 rec1 y7))) else (smithyref01_D_Len.j1 y7)
def smithyref01_D_Len.l1 (k : Nat) (x1 : List Int) : Nat → Int → Int → Option Int
  | 0, _, _ => none
  | q + 1, y6, y7 => smithyref01_D_Len.b1 k x1 (smithyref01_D_Len.l1 k x1 q) y6 y7
def smithyref01_D_Len.f (k : Nat) (x1 : List Int) : Option Int := smithyref01_D_Len.l1 k x1 k 0 0
theorem smithyref01_D_Len.ok (k : Nat) (x1 : List Int) (r : Int) (h0 : smithyref01_D_Len.f k x1 = some r) (mi : Mem) (w0 : World) : okL mi [(.agg [.ints .i64 x1 32])] → Frz mi w0 → Calls Try.prog 33 (([(.agg [.ints .i64 x1 32])] : List D).map D.val).toArray w0 (Ret mi (.v (.int .i64 r)) w0) := by
  intro ok hm
  delta smithyref01_D_Len.f at h0
  refine c_enter (n := 16) [(.agg [.ints .i64 x1 32])] (l := [(0, (.agg [.ints .i64 x1 32]))]) Try.func33 rfl rfl rfl rfl ok hm ?_
  clear ok hm
  intro a S
  refine c_region ?_
  refine s_box S rfl rfl rfl ?_; clear S a; intro g1 a w S
  refine s_assign S rfl rfl ?_; clear S a; intro a S
  refine c_end ?_
  refine c_region ?_
  refine s_assign S rfl rfl ?_; clear S a; intro a S
  refine c_end ?_
  refine wp_seq_k ?_
  intro K1 hK1
  have j1 : ∀ (m : Mem) (y1 : Int) (a : Act) (w : World), St 16 m ⟨mi, w0⟩ [(3, (.v (.int .i64 y1)))] [] a w → smithyref01_D_Len.j1 y1 = some r → K1 a w := by
    intro m y1 a w S h0
    delta smithyref01_D_Len.j1 at h0
    refine hK1 a w ?_
    refine c_region ?_
    refine s_move S rfl rfl ?_; clear S a; intro a S
    refine s_assign S rfl rfl ?_; clear S a; intro a S
    refine c_end ?_
    refine wp_ret ?_
    obtain rfl := Option.some.inj h0
    exact b_ret1 (d := (.v (.int .i64 y1))) S rfl rfl fun ok => ⟨rfl, ok, S.below⟩
  refine c_region ?_
  refine s_assign S rfl rfl ?_; clear S a; intro a S
  refine c_end ?_
  refine wp_block ?_
  refine c_loop (fun q1 a w => ∃ (m : Mem) (y6 : Int) (y7 : Int) (g6 : Nat), St 16 m ⟨mi, w0⟩ [(4, (.v (.int .i64 y6))), (3, (.v (.int .i64 y7))), (1, (.v (.pointer (some ⟨g6, 0, none⟩))))] [Res.cells g6 49 [.ints .i64 x1 32]] a w ∧ smithyref01_D_Len.l1 k x1 q1 y6 y7 = some r) ?_ ?_ (k := k) ⟨_, 0, 0, g1, (S.sub ⟨rfl, rfl, rfl, trivial⟩ (.cons .here .nil)), h0⟩
  · rintro a w ⟨m, y6, y7, g6, S, h0⟩
    exact (nomatch (show (none : Option Int) = some r from h0))
  · clear S h0
    rintro q1 a w ⟨m, y6, y7, g6, S, h0⟩
    replace h0 : smithyref01_D_Len.b1 k x1 (smithyref01_D_Len.l1 k x1 q1) y6 y7 = some r := h0
    delta smithyref01_D_Len.b1 at h0
    refine wp_seq ?_
    refine c_region ?_
    refine s_move S rfl rfl ?_; clear S a; intro a S
    refine s_bin S rfl rfl rfl rfl ?_; clear S a; intro a S
    refine c_end ?_
    rcases ite_of h0 with ⟨c1, h1⟩ | ⟨c1, h1⟩ <;> clear h0
    · refine c_condT S rfl c1 ?_
      refine wp_skip ?_
      refine x_thenN ?_
      refine wp_seq_k ?_
      intro K2 hK2
      have j2 : ∀ (m : Mem) (y8 : Int) (g7 : Nat) (a : Act) (w : World), St 16 m ⟨mi, w0⟩ [(3, (.v (.int .i64 y8))), (4, (.v (.int .i64 y6))), (1, (.v (.pointer (some ⟨g7, 0, none⟩))))] [Res.cells g7 49 [.ints .i64 x1 32]] a w → smithyref01_D_Len.j2 y6 (smithyref01_D_Len.l1 k x1 q1) y8 = some r → K2 a w := by
        intro m y8 g7 a w S h0
        delta smithyref01_D_Len.j2 at h0
        refine hK2 a w ?_
        refine c_region' ?_
        refine s_move S rfl rfl ?_; clear S a; intro a S
        refine s_bin S rfl rfl rfl rfl ?_; clear S a; intro a S
        refine s_assign S rfl rfl ?_; clear S a; intro a S
        refine c_end' ?_
        refine x_thenN ?_
        exact ⟨_, (wr .i64 (y6 + 1)), y8, g7, (S.sub ⟨rfl, rfl, rfl, trivial⟩ (.cons .here .nil)), h0⟩
      refine wp_block ?_
      refine c_region ?_
      refine s_loada S rfl .here T49 (s' := [.ints .i64 x1 32]) rfl rfl ?_; clear S a; intro a S
      refine s_move S rfl rfl ?_; clear S a; intro a S
      obtain ⟨t1, et1, h2⟩ := bind_of h1; clear h1
      refine s_call S (ds := [(.agg [.ints .i64 x1 32]), (.v (.int .i64 y6))]) (d := (.v (.int .i64 t1))) N35 rfl rfl (smithyref01_D_Bit.ok k x1 y6 t1 et1 _ _) ?_; clear S a w; intro a w S
      refine s_bin S rfl rfl rfl rfl ?_; clear S a; intro a S
      refine c_end ?_
      rcases ite_of h2 with ⟨c2, h3⟩ | ⟨c2, h3⟩ <;> clear h2
      · refine c_condT S rfl c2 ?_
        refine c_region' ?_
        refine s_move S rfl rfl ?_; clear S a; intro a S
        refine s_bin S rfl rfl rfl rfl ?_; clear S a; intro a S
        refine s_assign S rfl rfl ?_; clear S a; intro a S
        refine c_end' ?_
        refine x_blockN ?_
        refine x_thenN ?_
        exact j2 _ (wr .i64 (y6 + 1)) g6 a w (S.sub ⟨rfl, rfl, rfl, trivial⟩ (.cons .here .nil)) h3
      · refine c_condF S rfl c2 ?_
        refine wp_skip ?_
        refine x_blockN ?_
        refine x_thenN ?_
        exact j2 _ y7 g6 a w (S.sub ⟨rfl, rfl, rfl, trivial⟩ (.cons .here .nil)) h3
    · refine c_condF S rfl c1 ?_
      refine wp_exit ?_
      refine x_thenX ?_
      refine x_thenX ?_
      refine x_blockX ?_
      refine x_thenN ?_
      exact j1 _ y7 a w (S.sub ⟨rfl, trivial⟩ .nil) h1
/-! smithy/smithyref12.Exp -/
def smithyref12_Exp.f (k : Nat) (x1 : List Int) : Option Int := (smithyref01_Of.f k x1).bind fun t1 => ((smithyref01_D_Len.f k t1).bind fun t2 => (some (wr .u64 (10 + (wr .u64 (50 * (wr .u64 (wr .i64 (Int.tdiv (wr .i64 (t2 + 7)) 8)))))))))
theorem smithyref12_Exp.ok (k : Nat) (x1 : List Int) (r : Int) (h0 : smithyref12_Exp.f k x1 = some r) (mi : Mem) (w0 : World) : okL mi [(.agg [.ints .u64 x1 4])] → Frz mi w0 → Calls Try.prog 22 (([(.agg [.ints .u64 x1 4])] : List D).map D.val).toArray w0 (Ret mi (.v (.int .u64 r)) w0) := by
  intro ok hm
  delta smithyref12_Exp.f at h0
  refine c_enter (n := 13) [(.agg [.ints .u64 x1 4])] (l := [(0, (.agg [.ints .u64 x1 4]))]) Try.func22 rfl rfl rfl rfl ok hm ?_
  clear ok hm
  intro a S
  refine c_region ?_
  refine s_box S rfl rfl rfl ?_; clear S a; intro g1 a w S
  refine s_assign S rfl rfl ?_; clear S a; intro a S
  refine c_end ?_
  refine c_region ?_
  refine s_loada S rfl .here T24 (s' := [.ints .u64 x1 4]) rfl rfl ?_; clear S a; intro a S
  obtain ⟨t1, et1, h1⟩ := bind_of h0; clear h0
  refine s_call S (ds := [(.agg [.ints .u64 x1 4])]) (d := (.agg [.ints .i64 t1 32])) N32 rfl rfl (smithyref01_Of.ok k x1 t1 et1 _ _) ?_; clear S a w; intro a w S
  obtain ⟨t2, et2, h2⟩ := bind_of h1; clear h1
  refine s_call S (ds := [(.agg [.ints .i64 t1 32])]) (d := (.v (.int .i64 t2))) N33 rfl rfl (smithyref01_D_Len.ok k t1 t2 et2 _ _) ?_; clear S a w; intro a w S
  refine s_assign S rfl rfl ?_; clear S a; intro a S
  refine c_end ?_
  refine c_region ?_
  refine s_move S rfl rfl ?_; clear S a; intro a S
  refine s_bin S rfl rfl rfl rfl ?_; clear S a; intro a S
  refine s_quo S rfl rfl (by decide) rfl ?_; clear S a; intro a S
  refine s_conv S rfl rfl Try.underlying22 rfl ?_; clear S a; intro a S
  refine s_bin S rfl rfl rfl rfl ?_; clear S a; intro a S
  refine s_bin S rfl rfl rfl rfl ?_; clear S a; intro a S
  refine s_assign S rfl rfl ?_; clear S a; intro a S
  refine c_end ?_
  refine wp_ret ?_
  obtain rfl := Option.some.inj h2
  exact b_ret1 (d := (.v (.int .u64 (wr .u64 (10 + (wr .u64 (50 * (wr .u64 (wr .i64 (Int.tdiv (wr .i64 (t2 + 7)) 8)))))))))) S rfl rfl fun ok => ⟨rfl, ok, S.below⟩
/-! smithy/gas.Copy -/
def gas_Copy.f (x1 : Int) : Option Int := (mem_Words.f x1).bind fun t1 => (some (wr .u64 (3 * t1)))
theorem gas_Copy.ok (x1 : Int) (r : Int) (h0 : gas_Copy.f x1 = some r) (mi : Mem) (w0 : World) : okL mi [(.v (.int .u64 x1))] → Frz mi w0 → Calls Try.prog 23 (([(.v (.int .u64 x1))] : List D).map D.val).toArray w0 (Ret mi (.v (.int .u64 r)) w0) := by
  intro ok hm
  delta gas_Copy.f at h0
  refine c_enter (n := 6) [(.v (.int .u64 x1))] (l := [(0, (.v (.int .u64 x1)))]) Try.func23 rfl rfl rfl rfl ok hm ?_
  clear ok hm
  intro a S
  refine c_region ?_
  refine s_assign S rfl rfl ?_; clear S a; intro a S
  refine c_end ?_
  refine c_region ?_
  refine s_move S rfl rfl ?_; clear S a; intro a S
  obtain ⟨t1, et1, h1⟩ := bind_of h0; clear h0
  refine s_call S (ds := [(.v (.int .u64 x1))]) (d := (.v (.int .u64 t1))) N30 rfl rfl (mem_Words.ok x1 t1 et1 _ _) ?_; clear S a; intro a w S
  refine s_bin S rfl rfl rfl rfl ?_; clear S a; intro a S
  refine s_assign S rfl rfl ?_; clear S a; intro a S
  refine c_end ?_
  refine wp_ret ?_
  obtain rfl := Option.some.inj h1
  exact b_ret1 (d := (.v (.int .u64 (wr .u64 (3 * t1))))) S rfl rfl fun ok => ⟨rfl, ok, S.below⟩
/-! smithy/gas.Keccak -/
def gas_Keccak.f (x1 : Int) : Option Int := (mem_Words.f x1).bind fun t1 => (some (wr .u64 (30 + (wr .u64 (6 * t1)))))
theorem gas_Keccak.ok (x1 : Int) (r : Int) (h0 : gas_Keccak.f x1 = some r) (mi : Mem) (w0 : World) : okL mi [(.v (.int .u64 x1))] → Frz mi w0 → Calls Try.prog 24 (([(.v (.int .u64 x1))] : List D).map D.val).toArray w0 (Ret mi (.v (.int .u64 r)) w0) := by
  intro ok hm
  delta gas_Keccak.f at h0
  refine c_enter (n := 7) [(.v (.int .u64 x1))] (l := [(0, (.v (.int .u64 x1)))]) Try.func24 rfl rfl rfl rfl ok hm ?_
  clear ok hm
  intro a S
  refine c_region ?_
  refine s_assign S rfl rfl ?_; clear S a; intro a S
  refine c_end ?_
  refine c_region ?_
  refine s_move S rfl rfl ?_; clear S a; intro a S
  obtain ⟨t1, et1, h1⟩ := bind_of h0; clear h0
  refine s_call S (ds := [(.v (.int .u64 x1))]) (d := (.v (.int .u64 t1))) N30 rfl rfl (mem_Words.ok x1 t1 et1 _ _) ?_; clear S a; intro a w S
  refine s_bin S rfl rfl rfl rfl ?_; clear S a; intro a S
  refine s_bin S rfl rfl rfl rfl ?_; clear S a; intro a S
  refine s_assign S rfl rfl ?_; clear S a; intro a S
  refine c_end ?_
  refine wp_ret ?_
  obtain rfl := Option.some.inj h1
  exact b_ret1 (d := (.v (.int .u64 (wr .u64 (30 + (wr .u64 (6 * t1))))))) S rfl rfl fun ok => ⟨rfl, ok, S.below⟩
/-! smithy/gas.Log -/
def gas_Log.f (x1 : Int) (x2 : Int) : Option Int := some (wr .u64 ((wr .u64 (375 + (wr .u64 (375 * (wr .u64 x1))))) + (wr .u64 (8 * x2))))
theorem gas_Log.ok (x1 : Int) (x2 : Int) (r : Int) (h0 : gas_Log.f x1 x2 = some r) (mi : Mem) (w0 : World) : okL mi [(.v (.int .i64 x1)), (.v (.int .u64 x2))] → Frz mi w0 → Calls Try.prog 25 (([(.v (.int .i64 x1)), (.v (.int .u64 x2))] : List D).map D.val).toArray w0 (Ret mi (.v (.int .u64 r)) w0) := by
  intro ok hm
  delta gas_Log.f at h0
  refine c_enter (n := 12) [(.v (.int .i64 x1)), (.v (.int .u64 x2))] (l := [(0, (.v (.int .i64 x1))), (1, (.v (.int .u64 x2)))]) Try.func25 rfl rfl rfl rfl ok hm ?_
  clear ok hm
  intro a S
  refine c_region ?_
  refine s_assign S rfl rfl ?_; clear S a; intro a S
  refine c_end ?_
  refine c_region ?_
  refine s_move S rfl rfl ?_; clear S a; intro a S
  refine s_conv S rfl rfl Try.underlying22 rfl ?_; clear S a; intro a S
  refine s_bin S rfl rfl rfl rfl ?_; clear S a; intro a S
  refine s_bin S rfl rfl rfl rfl ?_; clear S a; intro a S
  refine s_move S rfl rfl ?_; clear S a; intro a S
  refine s_bin S rfl rfl rfl rfl ?_; clear S a; intro a S
  refine s_bin S rfl rfl rfl rfl ?_; clear S a; intro a S
  refine s_assign S rfl rfl ?_; clear S a; intro a S
  refine c_end ?_
  refine wp_ret ?_
  obtain rfl := Option.some.inj h0
  exact b_ret1 (d := (.v (.int .u64 (wr .u64 ((wr .u64 (375 + (wr .u64 (375 * (wr .u64 x1))))) + (wr .u64 (8 * x2))))))) S rfl rfl fun ok => ⟨rfl, ok, S.below⟩
/-! smithy/gas.Deposit -/
def gas_Deposit.f (x1 : Int) : Option Int := some (wr .u64 (200 * x1))
theorem gas_Deposit.ok (x1 : Int) (r : Int) (h0 : gas_Deposit.f x1 = some r) (mi : Mem) (w0 : World) : okL mi [(.v (.int .u64 x1))] → Frz mi w0 → Calls Try.prog 26 (([(.v (.int .u64 x1))] : List D).map D.val).toArray w0 (Ret mi (.v (.int .u64 r)) w0) := by
  intro ok hm
  delta gas_Deposit.f at h0
  refine c_enter (n := 5) [(.v (.int .u64 x1))] (l := [(0, (.v (.int .u64 x1)))]) Try.func26 rfl rfl rfl rfl ok hm ?_
  clear ok hm
  intro a S
  refine c_region ?_
  refine s_assign S rfl rfl ?_; clear S a; intro a S
  refine c_end ?_
  refine c_region ?_
  refine s_move S rfl rfl ?_; clear S a; intro a S
  refine s_bin S rfl rfl rfl rfl ?_; clear S a; intro a S
  refine s_assign S rfl rfl ?_; clear S a; intro a S
  refine c_end ?_
  refine wp_ret ?_
  obtain rfl := Option.some.inj h0
  exact b_ret1 (d := (.v (.int .u64 (wr .u64 (200 * x1))))) S rfl rfl fun ok => ⟨rfl, ok, S.below⟩
/-! smithy/gas.Create -/
def gas_Create.f (x1 : Int) (x2 : Bool) : Option Int := (mem_Words.f x1).bind fun t1 => ((gas_either.f x2 8 2).bind fun t2 => (some (wr .u64 (32000 + (wr .u64 (t1 * t2))))))
theorem gas_Create.ok (x1 : Int) (x2 : Bool) (r : Int) (h0 : gas_Create.f x1 x2 = some r) (mi : Mem) (w0 : World) : okL mi [(.v (.int .u64 x1)), (.v (.bool x2))] → Frz mi w0 → Calls Try.prog 27 (([(.v (.int .u64 x1)), (.v (.bool x2))] : List D).map D.val).toArray w0 (Ret mi (.v (.int .u64 r)) w0) := by
  intro ok hm
  delta gas_Create.f at h0
  refine c_enter (n := 11) [(.v (.int .u64 x1)), (.v (.bool x2))] (l := [(0, (.v (.int .u64 x1))), (1, (.v (.bool x2)))]) Try.func27 rfl rfl rfl rfl ok hm ?_
  clear ok hm
  intro a S
  refine c_region ?_
  refine s_assign S rfl rfl ?_; clear S a; intro a S
  refine c_end ?_
  refine c_region ?_
  refine s_move S rfl rfl ?_; clear S a; intro a S
  obtain ⟨t1, et1, h1⟩ := bind_of h0; clear h0
  refine s_call S (ds := [(.v (.int .u64 x1))]) (d := (.v (.int .u64 t1))) N30 rfl rfl (mem_Words.ok x1 t1 et1 _ _) ?_; clear S a; intro a w S
  refine s_move S rfl rfl ?_; clear S a; intro a S
  obtain ⟨t2, et2, h2⟩ := bind_of h1; clear h1
  refine s_call S (ds := [(.v (.bool x2)), (.v (.int .u64 8)), (.v (.int .u64 2))]) (d := (.v (.int .u64 t2))) N28 rfl rfl (gas_either.ok x2 8 2 t2 et2 _ _) ?_; clear S a w; intro a w S
  refine s_bin S rfl rfl rfl rfl ?_; clear S a; intro a S
  refine s_bin S rfl rfl rfl rfl ?_; clear S a; intro a S
  refine s_assign S rfl rfl ?_; clear S a; intro a S
  refine c_end ?_
  refine wp_ret ?_
  obtain rfl := Option.some.inj h2
  exact b_ret1 (d := (.v (.int .u64 (wr .u64 (32000 + (wr .u64 (t1 * t2))))))) S rfl rfl fun ok => ⟨rfl, ok, S.below⟩
/-! smithy/smithylaw12.GasLengths -/
def smithylaw12_GasLengths.j1 (k : Nat) (x1 : Int) (x2 : Int) (x3 : List Int) (x4 : Bool) (t1 : Int) (y1 : Int) : Option Bool := (smithylaw12_fixed.f).bind fun t2 => (if t2 = true then ((gas_Exp.f k x3).bind fun t3 => ((smithyref12_Exp.f k x3).bind fun t4 => (if (t3 == t4) = true then ((gas_Copy.f (Int.tmod x1 4294967297)).bind fun t5 => (if (t5 == (wr .u64 (3 * t1))) = true then ((gas_Keccak.f (Int.tmod x1 4294967297)).bind fun t6 => (if (t6 == (wr .u64 (30 + (wr .u64 (6 * t1))))) = true then ((gas_Log.f (Int.tmod (wr .i64 x2) 5) (Int.tmod x1 4294967297)).bind fun t7 => (if (t7 == (wr .u64 ((wr .u64 (375 + (wr .u64 (375 * (wr .u64 (Int.tmod (wr .i64 x2) 5)))))) + (wr .u64 (8 * (Int.tmod x1 4294967297)))))) = true then ((gas_Deposit.f (Int.tmod x1 4294967297)).bind fun t8 => (if (t8 == (wr .u64 (200 * (Int.tmod x1 4294967297)))) = true then ((gas_Create.f (Int.tmod x1 4294967297) x4).bind fun t9 => (some (t9 == y1))) else (some false))) else (some false))) else (some false))) else (some false))) else (some false)))) else (some false))
def smithylaw12_GasLengths.f (k : Nat) (x1 : Int) (x2 : Int) (x3 : List Int) (x4 : Bool) : Option Bool := (smithyref10_Words.f (Int.tmod x1 4294967297)).bind fun t1 => (if x4 = true then (smithylaw12_GasLengths.j1 k x1 x2 x3 x4 t1 (wr .u64 ((wr .u64 (32000 + (wr .u64 (2 * t1)))) + (wr .u64 (6 * t1))))) else (smithylaw12_GasLengths.j1 k x1 x2 x3 x4 t1 (wr .u64 (32000 + (wr .u64 (2 * t1))))))
theorem smithylaw12_GasLengths.ok (k : Nat) (x1 : Int) (x2 : Int) (x3 : List Int) (x4 : Bool) (r : Bool) (h0 : smithylaw12_GasLengths.f k x1 x2 x3 x4 = some r) (mi : Mem) (w0 : World) : okL mi [(.v (.int .u64 x1)), (.v (.int .u8 x2)), (.agg [.ints .u64 x3 4]), (.v (.bool x4))] → Frz mi w0 → Calls Try.prog 8 (([(.v (.int .u64 x1)), (.v (.int .u8 x2)), (.agg [.ints .u64 x3 4]), (.v (.bool x4))] : List D).map D.val).toArray w0 (Ret mi (.v (.bool r)) w0) := by
  intro ok hm
  delta smithylaw12_GasLengths.f at h0
  refine c_enter (n := 77) [(.v (.int .u64 x1)), (.v (.int .u8 x2)), (.agg [.ints .u64 x3 4]), (.v (.bool x4))] (l := [(0, (.v (.int .u64 x1))), (1, (.v (.int .u8 x2))), (2, (.agg [.ints .u64 x3 4])), (3, (.v (.bool x4)))]) Try.func8 rfl rfl rfl rfl ok hm ?_
  clear ok hm
  intro a S
  refine c_region ?_
  refine s_box S rfl rfl rfl ?_; clear S a; intro g1 a w S
  refine s_assign S rfl rfl ?_; clear S a; intro a S
  refine c_end ?_
  refine c_region ?_
  refine s_move S rfl rfl ?_; clear S a; intro a S
  refine s_rem S rfl rfl (by decide) rfl ?_; clear S a; intro a S
  refine s_assign S rfl rfl ?_; clear S a; intro a S
  refine c_end ?_
  refine c_region ?_
  refine s_move S rfl rfl ?_; clear S a; intro a S
  refine s_conv S rfl rfl Try.underlying3 rfl ?_; clear S a; intro a S
  refine s_rem S rfl rfl (by decide) rfl ?_; clear S a; intro a S
  refine s_assign S rfl rfl ?_; clear S a; intro a S
  refine c_end ?_
  refine c_region ?_
  refine s_move S rfl rfl ?_; clear S a; intro a S
  obtain ⟨t1, et1, h1⟩ := bind_of h0; clear h0
  refine s_call S (ds := [(.v (.int .u64 (Int.tmod x1 4294967297)))]) (d := (.v (.int .u64 t1))) N20 rfl rfl (smithyref10_Words.ok (Int.tmod x1 4294967297) t1 et1 _ _) ?_; clear S a w; intro a w S
  refine s_assign S rfl rfl ?_; clear S a; intro a S
  refine c_end ?_
  refine c_region ?_
  refine s_move S rfl rfl ?_; clear S a; intro a S
  refine s_bin S rfl rfl rfl rfl ?_; clear S a; intro a S
  refine s_bin S rfl rfl rfl rfl ?_; clear S a; intro a S
  refine s_assign S rfl rfl ?_; clear S a; intro a S
  refine c_end ?_
  refine wp_seq_k ?_
  intro K1 hK1
  have j1 : ∀ (m : Mem) (y1 : Int) (g2 : Nat) (a : Act) (w : World), St 77 m ⟨mi, w0⟩ [(11, (.v (.int .u64 y1))), (10, (.v (.int .u64 t1))), (9, (.v (.int .i64 (Int.tmod (wr .i64 x2) 5)))), (0, (.v (.int .u64 (Int.tmod x1 4294967297)))), (6, (.v (.pointer (some ⟨g2, 0, none⟩)))), (3, (.v (.bool x4)))] [Res.cells g2 24 [.ints .u64 x3 4]] a w → smithylaw12_GasLengths.j1 k x1 x2 x3 x4 t1 y1 = some r → K1 a w := by
    intro m y1 g2 a w S h0
    delta smithylaw12_GasLengths.j1 at h0
    refine hK1 a w ?_
    refine c_drawS S (by kernel_rfl) (by kernel_rfl) ?_; clear S; intro QS
    obtain ⟨t2, et2, h1⟩ := bind_of h0; clear h0
    refine q_call QS (ds := []) (d := (.v (.bool t2))) N11 rfl rfl (fun _ => smithylaw12_fixed.ok t2 et2 _ _) ?_; clear QS a; intro a QS
    refine q_move QS rfl rfl ?_; clear QS a; intro a QS
    rcases ite_of h1 with ⟨c1, h2⟩ | ⟨c1, h2⟩ <;> clear h1
    · refine q_gT QS (b := t2) rfl rfl c1 ?_
      refine q_loada QS rfl .here T24 (s' := [.ints .u64 x3 4]) rfl rfl ?_; clear QS a; intro a QS
      refine q_gT QS (b := t2) rfl rfl c1 ?_
      obtain ⟨t3, et3, h3⟩ := bind_of h2; clear h2
      refine q_call QS (ds := [(.agg [.ints .u64 x3 4])]) (d := (.v (.int .u64 t3))) N21 rfl rfl (fun _ => gas_Exp.ok k x3 t3 et3 _ _) ?_; clear QS a; intro a QS
      refine q_gT QS (b := t2) rfl rfl c1 ?_
      refine q_loada QS rfl .here T24 (s' := [.ints .u64 x3 4]) rfl rfl ?_; clear QS a; intro a QS
      refine q_gT QS (b := t2) rfl rfl c1 ?_
      obtain ⟨t4, et4, h4⟩ := bind_of h3; clear h3
      refine q_call QS (ds := [(.agg [.ints .u64 x3 4])]) (d := (.v (.int .u64 t4))) N22 rfl rfl (fun _ => smithyref12_Exp.ok k x3 t4 et4 _ _) ?_; clear QS a; intro a QS
      refine q_gT QS (b := t2) rfl rfl c1 ?_
      refine q_bin QS rfl rfl rfl rfl ?_; clear QS a; intro a QS
      refine q_pick QS (b := true) (hc_of rfl c1) rfl rfl ?_; clear QS a; intro a QS
      refine q_move QS rfl rfl ?_; clear QS a; intro a QS
      rcases ite_of h4 with ⟨c2, h5⟩ | ⟨c2, h5⟩ <;> clear h4
      · refine q_gT QS (b := (t3 == t4)) rfl rfl c2 ?_
        refine q_move QS rfl rfl ?_; clear QS a; intro a QS
        refine q_gT QS (b := (t3 == t4)) rfl rfl c2 ?_
        obtain ⟨t5, et5, h6⟩ := bind_of h5; clear h5
        refine q_call QS (ds := [(.v (.int .u64 (Int.tmod x1 4294967297)))]) (d := (.v (.int .u64 t5))) N23 rfl rfl (fun _ => gas_Copy.ok (Int.tmod x1 4294967297) t5 et5 _ _) ?_; clear QS a; intro a QS
        refine q_gT QS (b := (t3 == t4)) rfl rfl c2 ?_
        refine q_move QS rfl rfl ?_; clear QS a; intro a QS
        refine q_gT QS (b := (t3 == t4)) rfl rfl c2 ?_
        refine q_bin QS rfl rfl rfl rfl ?_; clear QS a; intro a QS
        refine q_gT QS (b := (t3 == t4)) rfl rfl c2 ?_
        refine q_bin QS rfl rfl rfl rfl ?_; clear QS a; intro a QS
        refine q_pick QS (b := true) (hc_of rfl c2) rfl rfl ?_; clear QS a; intro a QS
        refine q_move QS rfl rfl ?_; clear QS a; intro a QS
        rcases ite_of h6 with ⟨c3, h7⟩ | ⟨c3, h7⟩ <;> clear h6
        · refine q_gT QS (b := (t5 == (wr .u64 (3 * t1)))) rfl rfl c3 ?_
          refine q_move QS rfl rfl ?_; clear QS a; intro a QS
          refine q_gT QS (b := (t5 == (wr .u64 (3 * t1)))) rfl rfl c3 ?_
          obtain ⟨t6, et6, h8⟩ := bind_of h7; clear h7
          refine q_call QS (ds := [(.v (.int .u64 (Int.tmod x1 4294967297)))]) (d := (.v (.int .u64 t6))) N24 rfl rfl (fun _ => gas_Keccak.ok (Int.tmod x1 4294967297) t6 et6 _ _) ?_; clear QS a; intro a QS
          refine q_gT QS (b := (t5 == (wr .u64 (3 * t1)))) rfl rfl c3 ?_
          refine q_move QS rfl rfl ?_; clear QS a; intro a QS
          refine q_gT QS (b := (t5 == (wr .u64 (3 * t1)))) rfl rfl c3 ?_
          refine q_bin QS rfl rfl rfl rfl ?_; clear QS a; intro a QS
          refine q_gT QS (b := (t5 == (wr .u64 (3 * t1)))) rfl rfl c3 ?_
          refine q_bin QS rfl rfl rfl rfl ?_; clear QS a; intro a QS
          refine q_gT QS (b := (t5 == (wr .u64 (3 * t1)))) rfl rfl c3 ?_
          refine q_bin QS rfl rfl rfl rfl ?_; clear QS a; intro a QS
          refine q_pick QS (b := true) (hc_of rfl c3) rfl rfl ?_; clear QS a; intro a QS
          refine q_move QS rfl rfl ?_; clear QS a; intro a QS
          rcases ite_of h8 with ⟨c4, h9⟩ | ⟨c4, h9⟩ <;> clear h8
          · refine q_gT QS (b := (t6 == (wr .u64 (30 + (wr .u64 (6 * t1)))))) rfl rfl c4 ?_
            refine q_move QS rfl rfl ?_; clear QS a; intro a QS
            refine q_gT QS (b := (t6 == (wr .u64 (30 + (wr .u64 (6 * t1)))))) rfl rfl c4 ?_
            refine q_move QS rfl rfl ?_; clear QS a; intro a QS
            refine q_gT QS (b := (t6 == (wr .u64 (30 + (wr .u64 (6 * t1)))))) rfl rfl c4 ?_
            obtain ⟨t7, et7, h10⟩ := bind_of h9; clear h9
            refine q_call QS (ds := [(.v (.int .i64 (Int.tmod (wr .i64 x2) 5))), (.v (.int .u64 (Int.tmod x1 4294967297)))]) (d := (.v (.int .u64 t7))) N25 rfl rfl (fun _ => gas_Log.ok (Int.tmod (wr .i64 x2) 5) (Int.tmod x1 4294967297) t7 et7 _ _) ?_; clear QS a; intro a QS
            refine q_gT QS (b := (t6 == (wr .u64 (30 + (wr .u64 (6 * t1)))))) rfl rfl c4 ?_
            refine q_move QS rfl rfl ?_; clear QS a; intro a QS
            refine q_gT QS (b := (t6 == (wr .u64 (30 + (wr .u64 (6 * t1)))))) rfl rfl c4 ?_
            refine q_conv QS rfl rfl Try.underlying22 rfl ?_; clear QS a; intro a QS
            refine q_gT QS (b := (t6 == (wr .u64 (30 + (wr .u64 (6 * t1)))))) rfl rfl c4 ?_
            refine q_bin QS rfl rfl rfl rfl ?_; clear QS a; intro a QS
            refine q_gT QS (b := (t6 == (wr .u64 (30 + (wr .u64 (6 * t1)))))) rfl rfl c4 ?_
            refine q_bin QS rfl rfl rfl rfl ?_; clear QS a; intro a QS
            refine q_gT QS (b := (t6 == (wr .u64 (30 + (wr .u64 (6 * t1)))))) rfl rfl c4 ?_
            refine q_move QS rfl rfl ?_; clear QS a; intro a QS
            refine q_gT QS (b := (t6 == (wr .u64 (30 + (wr .u64 (6 * t1)))))) rfl rfl c4 ?_
            refine q_bin QS rfl rfl rfl rfl ?_; clear QS a; intro a QS
            refine q_gT QS (b := (t6 == (wr .u64 (30 + (wr .u64 (6 * t1)))))) rfl rfl c4 ?_
            refine q_bin QS rfl rfl rfl rfl ?_; clear QS a; intro a QS
            refine q_gT QS (b := (t6 == (wr .u64 (30 + (wr .u64 (6 * t1)))))) rfl rfl c4 ?_
            refine q_bin QS rfl rfl rfl rfl ?_; clear QS a; intro a QS
            refine q_pick QS (b := true) (hc_of rfl c4) rfl rfl ?_; clear QS a; intro a QS
            refine q_move QS rfl rfl ?_; clear QS a; intro a QS
            rcases ite_of h10 with ⟨c5, h11⟩ | ⟨c5, h11⟩ <;> clear h10
            · refine q_gT QS (b := (t7 == (wr .u64 ((wr .u64 (375 + (wr .u64 (375 * (wr .u64 (Int.tmod (wr .i64 x2) 5)))))) + (wr .u64 (8 * (Int.tmod x1 4294967297))))))) rfl rfl c5 ?_
              refine q_move QS rfl rfl ?_; clear QS a; intro a QS
              refine q_gT QS (b := (t7 == (wr .u64 ((wr .u64 (375 + (wr .u64 (375 * (wr .u64 (Int.tmod (wr .i64 x2) 5)))))) + (wr .u64 (8 * (Int.tmod x1 4294967297))))))) rfl rfl c5 ?_
              obtain ⟨t8, et8, h12⟩ := bind_of h11; clear h11
              refine q_call QS (ds := [(.v (.int .u64 (Int.tmod x1 4294967297)))]) (d := (.v (.int .u64 t8))) N26 rfl rfl (fun _ => gas_Deposit.ok (Int.tmod x1 4294967297) t8 et8 _ _) ?_; clear QS a; intro a QS
              refine q_gT QS (b := (t7 == (wr .u64 ((wr .u64 (375 + (wr .u64 (375 * (wr .u64 (Int.tmod (wr .i64 x2) 5)))))) + (wr .u64 (8 * (Int.tmod x1 4294967297))))))) rfl rfl c5 ?_
              refine q_move QS rfl rfl ?_; clear QS a; intro a QS
              refine q_gT QS (b := (t7 == (wr .u64 ((wr .u64 (375 + (wr .u64 (375 * (wr .u64 (Int.tmod (wr .i64 x2) 5)))))) + (wr .u64 (8 * (Int.tmod x1 4294967297))))))) rfl rfl c5 ?_
              refine q_bin QS rfl rfl rfl rfl ?_; clear QS a; intro a QS
              refine q_gT QS (b := (t7 == (wr .u64 ((wr .u64 (375 + (wr .u64 (375 * (wr .u64 (Int.tmod (wr .i64 x2) 5)))))) + (wr .u64 (8 * (Int.tmod x1 4294967297))))))) rfl rfl c5 ?_
              refine q_bin QS rfl rfl rfl rfl ?_; clear QS a; intro a QS
              refine q_pick QS (b := true) (hc_of rfl c5) rfl rfl ?_; clear QS a; intro a QS
              refine q_move QS rfl rfl ?_; clear QS a; intro a QS
              rcases ite_of h12 with ⟨c6, h13⟩ | ⟨c6, h13⟩ <;> clear h12
              · refine q_gT QS (b := (t8 == (wr .u64 (200 * (Int.tmod x1 4294967297))))) rfl rfl c6 ?_
                refine q_move QS rfl rfl ?_; clear QS a; intro a QS
                refine q_gT QS (b := (t8 == (wr .u64 (200 * (Int.tmod x1 4294967297))))) rfl rfl c6 ?_
                refine q_move QS rfl rfl ?_; clear QS a; intro a QS
                refine q_gT QS (b := (t8 == (wr .u64 (200 * (Int.tmod x1 4294967297))))) rfl rfl c6 ?_
                obtain ⟨t9, et9, h14⟩ := bind_of h13; clear h13
                refine q_call QS (ds := [(.v (.int .u64 (Int.tmod x1 4294967297))), (.v (.bool x4))]) (d := (.v (.int .u64 t9))) N27 rfl rfl (fun _ => gas_Create.ok (Int.tmod x1 4294967297) x4 t9 et9 _ _) ?_; clear QS a; intro a QS
                refine q_gT QS (b := (t8 == (wr .u64 (200 * (Int.tmod x1 4294967297))))) rfl rfl c6 ?_
                refine q_move QS rfl rfl ?_; clear QS a; intro a QS
                refine q_gT QS (b := (t8 == (wr .u64 (200 * (Int.tmod x1 4294967297))))) rfl rfl c6 ?_
                refine q_bin QS rfl rfl rfl rfl ?_; clear QS a; intro a QS
                refine q_pick QS (b := true) (hc_of rfl c6) rfl rfl ?_; clear QS a; intro a QS
                refine q_assign QS rfl rfl ?_; clear QS a; intro a QS
                refine q_end QS ?_; clear QS; intro w S
                refine x_thenN ?_
                refine wp_ret ?_
                obtain rfl := Option.some.inj h14
                exact b_ret1 (d := (.v (.bool (t9 == y1)))) S rfl rfl fun ok => ⟨rfl, ok, S.below⟩
              · refine q_gF QS (b := (t8 == (wr .u64 (200 * (Int.tmod x1 4294967297))))) rfl rfl c6 rfl ?_; clear QS a; intro a QS
                refine q_gF QS (b := (t8 == (wr .u64 (200 * (Int.tmod x1 4294967297))))) rfl rfl c6 rfl ?_; clear QS a; intro a QS
                refine q_gF QS (b := (t8 == (wr .u64 (200 * (Int.tmod x1 4294967297))))) rfl rfl c6 rfl ?_; clear QS a; intro a QS
                refine q_gF QS (b := (t8 == (wr .u64 (200 * (Int.tmod x1 4294967297))))) rfl rfl c6 rfl ?_; clear QS a; intro a QS
                refine q_gF QS (b := (t8 == (wr .u64 (200 * (Int.tmod x1 4294967297))))) rfl rfl c6 rfl ?_; clear QS a; intro a QS
                refine q_pick QS (b := false) (hc_of rfl c6) rfl rfl ?_; clear QS a; intro a QS
                refine q_assign QS rfl rfl ?_; clear QS a; intro a QS
                refine q_end QS ?_; clear QS; intro w S
                refine x_thenN ?_
                refine wp_ret ?_
                obtain rfl := Option.some.inj h13
                exact b_ret1 (d := (.v (.bool false))) S rfl rfl fun ok => ⟨rfl, ok, S.below⟩
            · refine q_gF QS (b := (t7 == (wr .u64 ((wr .u64 (375 + (wr .u64 (375 * (wr .u64 (Int.tmod (wr .i64 x2) 5)))))) + (wr .u64 (8 * (Int.tmod x1 4294967297))))))) rfl rfl c5 rfl ?_; clear QS a; intro a QS
              refine q_gF QS (b := (t7 == (wr .u64 ((wr .u64 (375 + (wr .u64 (375 * (wr .u64 (Int.tmod (wr .i64 x2) 5)))))) + (wr .u64 (8 * (Int.tmod x1 4294967297))))))) rfl rfl c5 rfl ?_; clear QS a; intro a QS
              refine q_gF QS (b := (t7 == (wr .u64 ((wr .u64 (375 + (wr .u64 (375 * (wr .u64 (Int.tmod (wr .i64 x2) 5)))))) + (wr .u64 (8 * (Int.tmod x1 4294967297))))))) rfl rfl c5 rfl ?_; clear QS a; intro a QS
              refine q_gF QS (b := (t7 == (wr .u64 ((wr .u64 (375 + (wr .u64 (375 * (wr .u64 (Int.tmod (wr .i64 x2) 5)))))) + (wr .u64 (8 * (Int.tmod x1 4294967297))))))) rfl rfl c5 rfl ?_; clear QS a; intro a QS
              refine q_gF QS (b := (t7 == (wr .u64 ((wr .u64 (375 + (wr .u64 (375 * (wr .u64 (Int.tmod (wr .i64 x2) 5)))))) + (wr .u64 (8 * (Int.tmod x1 4294967297))))))) rfl rfl c5 rfl ?_; clear QS a; intro a QS
              refine q_pick QS (b := false) (hc_of rfl c5) rfl rfl ?_; clear QS a; intro a QS
              refine q_move QS rfl rfl ?_; clear QS a; intro a QS
              refine q_gF QS (b := false) rfl rfl rfl rfl ?_; clear QS a; intro a QS
              refine q_gF QS (b := false) rfl rfl rfl rfl ?_; clear QS a; intro a QS
              refine q_gF QS (b := false) rfl rfl rfl rfl ?_; clear QS a; intro a QS
              refine q_gF QS (b := false) rfl rfl rfl rfl ?_; clear QS a; intro a QS
              refine q_gF QS (b := false) rfl rfl rfl rfl ?_; clear QS a; intro a QS
              refine q_pick QS (b := false) (hc_of rfl rfl) rfl rfl ?_; clear QS a; intro a QS
              refine q_assign QS rfl rfl ?_; clear QS a; intro a QS
              refine q_end QS ?_; clear QS; intro w S
              refine x_thenN ?_
              refine wp_ret ?_
              obtain rfl := Option.some.inj h11
              exact b_ret1 (d := (.v (.bool false))) S rfl rfl fun ok => ⟨rfl, ok, S.below⟩
          · refine q_gF QS (b := (t6 == (wr .u64 (30 + (wr .u64 (6 * t1)))))) rfl rfl c4 rfl ?_; clear QS a; intro a QS
            refine q_gF QS (b := (t6 == (wr .u64 (30 + (wr .u64 (6 * t1)))))) rfl rfl c4 rfl ?_; clear QS a; intro a QS
            refine q_gF QS (b := (t6 == (wr .u64 (30 + (wr .u64 (6 * t1)))))) rfl rfl c4 rfl ?_; clear QS a; intro a QS
            refine q_gF QS (b := (t6 == (wr .u64 (30 + (wr .u64 (6 * t1)))))) rfl rfl c4 rfl ?_; clear QS a; intro a QS
            refine q_gF QS (b := (t6 == (wr .u64 (30 + (wr .u64 (6 * t1)))))) rfl rfl c4 rfl ?_; clear QS a; intro a QS
            refine q_gF QS (b := (t6 == (wr .u64 (30 + (wr .u64 (6 * t1)))))) rfl rfl c4 rfl ?_; clear QS a; intro a QS
            refine q_gF QS (b := (t6 == (wr .u64 (30 + (wr .u64 (6 * t1)))))) rfl rfl c4 rfl ?_; clear QS a; intro a QS
            refine q_gF QS (b := (t6 == (wr .u64 (30 + (wr .u64 (6 * t1)))))) rfl rfl c4 rfl ?_; clear QS a; intro a QS
            refine q_gF QS (b := (t6 == (wr .u64 (30 + (wr .u64 (6 * t1)))))) rfl rfl c4 rfl ?_; clear QS a; intro a QS
            refine q_gF QS (b := (t6 == (wr .u64 (30 + (wr .u64 (6 * t1)))))) rfl rfl c4 rfl ?_; clear QS a; intro a QS
            refine q_gF QS (b := (t6 == (wr .u64 (30 + (wr .u64 (6 * t1)))))) rfl rfl c4 rfl ?_; clear QS a; intro a QS
            refine q_pick QS (b := false) (hc_of rfl c4) rfl rfl ?_; clear QS a; intro a QS
            refine q_move QS rfl rfl ?_; clear QS a; intro a QS
            refine q_gF QS (b := false) rfl rfl rfl rfl ?_; clear QS a; intro a QS
            refine q_gF QS (b := false) rfl rfl rfl rfl ?_; clear QS a; intro a QS
            refine q_gF QS (b := false) rfl rfl rfl rfl ?_; clear QS a; intro a QS
            refine q_gF QS (b := false) rfl rfl rfl rfl ?_; clear QS a; intro a QS
            refine q_gF QS (b := false) rfl rfl rfl rfl ?_; clear QS a; intro a QS
            refine q_pick QS (b := false) (hc_of rfl rfl) rfl rfl ?_; clear QS a; intro a QS
            refine q_move QS rfl rfl ?_; clear QS a; intro a QS
            refine q_gF QS (b := false) rfl rfl rfl rfl ?_; clear QS a; intro a QS
            refine q_gF QS (b := false) rfl rfl rfl rfl ?_; clear QS a; intro a QS
            refine q_gF QS (b := false) rfl rfl rfl rfl ?_; clear QS a; intro a QS
            refine q_gF QS (b := false) rfl rfl rfl rfl ?_; clear QS a; intro a QS
            refine q_gF QS (b := false) rfl rfl rfl rfl ?_; clear QS a; intro a QS
            refine q_pick QS (b := false) (hc_of rfl rfl) rfl rfl ?_; clear QS a; intro a QS
            refine q_assign QS rfl rfl ?_; clear QS a; intro a QS
            refine q_end QS ?_; clear QS; intro w S
            refine x_thenN ?_
            refine wp_ret ?_
            obtain rfl := Option.some.inj h9
            exact b_ret1 (d := (.v (.bool false))) S rfl rfl fun ok => ⟨rfl, ok, S.below⟩
        · refine q_gF QS (b := (t5 == (wr .u64 (3 * t1)))) rfl rfl c3 rfl ?_; clear QS a; intro a QS
          refine q_gF QS (b := (t5 == (wr .u64 (3 * t1)))) rfl rfl c3 rfl ?_; clear QS a; intro a QS
          refine q_gF QS (b := (t5 == (wr .u64 (3 * t1)))) rfl rfl c3 rfl ?_; clear QS a; intro a QS
          refine q_gF QS (b := (t5 == (wr .u64 (3 * t1)))) rfl rfl c3 rfl ?_; clear QS a; intro a QS
          refine q_gF QS (b := (t5 == (wr .u64 (3 * t1)))) rfl rfl c3 rfl ?_; clear QS a; intro a QS
          refine q_gF QS (b := (t5 == (wr .u64 (3 * t1)))) rfl rfl c3 rfl ?_; clear QS a; intro a QS
          refine q_pick QS (b := false) (hc_of rfl c3) rfl rfl ?_; clear QS a; intro a QS
          refine q_move QS rfl rfl ?_; clear QS a; intro a QS
          refine q_gF QS (b := false) rfl rfl rfl rfl ?_; clear QS a; intro a QS
          refine q_gF QS (b := false) rfl rfl rfl rfl ?_; clear QS a; intro a QS
          refine q_gF QS (b := false) rfl rfl rfl rfl ?_; clear QS a; intro a QS
          refine q_gF QS (b := false) rfl rfl rfl rfl ?_; clear QS a; intro a QS
          refine q_gF QS (b := false) rfl rfl rfl rfl ?_; clear QS a; intro a QS
          refine q_gF QS (b := false) rfl rfl rfl rfl ?_; clear QS a; intro a QS
          refine q_gF QS (b := false) rfl rfl rfl rfl ?_; clear QS a; intro a QS
          refine q_gF QS (b := false) rfl rfl rfl rfl ?_; clear QS a; intro a QS
          refine q_gF QS (b := false) rfl rfl rfl rfl ?_; clear QS a; intro a QS
          refine q_gF QS (b := false) rfl rfl rfl rfl ?_; clear QS a; intro a QS
          refine q_gF QS (b := false) rfl rfl rfl rfl ?_; clear QS a; intro a QS
          refine q_pick QS (b := false) (hc_of rfl rfl) rfl rfl ?_; clear QS a; intro a QS
          refine q_move QS rfl rfl ?_; clear QS a; intro a QS
          refine q_gF QS (b := false) rfl rfl rfl rfl ?_; clear QS a; intro a QS
          refine q_gF QS (b := false) rfl rfl rfl rfl ?_; clear QS a; intro a QS
          refine q_gF QS (b := false) rfl rfl rfl rfl ?_; clear QS a; intro a QS
          refine q_gF QS (b := false) rfl rfl rfl rfl ?_; clear QS a; intro a QS
          refine q_gF QS (b := false) rfl rfl rfl rfl ?_; clear QS a; intro a QS
          refine q_pick QS (b := false) (hc_of rfl rfl) rfl rfl ?_; clear QS a; intro a QS
          refine q_move QS rfl rfl ?_; clear QS a; intro a QS
          refine q_gF QS (b := false) rfl rfl rfl rfl ?_; clear QS a; intro a QS
          refine q_gF QS (b := false) rfl rfl rfl rfl ?_; clear QS a; intro a QS
          refine q_gF QS (b := false) rfl rfl rfl rfl ?_; clear QS a; intro a QS
          refine q_gF QS (b := false) rfl rfl rfl rfl ?_; clear QS a; intro a QS
          refine q_gF QS (b := false) rfl rfl rfl rfl ?_; clear QS a; intro a QS
          refine q_pick QS (b := false) (hc_of rfl rfl) rfl rfl ?_; clear QS a; intro a QS
          refine q_assign QS rfl rfl ?_; clear QS a; intro a QS
          refine q_end QS ?_; clear QS; intro w S
          refine x_thenN ?_
          refine wp_ret ?_
          obtain rfl := Option.some.inj h7
          exact b_ret1 (d := (.v (.bool false))) S rfl rfl fun ok => ⟨rfl, ok, S.below⟩
      · refine q_gF QS (b := (t3 == t4)) rfl rfl c2 rfl ?_; clear QS a; intro a QS
        refine q_gF QS (b := (t3 == t4)) rfl rfl c2 rfl ?_; clear QS a; intro a QS
        refine q_gF QS (b := (t3 == t4)) rfl rfl c2 rfl ?_; clear QS a; intro a QS
        refine q_gF QS (b := (t3 == t4)) rfl rfl c2 rfl ?_; clear QS a; intro a QS
        refine q_gF QS (b := (t3 == t4)) rfl rfl c2 rfl ?_; clear QS a; intro a QS
        refine q_pick QS (b := false) (hc_of rfl c2) rfl rfl ?_; clear QS a; intro a QS
        refine q_move QS rfl rfl ?_; clear QS a; intro a QS
        refine q_gF QS (b := false) rfl rfl rfl rfl ?_; clear QS a; intro a QS
        refine q_gF QS (b := false) rfl rfl rfl rfl ?_; clear QS a; intro a QS
        refine q_gF QS (b := false) rfl rfl rfl rfl ?_; clear QS a; intro a QS
        refine q_gF QS (b := false) rfl rfl rfl rfl ?_; clear QS a; intro a QS
        refine q_gF QS (b := false) rfl rfl rfl rfl ?_; clear QS a; intro a QS
        refine q_gF QS (b := false) rfl rfl rfl rfl ?_; clear QS a; intro a QS
        refine q_pick QS (b := false) (hc_of rfl rfl) rfl rfl ?_; clear QS a; intro a QS
        refine q_move QS rfl rfl ?_; clear QS a; intro a QS
        refine q_gF QS (b := false) rfl rfl rfl rfl ?_; clear QS a; intro a QS
        refine q_gF QS (b := false) rfl rfl rfl rfl ?_; clear QS a; intro a QS
        refine q_gF QS (b := false) rfl rfl rfl rfl ?_; clear QS a; intro a QS
        refine q_gF QS (b := false) rfl rfl rfl rfl ?_; clear QS a; intro a QS
        refine q_gF QS (b := false) rfl rfl rfl rfl ?_; clear QS a; intro a QS
        refine q_gF QS (b := false) rfl rfl rfl rfl ?_; clear QS a; intro a QS
        refine q_gF QS (b := false) rfl rfl rfl rfl ?_; clear QS a; intro a QS
        refine q_gF QS (b := false) rfl rfl rfl rfl ?_; clear QS a; intro a QS
        refine q_gF QS (b := false) rfl rfl rfl rfl ?_; clear QS a; intro a QS
        refine q_gF QS (b := false) rfl rfl rfl rfl ?_; clear QS a; intro a QS
        refine q_gF QS (b := false) rfl rfl rfl rfl ?_; clear QS a; intro a QS
        refine q_pick QS (b := false) (hc_of rfl rfl) rfl rfl ?_; clear QS a; intro a QS
        refine q_move QS rfl rfl ?_; clear QS a; intro a QS
        refine q_gF QS (b := false) rfl rfl rfl rfl ?_; clear QS a; intro a QS
        refine q_gF QS (b := false) rfl rfl rfl rfl ?_; clear QS a; intro a QS
        refine q_gF QS (b := false) rfl rfl rfl rfl ?_; clear QS a; intro a QS
        refine q_gF QS (b := false) rfl rfl rfl rfl ?_; clear QS a; intro a QS
        refine q_gF QS (b := false) rfl rfl rfl rfl ?_; clear QS a; intro a QS
        refine q_pick QS (b := false) (hc_of rfl rfl) rfl rfl ?_; clear QS a; intro a QS
        refine q_move QS rfl rfl ?_; clear QS a; intro a QS
        refine q_gF QS (b := false) rfl rfl rfl rfl ?_; clear QS a; intro a QS
        refine q_gF QS (b := false) rfl rfl rfl rfl ?_; clear QS a; intro a QS
        refine q_gF QS (b := false) rfl rfl rfl rfl ?_; clear QS a; intro a QS
        refine q_gF QS (b := false) rfl rfl rfl rfl ?_; clear QS a; intro a QS
        refine q_gF QS (b := false) rfl rfl rfl rfl ?_; clear QS a; intro a QS
        refine q_pick QS (b := false) (hc_of rfl rfl) rfl rfl ?_; clear QS a; intro a QS
        refine q_assign QS rfl rfl ?_; clear QS a; intro a QS
        refine q_end QS ?_; clear QS; intro w S
        refine x_thenN ?_
        refine wp_ret ?_
        obtain rfl := Option.some.inj h5
        exact b_ret1 (d := (.v (.bool false))) S rfl rfl fun ok => ⟨rfl, ok, S.below⟩
    · refine q_gF QS (b := t2) rfl rfl c1 rfl ?_; clear QS a; intro a QS
      refine q_gF QS (b := t2) rfl rfl c1 rfl ?_; clear QS a; intro a QS
      refine q_gF QS (b := t2) rfl rfl c1 rfl ?_; clear QS a; intro a QS
      refine q_gF QS (b := t2) rfl rfl c1 rfl ?_; clear QS a; intro a QS
      refine q_gF QS (b := t2) rfl rfl c1 rfl ?_; clear QS a; intro a QS
      refine q_pick QS (b := false) (hc_of rfl c1) rfl rfl ?_; clear QS a; intro a QS
      refine q_move QS rfl rfl ?_; clear QS a; intro a QS
      refine q_gF QS (b := false) rfl rfl rfl rfl ?_; clear QS a; intro a QS
      refine q_gF QS (b := false) rfl rfl rfl rfl ?_; clear QS a; intro a QS
      refine q_gF QS (b := false) rfl rfl rfl rfl ?_; clear QS a; intro a QS
      refine q_gF QS (b := false) rfl rfl rfl rfl ?_; clear QS a; intro a QS
      refine q_gF QS (b := false) rfl rfl rfl rfl ?_; clear QS a; intro a QS
      refine q_pick QS (b := false) (hc_of rfl rfl) rfl rfl ?_; clear QS a; intro a QS
      refine q_move QS rfl rfl ?_; clear QS a; intro a QS
      refine q_gF QS (b := false) rfl rfl rfl rfl ?_; clear QS a; intro a QS
      refine q_gF QS (b := false) rfl rfl rfl rfl ?_; clear QS a; intro a QS
      refine q_gF QS (b := false) rfl rfl rfl rfl ?_; clear QS a; intro a QS
      refine q_gF QS (b := false) rfl rfl rfl rfl ?_; clear QS a; intro a QS
      refine q_gF QS (b := false) rfl rfl rfl rfl ?_; clear QS a; intro a QS
      refine q_gF QS (b := false) rfl rfl rfl rfl ?_; clear QS a; intro a QS
      refine q_pick QS (b := false) (hc_of rfl rfl) rfl rfl ?_; clear QS a; intro a QS
      refine q_move QS rfl rfl ?_; clear QS a; intro a QS
      refine q_gF QS (b := false) rfl rfl rfl rfl ?_; clear QS a; intro a QS
      refine q_gF QS (b := false) rfl rfl rfl rfl ?_; clear QS a; intro a QS
      refine q_gF QS (b := false) rfl rfl rfl rfl ?_; clear QS a; intro a QS
      refine q_gF QS (b := false) rfl rfl rfl rfl ?_; clear QS a; intro a QS
      refine q_gF QS (b := false) rfl rfl rfl rfl ?_; clear QS a; intro a QS
      refine q_gF QS (b := false) rfl rfl rfl rfl ?_; clear QS a; intro a QS
      refine q_gF QS (b := false) rfl rfl rfl rfl ?_; clear QS a; intro a QS
      refine q_gF QS (b := false) rfl rfl rfl rfl ?_; clear QS a; intro a QS
      refine q_gF QS (b := false) rfl rfl rfl rfl ?_; clear QS a; intro a QS
      refine q_gF QS (b := false) rfl rfl rfl rfl ?_; clear QS a; intro a QS
      refine q_gF QS (b := false) rfl rfl rfl rfl ?_; clear QS a; intro a QS
      refine q_pick QS (b := false) (hc_of rfl rfl) rfl rfl ?_; clear QS a; intro a QS
      refine q_move QS rfl rfl ?_; clear QS a; intro a QS
      refine q_gF QS (b := false) rfl rfl rfl rfl ?_; clear QS a; intro a QS
      refine q_gF QS (b := false) rfl rfl rfl rfl ?_; clear QS a; intro a QS
      refine q_gF QS (b := false) rfl rfl rfl rfl ?_; clear QS a; intro a QS
      refine q_gF QS (b := false) rfl rfl rfl rfl ?_; clear QS a; intro a QS
      refine q_gF QS (b := false) rfl rfl rfl rfl ?_; clear QS a; intro a QS
      refine q_pick QS (b := false) (hc_of rfl rfl) rfl rfl ?_; clear QS a; intro a QS
      refine q_move QS rfl rfl ?_; clear QS a; intro a QS
      refine q_gF QS (b := false) rfl rfl rfl rfl ?_; clear QS a; intro a QS
      refine q_gF QS (b := false) rfl rfl rfl rfl ?_; clear QS a; intro a QS
      refine q_gF QS (b := false) rfl rfl rfl rfl ?_; clear QS a; intro a QS
      refine q_gF QS (b := false) rfl rfl rfl rfl ?_; clear QS a; intro a QS
      refine q_gF QS (b := false) rfl rfl rfl rfl ?_; clear QS a; intro a QS
      refine q_pick QS (b := false) (hc_of rfl rfl) rfl rfl ?_; clear QS a; intro a QS
      refine q_assign QS rfl rfl ?_; clear QS a; intro a QS
      refine q_end QS ?_; clear QS; intro w S
      refine x_thenN ?_
      refine wp_ret ?_
      obtain rfl := Option.some.inj h2
      exact b_ret1 (d := (.v (.bool false))) S rfl rfl fun ok => ⟨rfl, ok, S.below⟩
  refine c_region ?_
  refine s_move S rfl rfl ?_; clear S a; intro a S
  refine c_end ?_
  rcases ite_of h1 with ⟨c7, h2⟩ | ⟨c7, h2⟩ <;> clear h1
  · refine c_condT S rfl c7 ?_
    refine c_region' ?_
    refine s_move S rfl rfl ?_; clear S a; intro a S
    refine s_move S rfl rfl ?_; clear S a; intro a S
    refine s_bin S rfl rfl rfl rfl ?_; clear S a; intro a S
    refine s_bin S rfl rfl rfl rfl ?_; clear S a; intro a S
    refine s_assign S rfl rfl ?_; clear S a; intro a S
    refine c_end' ?_
    refine x_thenN ?_
    exact j1 _ (wr .u64 ((wr .u64 (32000 + (wr .u64 (2 * t1)))) + (wr .u64 (6 * t1)))) g1 a w (S.sub ⟨rfl, rfl, rfl, rfl, rfl, rfl, trivial⟩ (.cons .here .nil)) h2
  · refine c_condF S rfl c7 ?_
    refine wp_skip ?_
    refine x_thenN ?_
    exact j1 _ (wr .u64 (32000 + (wr .u64 (2 * t1)))) g1 a w (S.sub ⟨rfl, rfl, rfl, rfl, rfl, rfl, trivial⟩ (.cons .here .nil)) h2
end GW
