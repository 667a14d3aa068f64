/-
  Printed by a program of these sessions (wip/gw/gw.py): for each Go function a Lean function with the same answers, and the walk that shows it.
-/
import Derived.Test.YtfebengelehglaaProg
import Derived.Test.YtfebengelehglaaGWOps
set_option linter.unusedVariables false
set_option maxRecDepth 10000
namespace GW
open Go Go.RowKit Go.Proofs
theorem Z24 : zeroI Try.prog 24 = some (D.val (.agg [.ints .u64 [0, 0, 0, 0] 4])) := by kernel_rfl
theorem T24 : tyI Try.prog 24 = some (true, 4) := by kernel_rfl
theorem T22 : tyI Try.prog 22 = some (false, 1) := by kernel_rfl
theorem Q24 : Try.prog.eqGuardType Try.prog.depth 24 = false := by kernel_rfl
theorem N28 : Fn_ Try.prog 28 := ⟨_, Try.func28, rfl, by decide⟩
theorem N29 : Fn_ Try.prog 29 := ⟨_, Try.func29, rfl, by decide⟩
theorem N9 : Fn_ Try.prog 9 := ⟨_, Try.func9, rfl, by decide⟩
theorem N12 : Fn_ Try.prog 12 := ⟨_, Try.func12, rfl, by decide⟩
theorem N13 : Fn_ Try.prog 13 := ⟨_, Try.func13, rfl, by decide⟩
theorem N10 : Fn_ Try.prog 10 := ⟨_, Try.func10, rfl, by decide⟩
theorem N11 : Fn_ Try.prog 11 := ⟨_, Try.func11, rfl, by decide⟩
theorem N14 : Fn_ Try.prog 14 := ⟨_, Try.func14, rfl, by decide⟩
theorem N15 : Fn_ Try.prog 15 := ⟨_, Try.func15, rfl, by decide⟩
theorem N16 : Fn_ Try.prog 16 := ⟨_, Try.func16, rfl, by decide⟩
theorem N17 : Fn_ Try.prog 17 := ⟨_, Try.func17, rfl, by decide⟩
/-! smithy/gas.either -/
def f28_gas_either.f (x1 : Bool) (x2 : Int) (x3 : Int) : Option Int := if x1 = true then (some x2) else (some x3)
theorem f28_gas_either.ok (x1 : Bool) (x2 : Int) (x3 : Int) (r : Int) (h0 : f28_gas_either.f x1 x2 x3 = some r) (m : Mem) (w0 : World) : okL [(.v (.bool x1)), (.v (.int .u64 x2)), (.v (.int .u64 x3))] → Frz m w0 → Calls Try.prog 28 (([(.v (.bool x1)), (.v (.int .u64 x2)), (.v (.int .u64 x3))] : List D).map D.val).toArray w0 (Ret (.v (.int .u64 r)) w0) := by
  intro ok hm
  delta f28_gas_either.f at h0
  refine c_enter (n := 10) [(.v (.bool x1)), (.v (.int .u64 x2)), (.v (.int .u64 x3))] (l := [(0, (.v (.bool x1))), (1, (.v (.int .u64 x2))), (2, (.v (.int .u64 x3)))]) Try.func28 rfl rfl rfl rfl ok hm ?_
  clear ok hm
  intro a S
  refine c_region ?_
  refine s_assign S rfl rfl ?_; clear S a; intro a S
  refine c_end ?_
  refine wp_seq ?_
  refine c_region ?_
  refine s_move S rfl rfl ?_; clear S a; intro a S
  refine c_end ?_
  rcases ite_of h0 with ⟨c1, h1⟩ | ⟨c1, h1⟩ <;> clear h0
  · refine c_condT S rfl c1 ?_
    refine c_region ?_
    refine s_move S rfl rfl ?_; clear S a; intro a S
    refine s_assign S rfl rfl ?_; clear S a; intro a S
    refine c_end ?_
    refine wp_ret ?_
    refine x_thenR ?_
    obtain rfl := Option.some.inj h1
    exact b_ret1 (d := (.v (.int .u64 x2))) S rfl rfl fun ok => ⟨rfl, ok, S.below⟩
  · refine c_condF S rfl c1 ?_
    refine wp_skip ?_
    refine x_thenN ?_
    refine c_region ?_
    refine s_move S rfl rfl ?_; clear S a; intro a S
    refine s_assign S rfl rfl ?_; clear S a; intro a S
    refine c_end ?_
    refine wp_ret ?_
    obtain rfl := Option.some.inj h1
    exact b_ret1 (d := (.v (.int .u64 x3))) S rfl rfl fun ok => ⟨rfl, ok, S.below⟩
/-! smithy/gas.again -/
def f29_gas_again.j4 (y4 : Int) : Option Int := some y4
def f29_gas_again.j5 (y3 : Int) (y5 : Bool) : Option Int := if y5 = true then (f29_gas_again.j4 (wr .i64 (y3 + 2800))) else (f29_gas_again.j4 y3)
def f29_gas_again.j3 (x1 : List Int) (x3 : List Int) (y3 : Int) : Option Int := if (decide (x1 = x3)) = true then (f29_gas_again.j5 y3 (!(decide (x1 = [0, 0, 0, 0])))) else (f29_gas_again.j5 y3 false)
def f29_gas_again.j6 (x1 : List Int) (x3 : List Int) (y2 : Int) (y6 : Bool) : Option Int := if y6 = true then (f29_gas_again.j3 x1 x3 (wr .i64 (y2 + 19900))) else (f29_gas_again.j3 x1 x3 y2)
def f29_gas_again.j2 (x1 : List Int) (x3 : List Int) (y2 : Int) : Option Int := if (decide (x1 = x3)) = true then (f29_gas_again.j6 x1 x3 y2 (decide (x1 = [0, 0, 0, 0]))) else (f29_gas_again.j6 x1 x3 y2 false)
def f29_gas_again.j7 (x1 : List Int) (x3 : List Int) (y1 : Int) (y7 : Bool) : Option Int := if y7 = true then (f29_gas_again.j2 x1 x3 (wr .i64 (y1 + 4800))) else (f29_gas_again.j2 x1 x3 y1)
def f29_gas_again.j1 (x1 : List Int) (x3 : List Int) (y1 : Int) : Option Int := if (!(decide (x1 = [0, 0, 0, 0]))) = true then (f29_gas_again.j7 x1 x3 y1 (decide (x3 = [0, 0, 0, 0]))) else (f29_gas_again.j7 x1 x3 y1 false)
def f29_gas_again.j8 (x1 : List Int) (x3 : List Int) (y8 : Bool) : Option Int := if y8 = true then (f29_gas_again.j1 x1 x3 (wr .i64 (0 - 4800))) else (f29_gas_again.j1 x1 x3 0)
def f29_gas_again.f (x1 : List Int) (x2 : List Int) (x3 : List Int) : Option Int := if (!(decide (x1 = [0, 0, 0, 0]))) = true then (f29_gas_again.j8 x1 x3 (decide (x2 = [0, 0, 0, 0]))) else (f29_gas_again.j8 x1 x3 false)
theorem f29_gas_again.ok (x1 : List Int) (x2 : List Int) (x3 : List Int) (r : Int) (h0 : f29_gas_again.f x1 x2 x3 = some r) (m : Mem) (w0 : World) : okL [(.agg [.ints .u64 x1 4]), (.agg [.ints .u64 x2 4]), (.agg [.ints .u64 x3 4])] → Frz m w0 → Calls Try.prog 29 (([(.agg [.ints .u64 x1 4]), (.agg [.ints .u64 x2 4]), (.agg [.ints .u64 x3 4])] : List D).map D.val).toArray w0 (Ret (.v (.int .i64 r)) w0) := by
  intro ok hm
  delta f29_gas_again.f at h0
  refine c_enter (n := 50) [(.agg [.ints .u64 x1 4]), (.agg [.ints .u64 x2 4]), (.agg [.ints .u64 x3 4])] (l := [(0, (.agg [.ints .u64 x1 4])), (1, (.agg [.ints .u64 x2 4])), (2, (.agg [.ints .u64 x3 4]))]) Try.func29 rfl rfl rfl rfl ok hm ?_
  clear ok hm
  intro a S
  refine c_region ?_
  refine s_box S rfl rfl rfl ?_; clear S a; intro g1 a w S
  refine s_box S rfl rfl rfl ?_; clear S a w; intro g2 a w S
  refine s_box S rfl rfl rfl ?_; clear S a w; intro g3 a w S
  refine s_assign S rfl rfl ?_; clear S a; intro a S
  refine c_end ?_
  refine c_region ?_
  refine s_alloc S Z24 rfl ⟨rfl, trivial⟩ rfl ?_; clear S a w; intro g4 a w S
  refine c_end ?_
  refine c_region ?_
  refine s_assign S rfl rfl ?_; clear S a; intro a S
  refine c_end ?_
  refine wp_seq_k ?_
  intro K1 hK1
  have j1 : ∀ (y1 : Int) (a : Act) (w : World), St 50 m w0 [(8, (.v (.int .i64 y1))), (7, (.v (.pointer (some ⟨g4, 0, none⟩)))), (5, (.v (.pointer (some ⟨g3, 0, none⟩)))), (3, (.v (.pointer (some ⟨g1, 0, none⟩))))] [Res.cells g4 24 [.ints .u64 [0, 0, 0, 0] 4], Res.cells g3 24 [.ints .u64 x3 4], Res.cells g1 24 [.ints .u64 x1 4]] a w → f29_gas_again.j1 x1 x3 y1 = some r → K1 a w := by
    intro y1 a w S h0
    delta f29_gas_again.j1 at h0
    refine hK1 a w ?_
    refine wp_seq_k ?_
    intro K2 hK2
    have j2 : ∀ (y2 : Int) (a : Act) (w : World), St 50 m w0 [(8, (.v (.int .i64 y2))), (7, (.v (.pointer (some ⟨g4, 0, none⟩)))), (5, (.v (.pointer (some ⟨g3, 0, none⟩)))), (3, (.v (.pointer (some ⟨g1, 0, none⟩))))] [Res.cells g4 24 [.ints .u64 [0, 0, 0, 0] 4], Res.cells g3 24 [.ints .u64 x3 4], Res.cells g1 24 [.ints .u64 x1 4]] a w → f29_gas_again.j2 x1 x3 y2 = some r → K2 a w := by
      intro y2 a w S h0
      delta f29_gas_again.j2 at h0
      refine hK2 a w ?_
      refine wp_seq_k ?_
      intro K3 hK3
      have j3 : ∀ (y3 : Int) (a : Act) (w : World), St 50 m w0 [(8, (.v (.int .i64 y3))), (7, (.v (.pointer (some ⟨g4, 0, none⟩)))), (5, (.v (.pointer (some ⟨g3, 0, none⟩)))), (3, (.v (.pointer (some ⟨g1, 0, none⟩))))] [Res.cells g4 24 [.ints .u64 [0, 0, 0, 0] 4], Res.cells g3 24 [.ints .u64 x3 4], Res.cells g1 24 [.ints .u64 x1 4]] a w → f29_gas_again.j3 x1 x3 y3 = some r → K3 a w := by
        intro y3 a w S h0
        delta f29_gas_again.j3 at h0
        refine hK3 a w ?_
        refine wp_seq_k ?_
        intro K4 hK4
        have j4 : ∀ (y4 : Int) (a : Act) (w : World), St 50 m w0 [(8, (.v (.int .i64 y4)))] [] a w → f29_gas_again.j4 y4 = some r → K4 a w := by
          intro y4 a w S h0
          delta f29_gas_again.j4 at h0
          refine hK4 a w ?_
          refine c_region ?_
          refine s_move S rfl rfl ?_; clear S a; intro a S
          refine s_assign S rfl rfl ?_; clear S a; intro a S
          refine c_end ?_
          refine wp_ret ?_
          obtain rfl := Option.some.inj h0
          exact b_ret1 (d := (.v (.int .i64 y4))) S rfl rfl fun ok => ⟨rfl, ok, S.below⟩
        refine wp_seq_k ?_
        intro K5 hK5
        have j5 : ∀ (y5 : Bool) (a : Act) (w : World), St 50 m w0 [(46, (.v (.bool y5))), (8, (.v (.int .i64 y3)))] [] a w → f29_gas_again.j5 y3 y5 = some r → K5 a w := by
          intro y5 a w S h0
          delta f29_gas_again.j5 at h0
          refine hK5 a w ?_
          rcases ite_of h0 with ⟨c1, h1⟩ | ⟨c1, h1⟩ <;> clear h0
          · refine c_condT S rfl c1 ?_
            refine c_region' ?_
            refine s_move S rfl rfl ?_; clear S a; intro a S
            refine s_bin S rfl rfl rfl rfl ?_; clear S a; intro a S
            refine s_assign S rfl rfl ?_; clear S a; intro a S
            refine c_end' ?_
            refine x_thenN ?_
            exact j4 (wr .i64 (y3 + 2800)) a w (S.sub ⟨rfl, trivial⟩ .nil) h1
          · refine c_condF S rfl c1 ?_
            refine wp_skip ?_
            refine x_thenN ?_
            exact j4 y3 a w (S.sub ⟨rfl, trivial⟩ .nil) h1
        refine c_region' ?_
        refine s_loada S rfl (.there (.there .here)) T24 (s' := [.ints .u64 x1 4]) rfl rfl ?_; clear S a; intro a S
        refine s_loada S rfl (.there .here) T24 (s' := [.ints .u64 x3 4]) rfl rfl ?_; clear S a; intro a S
        refine s_eqa S rfl rfl Try.underlying24 Try.underlying22 T22 Q24 rfl ?_; clear S a; intro a S
        refine s_move S rfl rfl ?_; clear S a; intro a S
        rcases ite_of h0 with ⟨c2, h1⟩ | ⟨c2, h1⟩ <;> clear h0
        · refine s_gT S (b := (decide (x1 = x3))) rfl rfl c2 ?_
          refine s_loada S rfl (.there (.there .here)) T24 (s' := [.ints .u64 x1 4]) rfl rfl ?_; clear S a; intro a S
          refine s_gT S (b := (decide (x1 = x3))) rfl rfl c2 ?_
          refine s_loada S rfl .here T24 (s' := [.ints .u64 [0, 0, 0, 0] 4]) rfl rfl ?_; clear S a; intro a S
          refine s_gT S (b := (decide (x1 = x3))) rfl rfl c2 ?_
          refine s_nea S rfl rfl Try.underlying24 Try.underlying22 T22 Q24 rfl ?_; clear S a; intro a S
          refine s_pick S (b := true) (hc_of S rfl c2) rfl rfl ?_; clear S a; intro a S
          refine c_end' ?_
          refine x_thenN ?_
          exact j5 (!(decide (x1 = [0, 0, 0, 0]))) a w (S.sub ⟨rfl, rfl, trivial⟩ .nil) h1
        · refine s_gF S (b := (decide (x1 = x3))) rfl rfl c2 rfl ?_; clear S a; intro a S
          refine s_gF S (b := (decide (x1 = x3))) rfl rfl c2 rfl ?_; clear S a; intro a S
          refine s_gF S (b := (decide (x1 = x3))) rfl rfl c2 rfl ?_; clear S a; intro a S
          refine s_pick S (b := false) (hc_of S rfl c2) rfl rfl ?_; clear S a; intro a S
          refine c_end' ?_
          refine x_thenN ?_
          exact j5 false a w (S.sub ⟨rfl, rfl, trivial⟩ .nil) h1
      refine wp_seq_k ?_
      intro K6 hK6
      have j6 : ∀ (y6 : Bool) (a : Act) (w : World), St 50 m w0 [(36, (.v (.bool y6))), (8, (.v (.int .i64 y2))), (7, (.v (.pointer (some ⟨g4, 0, none⟩)))), (5, (.v (.pointer (some ⟨g3, 0, none⟩)))), (3, (.v (.pointer (some ⟨g1, 0, none⟩))))] [Res.cells g4 24 [.ints .u64 [0, 0, 0, 0] 4], Res.cells g3 24 [.ints .u64 x3 4], Res.cells g1 24 [.ints .u64 x1 4]] a w → f29_gas_again.j6 x1 x3 y2 y6 = some r → K6 a w := by
        intro y6 a w S h0
        delta f29_gas_again.j6 at h0
        refine hK6 a w ?_
        rcases ite_of h0 with ⟨c3, h1⟩ | ⟨c3, h1⟩ <;> clear h0
        · refine c_condT S rfl c3 ?_
          refine c_region' ?_
          refine s_move S rfl rfl ?_; clear S a; intro a S
          refine s_bin S rfl rfl rfl rfl ?_; clear S a; intro a S
          refine s_assign S rfl rfl ?_; clear S a; intro a S
          refine c_end' ?_
          refine x_thenN ?_
          exact j3 (wr .i64 (y2 + 19900)) a w (S.sub ⟨rfl, rfl, rfl, rfl, trivial⟩ (.cons .here (.cons .here (.cons .here .nil)))) h1
        · refine c_condF S rfl c3 ?_
          refine wp_skip ?_
          refine x_thenN ?_
          exact j3 y2 a w (S.sub ⟨rfl, rfl, rfl, rfl, trivial⟩ (.cons .here (.cons .here (.cons .here .nil)))) h1
      refine c_region' ?_
      refine s_loada S rfl (.there (.there .here)) T24 (s' := [.ints .u64 x1 4]) rfl rfl ?_; clear S a; intro a S
      refine s_loada S rfl (.there .here) T24 (s' := [.ints .u64 x3 4]) rfl rfl ?_; clear S a; intro a S
      refine s_eqa S rfl rfl Try.underlying24 Try.underlying22 T22 Q24 rfl ?_; clear S a; intro a S
      refine s_move S rfl rfl ?_; clear S a; intro a S
      rcases ite_of h0 with ⟨c4, h1⟩ | ⟨c4, h1⟩ <;> clear h0
      · refine s_gT S (b := (decide (x1 = x3))) rfl rfl c4 ?_
        refine s_loada S rfl (.there (.there .here)) T24 (s' := [.ints .u64 x1 4]) rfl rfl ?_; clear S a; intro a S
        refine s_gT S (b := (decide (x1 = x3))) rfl rfl c4 ?_
        refine s_loada S rfl .here T24 (s' := [.ints .u64 [0, 0, 0, 0] 4]) rfl rfl ?_; clear S a; intro a S
        refine s_gT S (b := (decide (x1 = x3))) rfl rfl c4 ?_
        refine s_eqa S rfl rfl Try.underlying24 Try.underlying22 T22 Q24 rfl ?_; clear S a; intro a S
        refine s_pick S (b := true) (hc_of S rfl c4) rfl rfl ?_; clear S a; intro a S
        refine c_end' ?_
        refine x_thenN ?_
        exact j6 (decide (x1 = [0, 0, 0, 0])) a w (S.sub ⟨rfl, rfl, rfl, rfl, rfl, trivial⟩ (.cons .here (.cons .here (.cons .here .nil)))) h1
      · refine s_gF S (b := (decide (x1 = x3))) rfl rfl c4 rfl ?_; clear S a; intro a S
        refine s_gF S (b := (decide (x1 = x3))) rfl rfl c4 rfl ?_; clear S a; intro a S
        refine s_gF S (b := (decide (x1 = x3))) rfl rfl c4 rfl ?_; clear S a; intro a S
        refine s_pick S (b := false) (hc_of S rfl c4) rfl rfl ?_; clear S a; intro a S
        refine c_end' ?_
        refine x_thenN ?_
        exact j6 false a w (S.sub ⟨rfl, rfl, rfl, rfl, rfl, trivial⟩ (.cons .here (.cons .here (.cons .here .nil)))) h1
    refine wp_seq_k ?_
    intro K7 hK7
    have j7 : ∀ (y7 : Bool) (a : Act) (w : World), St 50 m w0 [(26, (.v (.bool y7))), (8, (.v (.int .i64 y1))), (7, (.v (.pointer (some ⟨g4, 0, none⟩)))), (5, (.v (.pointer (some ⟨g3, 0, none⟩)))), (3, (.v (.pointer (some ⟨g1, 0, none⟩))))] [Res.cells g4 24 [.ints .u64 [0, 0, 0, 0] 4], Res.cells g3 24 [.ints .u64 x3 4], Res.cells g1 24 [.ints .u64 x1 4]] a w → f29_gas_again.j7 x1 x3 y1 y7 = some r → K7 a w := by
      intro y7 a w S h0
      delta f29_gas_again.j7 at h0
      refine hK7 a w ?_
      rcases ite_of h0 with ⟨c5, h1⟩ | ⟨c5, h1⟩ <;> clear h0
      · refine c_condT S rfl c5 ?_
        refine c_region' ?_
        refine s_move S rfl rfl ?_; clear S a; intro a S
        refine s_bin S rfl rfl rfl rfl ?_; clear S a; intro a S
        refine s_assign S rfl rfl ?_; clear S a; intro a S
        refine c_end' ?_
        refine x_thenN ?_
        exact j2 (wr .i64 (y1 + 4800)) a w (S.sub ⟨rfl, rfl, rfl, rfl, trivial⟩ (.cons .here (.cons .here (.cons .here .nil)))) h1
      · refine c_condF S rfl c5 ?_
        refine wp_skip ?_
        refine x_thenN ?_
        exact j2 y1 a w (S.sub ⟨rfl, rfl, rfl, rfl, trivial⟩ (.cons .here (.cons .here (.cons .here .nil)))) h1
    refine c_region' ?_
    refine s_loada S rfl (.there (.there .here)) T24 (s' := [.ints .u64 x1 4]) rfl rfl ?_; clear S a; intro a S
    refine s_loada S rfl .here T24 (s' := [.ints .u64 [0, 0, 0, 0] 4]) rfl rfl ?_; clear S a; intro a S
    refine s_nea S rfl rfl Try.underlying24 Try.underlying22 T22 Q24 rfl ?_; clear S a; intro a S
    refine s_move S rfl rfl ?_; clear S a; intro a S
    rcases ite_of h0 with ⟨c6, h1⟩ | ⟨c6, h1⟩ <;> clear h0
    · refine s_gT S (b := (!(decide (x1 = [0, 0, 0, 0])))) rfl rfl c6 ?_
      refine s_loada S rfl (.there .here) T24 (s' := [.ints .u64 x3 4]) rfl rfl ?_; clear S a; intro a S
      refine s_gT S (b := (!(decide (x1 = [0, 0, 0, 0])))) rfl rfl c6 ?_
      refine s_loada S rfl .here T24 (s' := [.ints .u64 [0, 0, 0, 0] 4]) rfl rfl ?_; clear S a; intro a S
      refine s_gT S (b := (!(decide (x1 = [0, 0, 0, 0])))) rfl rfl c6 ?_
      refine s_eqa S rfl rfl Try.underlying24 Try.underlying22 T22 Q24 rfl ?_; clear S a; intro a S
      refine s_pick S (b := true) (hc_of S rfl c6) rfl rfl ?_; clear S a; intro a S
      refine c_end' ?_
      refine x_thenN ?_
      exact j7 (decide (x3 = [0, 0, 0, 0])) a w (S.sub ⟨rfl, rfl, rfl, rfl, rfl, trivial⟩ (.cons .here (.cons .here (.cons .here .nil)))) h1
    · refine s_gF S (b := (!(decide (x1 = [0, 0, 0, 0])))) rfl rfl c6 rfl ?_; clear S a; intro a S
      refine s_gF S (b := (!(decide (x1 = [0, 0, 0, 0])))) rfl rfl c6 rfl ?_; clear S a; intro a S
      refine s_gF S (b := (!(decide (x1 = [0, 0, 0, 0])))) rfl rfl c6 rfl ?_; clear S a; intro a S
      refine s_pick S (b := false) (hc_of S rfl c6) rfl rfl ?_; clear S a; intro a S
      refine c_end' ?_
      refine x_thenN ?_
      exact j7 false a w (S.sub ⟨rfl, rfl, rfl, rfl, rfl, trivial⟩ (.cons .here (.cons .here (.cons .here .nil)))) h1
  refine wp_seq_k ?_
  intro K8 hK8
  have j8 : ∀ (y8 : Bool) (a : Act) (w : World), St 50 m w0 [(16, (.v (.bool y8))), (8, (.v (.int .i64 0))), (7, (.v (.pointer (some ⟨g4, 0, none⟩)))), (5, (.v (.pointer (some ⟨g3, 0, none⟩)))), (3, (.v (.pointer (some ⟨g1, 0, none⟩))))] [Res.cells g4 24 [.ints .u64 [0, 0, 0, 0] 4], Res.cells g3 24 [.ints .u64 x3 4], Res.cells g1 24 [.ints .u64 x1 4]] a w → f29_gas_again.j8 x1 x3 y8 = some r → K8 a w := by
    intro y8 a w S h0
    delta f29_gas_again.j8 at h0
    refine hK8 a w ?_
    rcases ite_of h0 with ⟨c7, h1⟩ | ⟨c7, h1⟩ <;> clear h0
    · refine c_condT S rfl c7 ?_
      refine c_region' ?_
      refine s_move S rfl rfl ?_; clear S a; intro a S
      refine s_bin S rfl rfl rfl rfl ?_; clear S a; intro a S
      refine s_assign S rfl rfl ?_; clear S a; intro a S
      refine c_end' ?_
      refine x_thenN ?_
      exact j1 (wr .i64 (0 - 4800)) a w (S.sub ⟨rfl, rfl, rfl, rfl, trivial⟩ (.cons .here (.cons .here (.cons .here .nil)))) h1
    · refine c_condF S rfl c7 ?_
      refine wp_skip ?_
      refine x_thenN ?_
      exact j1 0 a w (S.sub ⟨rfl, rfl, rfl, rfl, trivial⟩ (.cons .here (.cons .here (.cons .here .nil)))) h1
  refine c_region' ?_
  refine s_loada S rfl (.there (.there (.there .here))) T24 (s' := [.ints .u64 x1 4]) rfl rfl ?_; clear S a; intro a S
  refine s_loada S rfl .here T24 (s' := [.ints .u64 [0, 0, 0, 0] 4]) rfl rfl ?_; clear S a; intro a S
  refine s_nea S rfl rfl Try.underlying24 Try.underlying22 T22 Q24 rfl ?_; clear S a; intro a S
  refine s_move S rfl rfl ?_; clear S a; intro a S
  rcases ite_of h0 with ⟨c8, h1⟩ | ⟨c8, h1⟩ <;> clear h0
  · refine s_gT S (b := (!(decide (x1 = [0, 0, 0, 0])))) rfl rfl c8 ?_
    refine s_loada S rfl (.there (.there .here)) T24 (s' := [.ints .u64 x2 4]) rfl rfl ?_; clear S a; intro a S
    refine s_gT S (b := (!(decide (x1 = [0, 0, 0, 0])))) rfl rfl c8 ?_
    refine s_loada S rfl .here T24 (s' := [.ints .u64 [0, 0, 0, 0] 4]) rfl rfl ?_; clear S a; intro a S
    refine s_gT S (b := (!(decide (x1 = [0, 0, 0, 0])))) rfl rfl c8 ?_
    refine s_eqa S rfl rfl Try.underlying24 Try.underlying22 T22 Q24 rfl ?_; clear S a; intro a S
    refine s_pick S (b := true) (hc_of S rfl c8) rfl rfl ?_; clear S a; intro a S
    refine c_end' ?_
    refine x_thenN ?_
    exact j8 (decide (x2 = [0, 0, 0, 0])) a w (S.sub ⟨rfl, rfl, rfl, rfl, rfl, trivial⟩ (.cons .here (.cons .here (.cons (.there .here) .nil)))) h1
  · refine s_gF S (b := (!(decide (x1 = [0, 0, 0, 0])))) rfl rfl c8 rfl ?_; clear S a; intro a S
    refine s_gF S (b := (!(decide (x1 = [0, 0, 0, 0])))) rfl rfl c8 rfl ?_; clear S a; intro a S
    refine s_gF S (b := (!(decide (x1 = [0, 0, 0, 0])))) rfl rfl c8 rfl ?_; clear S a; intro a S
    refine s_pick S (b := false) (hc_of S rfl c8) rfl rfl ?_; clear S a; intro a S
    refine c_end' ?_
    refine x_thenN ?_
    exact j8 false a w (S.sub ⟨rfl, rfl, rfl, rfl, rfl, trivial⟩ (.cons .here (.cons .here (.cons (.there .here) .nil)))) h1
/-! smithy/gas.Sstore -/
def f9_gas_Sstore.f (x1 : List Int) (x2 : List Int) (x3 : List Int) (x4 : Bool) : Option (Int × Int) := (f28_gas_either.f x4 2100 0).bind fun t1 => (if (decide (x2 = x3)) = true then (some (wr .u64 (t1 + 100), 0)) else (if (!(decide (x1 = x2))) = true then ((f29_gas_again.f x1 x2 x3).bind fun t2 => (some (wr .u64 (t1 + 100), t2))) else (if (decide (x1 = [0, 0, 0, 0])) = true then (some (wr .u64 (t1 + 20000), 0)) else (if (decide (x3 = [0, 0, 0, 0])) = true then (some (wr .u64 (t1 + 2900), 4800)) else (some (wr .u64 (t1 + 2900), 0))))))
theorem f9_gas_Sstore.ok (x1 : List Int) (x2 : List Int) (x3 : List Int) (x4 : Bool) (r : Int × Int) (h0 : f9_gas_Sstore.f x1 x2 x3 x4 = some r) (m : Mem) (w0 : World) : okL [(.agg [.ints .u64 x1 4]), (.agg [.ints .u64 x2 4]), (.agg [.ints .u64 x3 4]), (.v (.bool x4))] → Frz m w0 → Calls Try.prog 9 (([(.agg [.ints .u64 x1 4]), (.agg [.ints .u64 x2 4]), (.agg [.ints .u64 x3 4]), (.v (.bool x4))] : List D).map D.val).toArray w0 (Ret (.tup [(false, [.one (.int .u64 r.1)]), (false, [.one (.int .i64 r.2)])]) w0) := by
  intro ok hm
  delta f9_gas_Sstore.f at h0
  refine c_enter (n := 44) [(.agg [.ints .u64 x1 4]), (.agg [.ints .u64 x2 4]), (.agg [.ints .u64 x3 4]), (.v (.bool x4))] (l := [(0, (.agg [.ints .u64 x1 4])), (1, (.agg [.ints .u64 x2 4])), (2, (.agg [.ints .u64 x3 4])), (3, (.v (.bool x4)))]) Try.func9 rfl rfl rfl rfl ok hm ?_
  clear ok hm
  intro a S
  refine c_region ?_
  refine s_box S rfl rfl rfl ?_; clear S a; intro g1 a w S
  refine s_box S rfl rfl rfl ?_; clear S a w; intro g2 a w S
  refine s_box S rfl rfl rfl ?_; clear S a w; intro g3 a w S
  refine s_assign S rfl rfl ?_; clear S a; intro a S
  refine s_assign S rfl rfl ?_; clear S a; intro a S
  refine c_end ?_
  refine c_region ?_
  refine s_alloc S Z24 rfl ⟨rfl, trivial⟩ rfl ?_; clear S a w; intro g4 a w S
  refine c_end ?_
  refine c_region ?_
  refine s_move S rfl rfl ?_; clear S a; intro a S
  obtain ⟨t1, et1, h1⟩ := bind_of h0; clear h0
  refine s_call S (ds := [(.v (.bool x4)), (.v (.int .u64 2100)), (.v (.int .u64 0))]) (d := (.v (.int .u64 t1))) N28 rfl rfl (f28_gas_either.ok x4 2100 0 t1 et1 m _) ?_; clear S a w; intro a w S
  refine s_assign S rfl rfl ?_; clear S a; intro a S
  refine c_end ?_
  refine wp_seq ?_
  refine wp_block ?_
  refine c_region ?_
  refine s_loada S rfl (.there (.there .here)) T24 (s' := [.ints .u64 x2 4]) rfl rfl ?_; clear S a; intro a S
  refine s_loada S rfl (.there .here) T24 (s' := [.ints .u64 x3 4]) rfl rfl ?_; clear S a; intro a S
  refine s_eqa S rfl rfl Try.underlying24 Try.underlying22 T22 Q24 rfl ?_; clear S a; intro a S
  refine s_assign S rfl rfl ?_; clear S a; intro a S
  refine c_end ?_
  rcases ite_of h1 with ⟨c1, h2⟩ | ⟨c1, h2⟩ <;> clear h1
  · refine c_condT S rfl c1 ?_
    refine c_region ?_
    refine s_move S rfl rfl ?_; clear S a; intro a S
    refine s_bin S rfl rfl rfl rfl ?_; clear S a; intro a S
    refine s_assign S rfl rfl ?_; clear S a; intro a S
    refine s_assign S rfl rfl ?_; clear S a; intro a S
    refine c_end ?_
    refine wp_ret ?_
    refine x_blockR ?_
    refine x_thenR ?_
    obtain rfl := Option.some.inj h2
    exact b_ret2 (d1 := (.v (.int .u64 (wr .u64 (t1 + 100))))) (d2 := (.v (.int .i64 0))) S rfl rfl rfl fun ok1 ok2 => ⟨rfl, ⟨⟨ok1, trivial⟩, ⟨ok2, trivial⟩, trivial⟩, S.below⟩
  · refine c_condF S rfl c1 ?_
    refine c_region ?_
    refine s_loada S rfl (.there (.there (.there .here))) T24 (s' := [.ints .u64 x1 4]) rfl rfl ?_; clear S a; intro a S
    refine s_loada S rfl (.there (.there .here)) T24 (s' := [.ints .u64 x2 4]) rfl rfl ?_; clear S a; intro a S
    refine s_nea S rfl rfl Try.underlying24 Try.underlying22 T22 Q24 rfl ?_; clear S a; intro a S
    refine s_assign S rfl rfl ?_; clear S a; intro a S
    refine c_end ?_
    rcases ite_of h2 with ⟨c2, h3⟩ | ⟨c2, h3⟩ <;> clear h2
    · refine c_condT S rfl c2 ?_
      refine c_region ?_
      refine s_move S rfl rfl ?_; clear S a; intro a S
      refine s_bin S rfl rfl rfl rfl ?_; clear S a; intro a S
      refine s_loada S rfl (.there (.there (.there .here))) T24 (s' := [.ints .u64 x1 4]) rfl rfl ?_; clear S a; intro a S
      refine s_loada S rfl (.there (.there .here)) T24 (s' := [.ints .u64 x2 4]) rfl rfl ?_; clear S a; intro a S
      refine s_loada S rfl (.there .here) T24 (s' := [.ints .u64 x3 4]) rfl rfl ?_; clear S a; intro a S
      obtain ⟨t2, et2, h4⟩ := bind_of h3; clear h3
      refine s_call S (ds := [(.agg [.ints .u64 x1 4]), (.agg [.ints .u64 x2 4]), (.agg [.ints .u64 x3 4])]) (d := (.v (.int .i64 t2))) N29 rfl rfl (f29_gas_again.ok x1 x2 x3 t2 et2 m _) ?_; clear S a w; intro a w S
      refine s_assign S rfl rfl ?_; clear S a; intro a S
      refine s_assign S rfl rfl ?_; clear S a; intro a S
      refine c_end ?_
      refine wp_ret ?_
      refine x_blockR ?_
      refine x_thenR ?_
      obtain rfl := Option.some.inj h4
      exact b_ret2 (d1 := (.v (.int .u64 (wr .u64 (t1 + 100))))) (d2 := (.v (.int .i64 t2))) S rfl rfl rfl fun ok1 ok2 => ⟨rfl, ⟨⟨ok1, trivial⟩, ⟨ok2, trivial⟩, trivial⟩, S.below⟩
    · refine c_condF S rfl c2 ?_
      refine c_region ?_
      refine s_loada S rfl (.there (.there (.there .here))) T24 (s' := [.ints .u64 x1 4]) rfl rfl ?_; clear S a; intro a S
      refine s_loada S rfl .here T24 (s' := [.ints .u64 [0, 0, 0, 0] 4]) rfl rfl ?_; clear S a; intro a S
      refine s_eqa S rfl rfl Try.underlying24 Try.underlying22 T22 Q24 rfl ?_; clear S a; intro a S
      refine s_assign S rfl rfl ?_; clear S a; intro a S
      refine c_end ?_
      rcases ite_of h3 with ⟨c3, h4⟩ | ⟨c3, h4⟩ <;> clear h3
      · refine c_condT S rfl c3 ?_
        refine c_region ?_
        refine s_move S rfl rfl ?_; clear S a; intro a S
        refine s_bin S rfl rfl rfl rfl ?_; clear S a; intro a S
        refine s_assign S rfl rfl ?_; clear S a; intro a S
        refine s_assign S rfl rfl ?_; clear S a; intro a S
        refine c_end ?_
        refine wp_ret ?_
        refine x_blockR ?_
        refine x_thenR ?_
        obtain rfl := Option.some.inj h4
        exact b_ret2 (d1 := (.v (.int .u64 (wr .u64 (t1 + 20000))))) (d2 := (.v (.int .i64 0))) S rfl rfl rfl fun ok1 ok2 => ⟨rfl, ⟨⟨ok1, trivial⟩, ⟨ok2, trivial⟩, trivial⟩, S.below⟩
      · refine c_condF S rfl c3 ?_
        refine c_region ?_
        refine s_loada S rfl (.there .here) T24 (s' := [.ints .u64 x3 4]) rfl rfl ?_; clear S a; intro a S
        refine s_loada S rfl .here T24 (s' := [.ints .u64 [0, 0, 0, 0] 4]) rfl rfl ?_; clear S a; intro a S
        refine s_eqa S rfl rfl Try.underlying24 Try.underlying22 T22 Q24 rfl ?_; clear S a; intro a S
        refine s_assign S rfl rfl ?_; clear S a; intro a S
        refine c_end ?_
        rcases ite_of h4 with ⟨c4, h5⟩ | ⟨c4, h5⟩ <;> clear h4
        · refine c_condT S rfl c4 ?_
          refine c_region ?_
          refine s_move S rfl rfl ?_; clear S a; intro a S
          refine s_bin S rfl rfl rfl rfl ?_; clear S a; intro a S
          refine s_assign S rfl rfl ?_; clear S a; intro a S
          refine s_assign S rfl rfl ?_; clear S a; intro a S
          refine c_end ?_
          refine wp_ret ?_
          refine x_blockR ?_
          refine x_thenR ?_
          obtain rfl := Option.some.inj h5
          exact b_ret2 (d1 := (.v (.int .u64 (wr .u64 (t1 + 2900))))) (d2 := (.v (.int .i64 4800))) S rfl rfl rfl fun ok1 ok2 => ⟨rfl, ⟨⟨ok1, trivial⟩, ⟨ok2, trivial⟩, trivial⟩, S.below⟩
        · refine c_condF S rfl c4 ?_
          refine wp_skip ?_
          refine x_blockN ?_
          refine x_thenN ?_
          refine c_region ?_
          refine s_move S rfl rfl ?_; clear S a; intro a S
          refine s_bin S rfl rfl rfl rfl ?_; clear S a; intro a S
          refine s_assign S rfl rfl ?_; clear S a; intro a S
          refine s_assign S rfl rfl ?_; clear S a; intro a S
          refine c_end ?_
          refine wp_ret ?_
          obtain rfl := Option.some.inj h5
          exact b_ret2 (d1 := (.v (.int .u64 (wr .u64 (t1 + 2900))))) (d2 := (.v (.int .i64 0))) S rfl rfl rfl fun ok1 ok2 => ⟨rfl, ⟨⟨ok1, trivial⟩, ⟨ok2, trivial⟩, trivial⟩, S.below⟩
/-! smithy/smithyref12.Sstore -/
def f10_smithyref12_Sstore.j3 (y1 : Int) (y3 : Int) : Option (Int × Int) := some (wr .u64 (y1 + 100), y3)
def f10_smithyref12_Sstore.j2 (x1 : List Int) (x3 : List Int) (y1 : Int) (y2 : Int) : Option (Int × Int) := if (decide (x1 = x3)) = true then (if (decide (x1 = [0, 0, 0, 0])) = true then (f10_smithyref12_Sstore.j3 y1 (wr .i64 ((wr .i64 (y2 + 20000)) - 100))) else (f10_smithyref12_Sstore.j3 y1 (wr .i64 ((wr .i64 ((wr .i64 (y2 + 5000)) - 2100)) - 100)))) else (f10_smithyref12_Sstore.j3 y1 y2)
def f10_smithyref12_Sstore.j4 (x1 : List Int) (x3 : List Int) (y1 : Int) (y4 : Int) : Option (Int × Int) := if (decide (x3 = [0, 0, 0, 0])) = true then (f10_smithyref12_Sstore.j2 x1 x3 y1 (wr .i64 (y4 + 4800))) else (f10_smithyref12_Sstore.j2 x1 x3 y1 y4)
def f10_smithyref12_Sstore.j1 (x1 : List Int) (x2 : List Int) (x3 : List Int) (y1 : Int) : Option (Int × Int) := if (decide (x2 = x3)) = true then (some (wr .u64 (y1 + 100), 0)) else (if (decide (x1 = x2)) = true then (if (decide (x1 = [0, 0, 0, 0])) = true then (some (wr .u64 (y1 + 20000), 0)) else (if (decide (x3 = [0, 0, 0, 0])) = true then (some (wr .u64 (y1 + 2900), 4800)) else (some (wr .u64 (y1 + 2900), 0)))) else (if (!(decide (x1 = [0, 0, 0, 0]))) = true then (if (decide (x2 = [0, 0, 0, 0])) = true then (f10_smithyref12_Sstore.j4 x1 x3 y1 (wr .i64 (0 - 4800))) else (f10_smithyref12_Sstore.j4 x1 x3 y1 0)) else (f10_smithyref12_Sstore.j2 x1 x3 y1 0)))
def f10_smithyref12_Sstore.f (x1 : List Int) (x2 : List Int) (x3 : List Int) (x4 : Bool) : Option (Int × Int) := if x4 = true then (f10_smithyref12_Sstore.j1 x1 x2 x3 2100) else (f10_smithyref12_Sstore.j1 x1 x2 x3 0)
theorem f10_smithyref12_Sstore.ok (x1 : List Int) (x2 : List Int) (x3 : List Int) (x4 : Bool) (r : Int × Int) (h0 : f10_smithyref12_Sstore.f x1 x2 x3 x4 = some r) (m : Mem) (w0 : World) : okL [(.agg [.ints .u64 x1 4]), (.agg [.ints .u64 x2 4]), (.agg [.ints .u64 x3 4]), (.v (.bool x4))] → Frz m w0 → Calls Try.prog 10 (([(.agg [.ints .u64 x1 4]), (.agg [.ints .u64 x2 4]), (.agg [.ints .u64 x3 4]), (.v (.bool x4))] : List D).map D.val).toArray w0 (Ret (.tup [(false, [.one (.int .u64 r.1)]), (false, [.one (.int .i64 r.2)])]) w0) := by
  intro ok hm
  delta f10_smithyref12_Sstore.f at h0
  refine c_enter (n := 64) [(.agg [.ints .u64 x1 4]), (.agg [.ints .u64 x2 4]), (.agg [.ints .u64 x3 4]), (.v (.bool x4))] (l := [(0, (.agg [.ints .u64 x1 4])), (1, (.agg [.ints .u64 x2 4])), (2, (.agg [.ints .u64 x3 4])), (3, (.v (.bool x4)))]) Try.func10 rfl rfl rfl rfl ok hm ?_
  clear ok hm
  intro a S
  refine c_region ?_
  refine s_box S rfl rfl rfl ?_; clear S a; intro g1 a w S
  refine s_box S rfl rfl rfl ?_; clear S a w; intro g2 a w S
  refine s_box S rfl rfl rfl ?_; clear S a w; intro g3 a w S
  refine s_assign S rfl rfl ?_; clear S a; intro a S
  refine s_assign S rfl rfl ?_; clear S a; intro a S
  refine c_end ?_
  refine c_region ?_
  refine s_build S (ds := []) (dv := (.agg [.ints .u64 [0, 0, 0, 0] 4])) rfl (fun _ => by kernel_rfl) ⟨rfl, trivial⟩ rfl ?_; clear S a; intro a S
  refine s_alloc S Z24 rfl ⟨rfl, trivial⟩ rfl ?_; clear S a w; intro g4 a w S
  refine s_store S rfl rfl rfl (s' := [.ints .u64 [0, 0, 0, 0] 4]) .here T24 rfl rfl ?_; clear S w; intro w S
  refine c_end ?_
  refine c_region ?_
  refine s_assign S rfl rfl ?_; clear S a; intro a S
  refine c_end ?_
  refine wp_seq_k ?_
  intro K1 hK1
  have j1 : ∀ (y1 : Int) (a : Act) (w : World), St 64 m w0 [(11, (.v (.int .u64 y1))), (10, (.v (.pointer (some ⟨g4, 0, none⟩)))), (6, (.v (.pointer (some ⟨g3, 0, none⟩)))), (5, (.v (.pointer (some ⟨g2, 0, none⟩)))), (4, (.v (.pointer (some ⟨g1, 0, none⟩))))] [Res.cells g4 24 [.ints .u64 [0, 0, 0, 0] 4], Res.cells g3 24 [.ints .u64 x3 4], Res.cells g2 24 [.ints .u64 x2 4], Res.cells g1 24 [.ints .u64 x1 4]] a w → f10_smithyref12_Sstore.j1 x1 x2 x3 y1 = some r → K1 a w := by
    intro y1 a w S h0
    delta f10_smithyref12_Sstore.j1 at h0
    refine hK1 a w ?_
    refine wp_seq ?_
    refine c_region ?_
    refine s_loada S rfl (.there (.there .here)) T24 (s' := [.ints .u64 x2 4]) rfl rfl ?_; clear S a; intro a S
    refine s_loada S rfl (.there .here) T24 (s' := [.ints .u64 x3 4]) rfl rfl ?_; clear S a; intro a S
    refine s_eqa S rfl rfl Try.underlying24 Try.underlying22 T22 Q24 rfl ?_; clear S a; intro a S
    refine c_end ?_
    rcases ite_of h0 with ⟨c1, h1⟩ | ⟨c1, h1⟩ <;> clear h0
    · refine c_condT S rfl c1 ?_
      refine c_region ?_
      refine s_move S rfl rfl ?_; clear S a; intro a S
      refine s_bin S rfl rfl rfl rfl ?_; clear S a; intro a S
      refine s_assign S rfl rfl ?_; clear S a; intro a S
      refine s_assign S rfl rfl ?_; clear S a; intro a S
      refine c_end ?_
      refine wp_ret ?_
      refine x_thenR ?_
      obtain rfl := Option.some.inj h1
      exact b_ret2 (d1 := (.v (.int .u64 (wr .u64 (y1 + 100))))) (d2 := (.v (.int .i64 0))) S rfl rfl rfl fun ok1 ok2 => ⟨rfl, ⟨⟨ok1, trivial⟩, ⟨ok2, trivial⟩, trivial⟩, S.below⟩
    · refine c_condF S rfl c1 ?_
      refine wp_skip ?_
      refine x_thenN ?_
      refine wp_seq ?_
      refine c_region ?_
      refine s_loada S rfl (.there (.there (.there .here))) T24 (s' := [.ints .u64 x1 4]) rfl rfl ?_; clear S a; intro a S
      refine s_loada S rfl (.there (.there .here)) T24 (s' := [.ints .u64 x2 4]) rfl rfl ?_; clear S a; intro a S
      refine s_eqa S rfl rfl Try.underlying24 Try.underlying22 T22 Q24 rfl ?_; clear S a; intro a S
      refine c_end ?_
      rcases ite_of h1 with ⟨c2, h2⟩ | ⟨c2, h2⟩ <;> clear h1
      · refine c_condT S rfl c2 ?_
        refine wp_seq ?_
        refine c_region ?_
        refine s_loada S rfl (.there (.there (.there .here))) T24 (s' := [.ints .u64 x1 4]) rfl rfl ?_; clear S a; intro a S
        refine s_loada S rfl .here T24 (s' := [.ints .u64 [0, 0, 0, 0] 4]) rfl rfl ?_; clear S a; intro a S
        refine s_eqa S rfl rfl Try.underlying24 Try.underlying22 T22 Q24 rfl ?_; clear S a; intro a S
        refine c_end ?_
        rcases ite_of h2 with ⟨c3, h3⟩ | ⟨c3, h3⟩ <;> clear h2
        · refine c_condT S rfl c3 ?_
          refine c_region ?_
          refine s_move S rfl rfl ?_; clear S a; intro a S
          refine s_bin S rfl rfl rfl rfl ?_; clear S a; intro a S
          refine s_assign S rfl rfl ?_; clear S a; intro a S
          refine s_assign S rfl rfl ?_; clear S a; intro a S
          refine c_end ?_
          refine wp_ret ?_
          refine x_thenR ?_
          refine x_thenR ?_
          obtain rfl := Option.some.inj h3
          exact b_ret2 (d1 := (.v (.int .u64 (wr .u64 (y1 + 20000))))) (d2 := (.v (.int .i64 0))) S rfl rfl rfl fun ok1 ok2 => ⟨rfl, ⟨⟨ok1, trivial⟩, ⟨ok2, trivial⟩, trivial⟩, S.below⟩
        · refine c_condF S rfl c3 ?_
          refine wp_skip ?_
          refine x_thenN ?_
          refine wp_seq ?_
          refine c_region ?_
          refine s_loada S rfl (.there .here) T24 (s' := [.ints .u64 x3 4]) rfl rfl ?_; clear S a; intro a S
          refine s_loada S rfl .here T24 (s' := [.ints .u64 [0, 0, 0, 0] 4]) rfl rfl ?_; clear S a; intro a S
          refine s_eqa S rfl rfl Try.underlying24 Try.underlying22 T22 Q24 rfl ?_; clear S a; intro a S
          refine c_end ?_
          rcases ite_of h3 with ⟨c4, h4⟩ | ⟨c4, h4⟩ <;> clear h3
          · refine c_condT S rfl c4 ?_
            refine c_region ?_
            refine s_move S rfl rfl ?_; clear S a; intro a S
            refine s_bin S rfl rfl rfl rfl ?_; clear S a; intro a S
            refine s_assign S rfl rfl ?_; clear S a; intro a S
            refine s_assign S rfl rfl ?_; clear S a; intro a S
            refine c_end ?_
            refine wp_ret ?_
            refine x_thenR ?_
            refine x_thenR ?_
            obtain rfl := Option.some.inj h4
            exact b_ret2 (d1 := (.v (.int .u64 (wr .u64 (y1 + 2900))))) (d2 := (.v (.int .i64 4800))) S rfl rfl rfl fun ok1 ok2 => ⟨rfl, ⟨⟨ok1, trivial⟩, ⟨ok2, trivial⟩, trivial⟩, S.below⟩
          · refine c_condF S rfl c4 ?_
            refine wp_skip ?_
            refine x_thenN ?_
            refine c_region ?_
            refine s_move S rfl rfl ?_; clear S a; intro a S
            refine s_bin S rfl rfl rfl rfl ?_; clear S a; intro a S
            refine s_assign S rfl rfl ?_; clear S a; intro a S
            refine s_assign S rfl rfl ?_; clear S a; intro a S
            refine c_end ?_
            refine wp_ret ?_
            refine x_thenR ?_
            obtain rfl := Option.some.inj h4
            exact b_ret2 (d1 := (.v (.int .u64 (wr .u64 (y1 + 2900))))) (d2 := (.v (.int .i64 0))) S rfl rfl rfl fun ok1 ok2 => ⟨rfl, ⟨⟨ok1, trivial⟩, ⟨ok2, trivial⟩, trivial⟩, S.below⟩
      · refine c_condF S rfl c2 ?_
        refine wp_skip ?_
        refine x_thenN ?_
        refine c_region ?_
        refine s_assign S rfl rfl ?_; clear S a; intro a S
        refine c_end ?_
        refine wp_seq_k ?_
        intro K2 hK2
        have j2 : ∀ (y2 : Int) (a : Act) (w : World), St 64 m w0 [(12, (.v (.int .i64 y2))), (11, (.v (.int .u64 y1))), (10, (.v (.pointer (some ⟨g4, 0, none⟩)))), (6, (.v (.pointer (some ⟨g3, 0, none⟩)))), (4, (.v (.pointer (some ⟨g1, 0, none⟩))))] [Res.cells g4 24 [.ints .u64 [0, 0, 0, 0] 4], Res.cells g3 24 [.ints .u64 x3 4], Res.cells g1 24 [.ints .u64 x1 4]] a w → f10_smithyref12_Sstore.j2 x1 x3 y1 y2 = some r → K2 a w := by
          intro y2 a w S h0
          delta f10_smithyref12_Sstore.j2 at h0
          refine hK2 a w ?_
          refine wp_seq_k ?_
          intro K3 hK3
          have j3 : ∀ (y3 : Int) (a : Act) (w : World), St 64 m w0 [(12, (.v (.int .i64 y3))), (11, (.v (.int .u64 y1)))] [] a w → f10_smithyref12_Sstore.j3 y1 y3 = some r → K3 a w := by
            intro y3 a w S h0
            delta f10_smithyref12_Sstore.j3 at h0
            refine hK3 a w ?_
            refine c_region ?_
            refine s_move S rfl rfl ?_; clear S a; intro a S
            refine s_bin S rfl rfl rfl rfl ?_; clear S a; intro a S
            refine s_move S rfl rfl ?_; clear S a; intro a S
            refine s_assign S rfl rfl ?_; clear S a; intro a S
            refine s_assign S rfl rfl ?_; clear S a; intro a S
            refine c_end ?_
            refine wp_ret ?_
            obtain rfl := Option.some.inj h0
            exact b_ret2 (d1 := (.v (.int .u64 (wr .u64 (y1 + 100))))) (d2 := (.v (.int .i64 y3))) S rfl rfl rfl fun ok1 ok2 => ⟨rfl, ⟨⟨ok1, trivial⟩, ⟨ok2, trivial⟩, trivial⟩, S.below⟩
          refine c_region ?_
          refine s_loada S rfl (.there (.there .here)) T24 (s' := [.ints .u64 x1 4]) rfl rfl ?_; clear S a; intro a S
          refine s_loada S rfl (.there .here) T24 (s' := [.ints .u64 x3 4]) rfl rfl ?_; clear S a; intro a S
          refine s_eqa S rfl rfl Try.underlying24 Try.underlying22 T22 Q24 rfl ?_; clear S a; intro a S
          refine c_end ?_
          rcases ite_of h0 with ⟨c5, h1⟩ | ⟨c5, h1⟩ <;> clear h0
          · refine c_condT S rfl c5 ?_
            refine c_region ?_
            refine s_loada S rfl (.there (.there .here)) T24 (s' := [.ints .u64 x1 4]) rfl rfl ?_; clear S a; intro a S
            refine s_loada S rfl .here T24 (s' := [.ints .u64 [0, 0, 0, 0] 4]) rfl rfl ?_; clear S a; intro a S
            refine s_eqa S rfl rfl Try.underlying24 Try.underlying22 T22 Q24 rfl ?_; clear S a; intro a S
            refine c_end ?_
            rcases ite_of h1 with ⟨c6, h2⟩ | ⟨c6, h2⟩ <;> clear h1
            · refine c_condT S rfl c6 ?_
              refine c_region' ?_
              refine s_move S rfl rfl ?_; clear S a; intro a S
              refine s_bin S rfl rfl rfl rfl ?_; clear S a; intro a S
              refine s_bin S rfl rfl rfl rfl ?_; clear S a; intro a S
              refine s_assign S rfl rfl ?_; clear S a; intro a S
              refine c_end' ?_
              refine x_thenN ?_
              exact j3 (wr .i64 ((wr .i64 (y2 + 20000)) - 100)) a w (S.sub ⟨rfl, rfl, trivial⟩ .nil) h2
            · refine c_condF S rfl c6 ?_
              refine c_region' ?_
              refine s_move S rfl rfl ?_; clear S a; intro a S
              refine s_bin S rfl rfl rfl rfl ?_; clear S a; intro a S
              refine s_bin S rfl rfl rfl rfl ?_; clear S a; intro a S
              refine s_bin S rfl rfl rfl rfl ?_; clear S a; intro a S
              refine s_assign S rfl rfl ?_; clear S a; intro a S
              refine c_end' ?_
              refine x_thenN ?_
              exact j3 (wr .i64 ((wr .i64 ((wr .i64 (y2 + 5000)) - 2100)) - 100)) a w (S.sub ⟨rfl, rfl, trivial⟩ .nil) h2
          · refine c_condF S rfl c5 ?_
            refine wp_skip ?_
            refine x_thenN ?_
            exact j3 y2 a w (S.sub ⟨rfl, rfl, trivial⟩ .nil) h1
        refine c_region ?_
        refine s_loada S rfl (.there (.there (.there .here))) T24 (s' := [.ints .u64 x1 4]) rfl rfl ?_; clear S a; intro a S
        refine s_loada S rfl .here T24 (s' := [.ints .u64 [0, 0, 0, 0] 4]) rfl rfl ?_; clear S a; intro a S
        refine s_nea S rfl rfl Try.underlying24 Try.underlying22 T22 Q24 rfl ?_; clear S a; intro a S
        refine c_end ?_
        rcases ite_of h2 with ⟨c7, h3⟩ | ⟨c7, h3⟩ <;> clear h2
        · refine c_condT S rfl c7 ?_
          refine wp_seq_k ?_
          intro K4 hK4
          have j4 : ∀ (y4 : Int) (a : Act) (w : World), St 64 m w0 [(12, (.v (.int .i64 y4))), (11, (.v (.int .u64 y1))), (10, (.v (.pointer (some ⟨g4, 0, none⟩)))), (6, (.v (.pointer (some ⟨g3, 0, none⟩)))), (4, (.v (.pointer (some ⟨g1, 0, none⟩))))] [Res.cells g4 24 [.ints .u64 [0, 0, 0, 0] 4], Res.cells g3 24 [.ints .u64 x3 4], Res.cells g1 24 [.ints .u64 x1 4]] a w → f10_smithyref12_Sstore.j4 x1 x3 y1 y4 = some r → K4 a w := by
            intro y4 a w S h0
            delta f10_smithyref12_Sstore.j4 at h0
            refine hK4 a w ?_
            refine c_region ?_
            refine s_loada S rfl (.there .here) T24 (s' := [.ints .u64 x3 4]) rfl rfl ?_; clear S a; intro a S
            refine s_loada S rfl .here T24 (s' := [.ints .u64 [0, 0, 0, 0] 4]) rfl rfl ?_; clear S a; intro a S
            refine s_eqa S rfl rfl Try.underlying24 Try.underlying22 T22 Q24 rfl ?_; clear S a; intro a S
            refine c_end ?_
            rcases ite_of h0 with ⟨c8, h1⟩ | ⟨c8, h1⟩ <;> clear h0
            · refine c_condT S rfl c8 ?_
              refine c_region' ?_
              refine s_move S rfl rfl ?_; clear S a; intro a S
              refine s_bin S rfl rfl rfl rfl ?_; clear S a; intro a S
              refine s_assign S rfl rfl ?_; clear S a; intro a S
              refine c_end' ?_
              refine x_thenN ?_
              exact j2 (wr .i64 (y4 + 4800)) a w (S.sub ⟨rfl, rfl, rfl, rfl, rfl, trivial⟩ (.cons .here (.cons .here (.cons .here .nil)))) h1
            · refine c_condF S rfl c8 ?_
              refine wp_skip ?_
              refine x_thenN ?_
              exact j2 y4 a w (S.sub ⟨rfl, rfl, rfl, rfl, rfl, trivial⟩ (.cons .here (.cons .here (.cons .here .nil)))) h1
          refine c_region ?_
          refine s_loada S rfl (.there (.there .here)) T24 (s' := [.ints .u64 x2 4]) rfl rfl ?_; clear S a; intro a S
          refine s_loada S rfl .here T24 (s' := [.ints .u64 [0, 0, 0, 0] 4]) rfl rfl ?_; clear S a; intro a S
          refine s_eqa S rfl rfl Try.underlying24 Try.underlying22 T22 Q24 rfl ?_; clear S a; intro a S
          refine c_end ?_
          rcases ite_of h3 with ⟨c9, h4⟩ | ⟨c9, h4⟩ <;> clear h3
          · refine c_condT S rfl c9 ?_
            refine c_region' ?_
            refine s_move S rfl rfl ?_; clear S a; intro a S
            refine s_bin S rfl rfl rfl rfl ?_; clear S a; intro a S
            refine s_assign S rfl rfl ?_; clear S a; intro a S
            refine c_end' ?_
            refine x_thenN ?_
            exact j4 (wr .i64 (0 - 4800)) a w (S.sub ⟨rfl, rfl, rfl, rfl, rfl, trivial⟩ (.cons .here (.cons .here (.cons (.there .here) .nil)))) h4
          · refine c_condF S rfl c9 ?_
            refine wp_skip ?_
            refine x_thenN ?_
            exact j4 0 a w (S.sub ⟨rfl, rfl, rfl, rfl, rfl, trivial⟩ (.cons .here (.cons .here (.cons (.there .here) .nil)))) h4
        · refine c_condF S rfl c7 ?_
          refine wp_skip ?_
          refine x_thenN ?_
          exact j2 0 a w (S.sub ⟨rfl, rfl, rfl, rfl, rfl, trivial⟩ (.cons .here (.cons .here (.cons (.there .here) .nil)))) h3
  refine c_region ?_
  refine s_move S rfl rfl ?_; clear S a; intro a S
  refine c_end ?_
  rcases ite_of h0 with ⟨c10, h1⟩ | ⟨c10, h1⟩ <;> clear h0
  · refine c_condT S rfl c10 ?_
    refine c_region' ?_
    refine s_assign S rfl rfl ?_; clear S a; intro a S
    refine c_end' ?_
    refine x_thenN ?_
    exact j1 2100 a w (S.sub ⟨rfl, rfl, rfl, rfl, rfl, trivial⟩ (.cons .here (.cons .here (.cons .here (.cons .here .nil))))) h1
  · refine c_condF S rfl c10 ?_
    refine wp_skip ?_
    refine x_thenN ?_
    exact j1 0 a w (S.sub ⟨rfl, rfl, rfl, rfl, rfl, trivial⟩ (.cons .here (.cons .here (.cons .here (.cons .here .nil))))) h1
/-! smithy/gas.Part -/
def f12_gas_Part.f (x1 : Int) : Option Int := some (wr .u64 (x1 - (wr .u64 (Int.tdiv x1 64))))
theorem f12_gas_Part.ok (x1 : Int) (r : Int) (h0 : f12_gas_Part.f x1 = some r) (m : Mem) (w0 : World) : okL [(.v (.int .u64 x1))] → Frz m w0 → Calls Try.prog 12 (([(.v (.int .u64 x1))] : List D).map D.val).toArray w0 (Ret (.v (.int .u64 r)) w0) := by
  intro ok hm
  delta f12_gas_Part.f at h0
  refine c_enter (n := 7) [(.v (.int .u64 x1))] (l := [(0, (.v (.int .u64 x1)))]) Try.func12 rfl rfl rfl rfl ok hm ?_
  clear ok hm
  intro a S
  refine c_region ?_
  refine s_assign S rfl rfl ?_; clear S a; intro a S
  refine c_end ?_
  refine c_region ?_
  refine s_move S rfl rfl ?_; clear S a; intro a S
  refine s_move S rfl rfl ?_; clear S a; intro a S
  refine s_quo S rfl rfl (by decide) rfl ?_; clear S a; intro a S
  refine s_bin S rfl rfl rfl rfl ?_; clear S a; intro a S
  refine s_assign S rfl rfl ?_; clear S a; intro a S
  refine c_end ?_
  refine wp_ret ?_
  obtain rfl := Option.some.inj h0
  exact b_ret1 (d := (.v (.int .u64 (wr .u64 (x1 - (wr .u64 (Int.tdiv x1 64))))))) S rfl rfl fun ok => ⟨rfl, ok, S.below⟩
/-! smithy/gas.Refund -/
def f13_gas_Refund.f (x1 : Int) (x2 : Int) : Option Int := some (imin x2 (wr .u64 (Int.tdiv x1 5)))
theorem f13_gas_Refund.ok (x1 : Int) (x2 : Int) (r : Int) (h0 : f13_gas_Refund.f x1 x2 = some r) (m : Mem) (w0 : World) : okL [(.v (.int .u64 x1)), (.v (.int .u64 x2))] → Frz m w0 → Calls Try.prog 13 (([(.v (.int .u64 x1)), (.v (.int .u64 x2))] : List D).map D.val).toArray w0 (Ret (.v (.int .u64 r)) w0) := by
  intro ok hm
  delta f13_gas_Refund.f at h0
  refine c_enter (n := 9) [(.v (.int .u64 x1)), (.v (.int .u64 x2))] (l := [(0, (.v (.int .u64 x1))), (1, (.v (.int .u64 x2)))]) Try.func13 rfl rfl rfl rfl ok hm ?_
  clear ok hm
  intro a S
  refine c_region ?_
  refine s_assign S rfl rfl ?_; clear S a; intro a S
  refine c_end ?_
  refine c_region ?_
  refine s_move S rfl rfl ?_; clear S a; intro a S
  refine s_move S rfl rfl ?_; clear S a; intro a S
  refine s_quo S rfl rfl (by decide) rfl ?_; clear S a; intro a S
  refine s_min2 S rfl rfl rfl ?_; clear S a; intro a S
  refine s_assign S rfl rfl ?_; clear S a; intro a S
  refine c_end ?_
  refine wp_ret ?_
  obtain rfl := Option.some.inj h0
  exact b_ret1 (d := (.v (.int .u64 (imin x2 (wr .u64 (Int.tdiv x1 5)))))) S rfl rfl fun ok => ⟨rfl, ok, S.below⟩
/-! smithy/smithylaw12.fixed -/
def f11_smithylaw12_fixed.f : Option Bool := (f9_gas_Sstore.f [0, 0, 0, 0] [0, 0, 0, 0] [1, 0, 0, 0] true).bind fun t1 => ((f9_gas_Sstore.f [1, 0, 0, 0] [1, 0, 0, 0] [0, 0, 0, 0] false).bind fun t2 => (if (t1.1 == 22100) = true then (if (t1.2 == 0) = true then (if (t2.1 == 2900) = true then (if (t2.2 == 4800) = true then ((f12_gas_Part.f 6400).bind fun t3 => (if (t3 == 6300) = true then ((f13_gas_Refund.f 100 50).bind fun t4 => (some (t4 == 20))) else (some false))) else (some false)) else (some false)) else (some false)) else (some false)))
theorem f11_smithylaw12_fixed.ok (r : Bool) (h0 : f11_smithylaw12_fixed.f = some r) (m : Mem) (w0 : World) : okL [] → Frz m w0 → Calls Try.prog 11 (([] : List D).map D.val).toArray w0 (Ret (.v (.bool r)) w0) := by
  intro ok hm
  delta f11_smithylaw12_fixed.f at h0
  refine c_enter (n := 41) [] (l := []) Try.func11 rfl rfl rfl rfl ok hm ?_
  clear ok hm
  intro a S
  refine c_region ?_
  refine s_assign S rfl rfl ?_; clear S a; intro a S
  refine c_end ?_
  refine c_region ?_
  refine s_build S (ds := []) (dv := (.agg [.ints .u64 [0, 0, 0, 0] 4])) rfl (fun _ => by kernel_rfl) ⟨rfl, trivial⟩ rfl ?_; clear S a; intro a S
  refine s_build S (ds := []) (dv := (.agg [.ints .u64 [0, 0, 0, 0] 4])) rfl (fun _ => by kernel_rfl) ⟨rfl, trivial⟩ rfl ?_; clear S a; intro a S
  refine s_build S (ds := [(0, (.v (.int .u64 1)))]) (dv := (.agg [.ints .u64 [1, 0, 0, 0] 4])) rfl (fun _ => by kernel_rfl) ⟨rfl, trivial⟩ rfl ?_; clear S a; intro a S
  obtain ⟨t1, et1, h1⟩ := bind_of h0; clear h0
  refine s_call S (ds := [(.agg [.ints .u64 [0, 0, 0, 0] 4]), (.agg [.ints .u64 [0, 0, 0, 0] 4]), (.agg [.ints .u64 [1, 0, 0, 0] 4]), (.v (.bool true))]) (d := (.tup [(false, [.one (.int .u64 t1.1)]), (false, [.one (.int .i64 t1.2)])])) N9 rfl rfl (f9_gas_Sstore.ok [0, 0, 0, 0] [0, 0, 0, 0] [1, 0, 0, 0] true t1 et1 m _) ?_; clear S a; intro a w S
  refine s_move S rfl rfl ?_; clear S a; intro a S
  refine s_extract S rfl rfl rfl rfl ?_; clear S a; intro a S
  refine s_extract S rfl rfl rfl rfl ?_; clear S a; intro a S
  refine s_assign S rfl rfl ?_; clear S a; intro a S
  refine s_assign S rfl rfl ?_; clear S a; intro a S
  refine c_end ?_
  refine c_region ?_
  refine s_build S (ds := [(0, (.v (.int .u64 1)))]) (dv := (.agg [.ints .u64 [1, 0, 0, 0] 4])) rfl (fun _ => by kernel_rfl) ⟨rfl, trivial⟩ rfl ?_; clear S a; intro a S
  refine s_build S (ds := [(0, (.v (.int .u64 1)))]) (dv := (.agg [.ints .u64 [1, 0, 0, 0] 4])) rfl (fun _ => by kernel_rfl) ⟨rfl, trivial⟩ rfl ?_; clear S a; intro a S
  refine s_build S (ds := []) (dv := (.agg [.ints .u64 [0, 0, 0, 0] 4])) rfl (fun _ => by kernel_rfl) ⟨rfl, trivial⟩ rfl ?_; clear S a; intro a S
  obtain ⟨t2, et2, h2⟩ := bind_of h1; clear h1
  refine s_call S (ds := [(.agg [.ints .u64 [1, 0, 0, 0] 4]), (.agg [.ints .u64 [1, 0, 0, 0] 4]), (.agg [.ints .u64 [0, 0, 0, 0] 4]), (.v (.bool false))]) (d := (.tup [(false, [.one (.int .u64 t2.1)]), (false, [.one (.int .i64 t2.2)])])) N9 rfl rfl (f9_gas_Sstore.ok [1, 0, 0, 0] [1, 0, 0, 0] [0, 0, 0, 0] false t2 et2 m _) ?_; clear S a w; intro a w S
  refine s_move S rfl rfl ?_; clear S a; intro a S
  refine s_extract S rfl rfl rfl rfl ?_; clear S a; intro a S
  refine s_extract S rfl rfl rfl rfl ?_; clear S a; intro a S
  refine s_assign S rfl rfl ?_; clear S a; intro a S
  refine s_assign S rfl rfl ?_; clear S a; intro a S
  refine c_end ?_
  refine c_region ?_
  refine s_move S rfl rfl ?_; clear S a; intro a S
  refine s_bin S rfl rfl rfl rfl ?_; clear S a; intro a S
  refine s_move S rfl rfl ?_; clear S a; intro a S
  rcases ite_of h2 with ⟨c1, h3⟩ | ⟨c1, h3⟩ <;> clear h2
  · refine s_gT S (b := (t1.1 == 22100)) rfl rfl c1 ?_
    refine s_move S rfl rfl ?_; clear S a; intro a S
    refine s_gT S (b := (t1.1 == 22100)) rfl rfl c1 ?_
    refine s_bin S rfl rfl rfl rfl ?_; clear S a; intro a S
    refine s_pick S (b := true) (hc_of S rfl c1) rfl rfl ?_; clear S a; intro a S
    refine s_move S rfl rfl ?_; clear S a; intro a S
    rcases ite_of h3 with ⟨c2, h4⟩ | ⟨c2, h4⟩ <;> clear h3
    · refine s_gT S (b := (t1.2 == 0)) rfl rfl c2 ?_
      refine s_move S rfl rfl ?_; clear S a; intro a S
      refine s_gT S (b := (t1.2 == 0)) rfl rfl c2 ?_
      refine s_bin S rfl rfl rfl rfl ?_; clear S a; intro a S
      refine s_pick S (b := true) (hc_of S rfl c2) rfl rfl ?_; clear S a; intro a S
      refine s_move S rfl rfl ?_; clear S a; intro a S
      rcases ite_of h4 with ⟨c3, h5⟩ | ⟨c3, h5⟩ <;> clear h4
      · refine s_gT S (b := (t2.1 == 2900)) rfl rfl c3 ?_
        refine s_move S rfl rfl ?_; clear S a; intro a S
        refine s_gT S (b := (t2.1 == 2900)) rfl rfl c3 ?_
        refine s_bin S rfl rfl rfl rfl ?_; clear S a; intro a S
        refine s_pick S (b := true) (hc_of S rfl c3) rfl rfl ?_; clear S a; intro a S
        refine s_move S rfl rfl ?_; clear S a; intro a S
        rcases ite_of h5 with ⟨c4, h6⟩ | ⟨c4, h6⟩ <;> clear h5
        · refine s_gT S (b := (t2.2 == 4800)) rfl rfl c4 ?_
          obtain ⟨t3, et3, h7⟩ := bind_of h6; clear h6
          refine s_call S (ds := [(.v (.int .u64 6400))]) (d := (.v (.int .u64 t3))) N12 rfl rfl (f12_gas_Part.ok 6400 t3 et3 m _) ?_; clear S a w; intro a w S
          refine s_gT S (b := (t2.2 == 4800)) rfl rfl c4 ?_
          refine s_bin S rfl rfl rfl rfl ?_; clear S a; intro a S
          refine s_pick S (b := true) (hc_of S rfl c4) rfl rfl ?_; clear S a; intro a S
          refine s_move S rfl rfl ?_; clear S a; intro a S
          rcases ite_of h7 with ⟨c5, h8⟩ | ⟨c5, h8⟩ <;> clear h7
          · refine s_gT S (b := (t3 == 6300)) rfl rfl c5 ?_
            obtain ⟨t4, et4, h9⟩ := bind_of h8; clear h8
            refine s_call S (ds := [(.v (.int .u64 100)), (.v (.int .u64 50))]) (d := (.v (.int .u64 t4))) N13 rfl rfl (f13_gas_Refund.ok 100 50 t4 et4 m _) ?_; clear S a w; intro a w S
            refine s_gT S (b := (t3 == 6300)) rfl rfl c5 ?_
            refine s_bin S rfl rfl rfl rfl ?_; clear S a; intro a S
            refine s_pick S (b := true) (hc_of S rfl c5) rfl rfl ?_; clear S a; intro a S
            refine s_assign S rfl rfl ?_; clear S a; intro a S
            refine c_end ?_
            refine wp_ret ?_
            obtain rfl := Option.some.inj h9
            exact b_ret1 (d := (.v (.bool (t4 == 20)))) S rfl rfl fun ok => ⟨rfl, ok, S.below⟩
          · refine s_gF S (b := (t3 == 6300)) rfl rfl c5 rfl ?_; clear S a; intro a S
            refine s_gF S (b := (t3 == 6300)) rfl rfl c5 rfl ?_; clear S a; intro a S
            refine s_pick S (b := false) (hc_of S rfl c5) rfl rfl ?_; clear S a; intro a S
            refine s_assign S rfl rfl ?_; clear S a; intro a S
            refine c_end ?_
            refine wp_ret ?_
            obtain rfl := Option.some.inj h8
            exact b_ret1 (d := (.v (.bool false))) S rfl rfl fun ok => ⟨rfl, ok, S.below⟩
        · refine s_gF S (b := (t2.2 == 4800)) rfl rfl c4 rfl ?_; clear S a; intro a S
          refine s_gF S (b := (t2.2 == 4800)) rfl rfl c4 rfl ?_; clear S a; intro a S
          refine s_pick S (b := false) (hc_of S rfl c4) rfl rfl ?_; clear S a; intro a S
          refine s_move S rfl rfl ?_; clear S a; intro a S
          refine s_gF S (b := false) rfl rfl rfl rfl ?_; clear S a; intro a S
          refine s_gF S (b := false) rfl rfl rfl rfl ?_; clear S a; intro a S
          refine s_pick S (b := false) (hc_of S rfl rfl) rfl rfl ?_; clear S a; intro a S
          refine s_assign S rfl rfl ?_; clear S a; intro a S
          refine c_end ?_
          refine wp_ret ?_
          obtain rfl := Option.some.inj h6
          exact b_ret1 (d := (.v (.bool false))) S rfl rfl fun ok => ⟨rfl, ok, S.below⟩
      · refine s_gF S (b := (t2.1 == 2900)) rfl rfl c3 rfl ?_; clear S a; intro a S
        refine s_gF S (b := (t2.1 == 2900)) rfl rfl c3 rfl ?_; clear S a; intro a S
        refine s_pick S (b := false) (hc_of S rfl c3) rfl rfl ?_; clear S a; intro a S
        refine s_move S rfl rfl ?_; clear S a; intro a S
        refine s_gF S (b := false) rfl rfl rfl rfl ?_; clear S a; intro a S
        refine s_gF S (b := false) rfl rfl rfl rfl ?_; clear S a; intro a S
        refine s_pick S (b := false) (hc_of S rfl rfl) rfl rfl ?_; clear S a; intro a S
        refine s_move S rfl rfl ?_; clear S a; intro a S
        refine s_gF S (b := false) rfl rfl rfl rfl ?_; clear S a; intro a S
        refine s_gF S (b := false) rfl rfl rfl rfl ?_; clear S a; intro a S
        refine s_pick S (b := false) (hc_of S rfl rfl) rfl rfl ?_; clear S a; intro a S
        refine s_assign S rfl rfl ?_; clear S a; intro a S
        refine c_end ?_
        refine wp_ret ?_
        obtain rfl := Option.some.inj h5
        exact b_ret1 (d := (.v (.bool false))) S rfl rfl fun ok => ⟨rfl, ok, S.below⟩
    · refine s_gF S (b := (t1.2 == 0)) rfl rfl c2 rfl ?_; clear S a; intro a S
      refine s_gF S (b := (t1.2 == 0)) rfl rfl c2 rfl ?_; clear S a; intro a S
      refine s_pick S (b := false) (hc_of S rfl c2) rfl rfl ?_; clear S a; intro a S
      refine s_move S rfl rfl ?_; clear S a; intro a S
      refine s_gF S (b := false) rfl rfl rfl rfl ?_; clear S a; intro a S
      refine s_gF S (b := false) rfl rfl rfl rfl ?_; clear S a; intro a S
      refine s_pick S (b := false) (hc_of S rfl rfl) rfl rfl ?_; clear S a; intro a S
      refine s_move S rfl rfl ?_; clear S a; intro a S
      refine s_gF S (b := false) rfl rfl rfl rfl ?_; clear S a; intro a S
      refine s_gF S (b := false) rfl rfl rfl rfl ?_; clear S a; intro a S
      refine s_pick S (b := false) (hc_of S rfl rfl) rfl rfl ?_; clear S a; intro a S
      refine s_move S rfl rfl ?_; clear S a; intro a S
      refine s_gF S (b := false) rfl rfl rfl rfl ?_; clear S a; intro a S
      refine s_gF S (b := false) rfl rfl rfl rfl ?_; clear S a; intro a S
      refine s_pick S (b := false) (hc_of S rfl rfl) rfl rfl ?_; clear S a; intro a S
      refine s_assign S rfl rfl ?_; clear S a; intro a S
      refine c_end ?_
      refine wp_ret ?_
      obtain rfl := Option.some.inj h4
      exact b_ret1 (d := (.v (.bool false))) S rfl rfl fun ok => ⟨rfl, ok, S.below⟩
  · refine s_gF S (b := (t1.1 == 22100)) rfl rfl c1 rfl ?_; clear S a; intro a S
    refine s_gF S (b := (t1.1 == 22100)) rfl rfl c1 rfl ?_; clear S a; intro a S
    refine s_pick S (b := false) (hc_of S rfl c1) rfl rfl ?_; clear S a; intro a S
    refine s_move S rfl rfl ?_; clear S a; intro a S
    refine s_gF S (b := false) rfl rfl rfl rfl ?_; clear S a; intro a S
    refine s_gF S (b := false) rfl rfl rfl rfl ?_; clear S a; intro a S
    refine s_pick S (b := false) (hc_of S rfl rfl) rfl rfl ?_; clear S a; intro a S
    refine s_move S rfl rfl ?_; clear S a; intro a S
    refine s_gF S (b := false) rfl rfl rfl rfl ?_; clear S a; intro a S
    refine s_gF S (b := false) rfl rfl rfl rfl ?_; clear S a; intro a S
    refine s_pick S (b := false) (hc_of S rfl rfl) rfl rfl ?_; clear S a; intro a S
    refine s_move S rfl rfl ?_; clear S a; intro a S
    refine s_gF S (b := false) rfl rfl rfl rfl ?_; clear S a; intro a S
    refine s_gF S (b := false) rfl rfl rfl rfl ?_; clear S a; intro a S
    refine s_pick S (b := false) (hc_of S rfl rfl) rfl rfl ?_; clear S a; intro a S
    refine s_move S rfl rfl ?_; clear S a; intro a S
    refine s_gF S (b := false) rfl rfl rfl rfl ?_; clear S a; intro a S
    refine s_gF S (b := false) rfl rfl rfl rfl ?_; clear S a; intro a S
    refine s_pick S (b := false) (hc_of S rfl rfl) rfl rfl ?_; clear S a; intro a S
    refine s_assign S rfl rfl ?_; clear S a; intro a S
    refine c_end ?_
    refine wp_ret ?_
    obtain rfl := Option.some.inj h3
    exact b_ret1 (d := (.v (.bool false))) S rfl rfl fun ok => ⟨rfl, ok, S.below⟩
/-! smithy/smithylaw12.GasStores -/
def f3_smithylaw12_GasStores.f (x1 : List Int) (x2 : List Int) (x3 : List Int) (x4 : Bool) : Option Bool := (f9_gas_Sstore.f x1 x2 x3 x4).bind fun t1 => ((f10_smithyref12_Sstore.f x1 x2 x3 x4).bind fun t2 => ((f11_smithylaw12_fixed.f).bind fun t3 => (if t3 = true then (if (t1.1 == t2.1) = true then (some (t1.2 == t2.2)) else (some false)) else (some false))))
theorem f3_smithylaw12_GasStores.ok (x1 : List Int) (x2 : List Int) (x3 : List Int) (x4 : Bool) (r : Bool) (h0 : f3_smithylaw12_GasStores.f x1 x2 x3 x4 = some r) (m : Mem) (w0 : World) : okL [(.agg [.ints .u64 x1 4]), (.agg [.ints .u64 x2 4]), (.agg [.ints .u64 x3 4]), (.v (.bool x4))] → Frz m w0 → Calls Try.prog 3 (([(.agg [.ints .u64 x1 4]), (.agg [.ints .u64 x2 4]), (.agg [.ints .u64 x3 4]), (.v (.bool x4))] : List D).map D.val).toArray w0 (Ret (.v (.bool r)) w0) := by
  intro ok hm
  delta f3_smithylaw12_GasStores.f at h0
  refine c_enter (n := 40) [(.agg [.ints .u64 x1 4]), (.agg [.ints .u64 x2 4]), (.agg [.ints .u64 x3 4]), (.v (.bool x4))] (l := [(0, (.agg [.ints .u64 x1 4])), (1, (.agg [.ints .u64 x2 4])), (2, (.agg [.ints .u64 x3 4])), (3, (.v (.bool x4)))]) Try.func3 rfl rfl rfl rfl ok hm ?_
  clear ok hm
  intro a S
  refine c_region ?_
  refine s_box S rfl rfl rfl ?_; clear S a; intro g1 a w S
  refine s_box S rfl rfl rfl ?_; clear S a w; intro g2 a w S
  refine s_box S rfl rfl rfl ?_; clear S a w; intro g3 a w S
  refine s_assign S rfl rfl ?_; clear S a; intro a S
  refine c_end ?_
  refine c_region ?_
  refine s_loada S rfl (.there (.there .here)) T24 (s' := [.ints .u64 x1 4]) rfl rfl ?_; clear S a; intro a S
  refine s_loada S rfl (.there .here) T24 (s' := [.ints .u64 x2 4]) rfl rfl ?_; clear S a; intro a S
  refine s_loada S rfl .here T24 (s' := [.ints .u64 x3 4]) rfl rfl ?_; clear S a; intro a S
  refine s_move S rfl rfl ?_; clear S a; intro a S
  obtain ⟨t1, et1, h1⟩ := bind_of h0; clear h0
  refine s_call S (ds := [(.agg [.ints .u64 x1 4]), (.agg [.ints .u64 x2 4]), (.agg [.ints .u64 x3 4]), (.v (.bool x4))]) (d := (.tup [(false, [.one (.int .u64 t1.1)]), (false, [.one (.int .i64 t1.2)])])) N9 rfl rfl (f9_gas_Sstore.ok x1 x2 x3 x4 t1 et1 m _) ?_; clear S a w; intro a w S
  refine s_move S rfl rfl ?_; clear S a; intro a S
  refine s_extract S rfl rfl rfl rfl ?_; clear S a; intro a S
  refine s_extract S rfl rfl rfl rfl ?_; clear S a; intro a S
  refine s_assign S rfl rfl ?_; clear S a; intro a S
  refine s_assign S rfl rfl ?_; clear S a; intro a S
  refine c_end ?_
  refine c_region ?_
  refine s_loada S rfl (.there (.there .here)) T24 (s' := [.ints .u64 x1 4]) rfl rfl ?_; clear S a; intro a S
  refine s_loada S rfl (.there .here) T24 (s' := [.ints .u64 x2 4]) rfl rfl ?_; clear S a; intro a S
  refine s_loada S rfl .here T24 (s' := [.ints .u64 x3 4]) rfl rfl ?_; clear S a; intro a S
  refine s_move S rfl rfl ?_; clear S a; intro a S
  obtain ⟨t2, et2, h2⟩ := bind_of h1; clear h1
  refine s_call S (ds := [(.agg [.ints .u64 x1 4]), (.agg [.ints .u64 x2 4]), (.agg [.ints .u64 x3 4]), (.v (.bool x4))]) (d := (.tup [(false, [.one (.int .u64 t2.1)]), (false, [.one (.int .i64 t2.2)])])) N10 rfl rfl (f10_smithyref12_Sstore.ok x1 x2 x3 x4 t2 et2 m _) ?_; clear S a w; intro a w S
  refine s_move S rfl rfl ?_; clear S a; intro a S
  refine s_extract S rfl rfl rfl rfl ?_; clear S a; intro a S
  refine s_extract S rfl rfl rfl rfl ?_; clear S a; intro a S
  refine s_assign S rfl rfl ?_; clear S a; intro a S
  refine s_assign S rfl rfl ?_; clear S a; intro a S
  refine c_end ?_
  refine c_region ?_
  obtain ⟨t3, et3, h3⟩ := bind_of h2; clear h2
  refine s_call S (ds := []) (d := (.v (.bool t3))) N11 rfl rfl (f11_smithylaw12_fixed.ok t3 et3 m _) ?_; clear S a w; intro a w S
  refine s_move S rfl rfl ?_; clear S a; intro a S
  rcases ite_of h3 with ⟨c1, h4⟩ | ⟨c1, h4⟩ <;> clear h3
  · refine s_gT S (b := t3) rfl rfl c1 ?_
    refine s_move S rfl rfl ?_; clear S a; intro a S
    refine s_gT S (b := t3) rfl rfl c1 ?_
    refine s_move S rfl rfl ?_; clear S a; intro a S
    refine s_gT S (b := t3) rfl rfl c1 ?_
    refine s_bin S rfl rfl rfl rfl ?_; clear S a; intro a S
    refine s_pick S (b := true) (hc_of S rfl c1) rfl rfl ?_; clear S a; intro a S
    refine s_move S rfl rfl ?_; clear S a; intro a S
    rcases ite_of h4 with ⟨c2, h5⟩ | ⟨c2, h5⟩ <;> clear h4
    · refine s_gT S (b := (t1.1 == t2.1)) rfl rfl c2 ?_
      refine s_move S rfl rfl ?_; clear S a; intro a S
      refine s_gT S (b := (t1.1 == t2.1)) rfl rfl c2 ?_
      refine s_move S rfl rfl ?_; clear S a; intro a S
      refine s_gT S (b := (t1.1 == t2.1)) rfl rfl c2 ?_
      refine s_bin S rfl rfl rfl rfl ?_; clear S a; intro a S
      refine s_pick S (b := true) (hc_of S rfl c2) rfl rfl ?_; clear S a; intro a S
      refine s_assign S rfl rfl ?_; clear S a; intro a S
      refine c_end ?_
      refine wp_ret ?_
      obtain rfl := Option.some.inj h5
      exact b_ret1 (d := (.v (.bool (t1.2 == t2.2)))) S rfl rfl fun ok => ⟨rfl, ok, S.below⟩
    · refine s_gF S (b := (t1.1 == t2.1)) rfl rfl c2 rfl ?_; clear S a; intro a S
      refine s_gF S (b := (t1.1 == t2.1)) rfl rfl c2 rfl ?_; clear S a; intro a S
      refine s_gF S (b := (t1.1 == t2.1)) rfl rfl c2 rfl ?_; clear S a; intro a S
      refine s_pick S (b := false) (hc_of S rfl c2) rfl rfl ?_; clear S a; intro a S
      refine s_assign S rfl rfl ?_; clear S a; intro a S
      refine c_end ?_
      refine wp_ret ?_
      obtain rfl := Option.some.inj h5
      exact b_ret1 (d := (.v (.bool false))) S rfl rfl fun ok => ⟨rfl, ok, S.below⟩
  · refine s_gF S (b := t3) rfl rfl c1 rfl ?_; clear S a; intro a S
    refine s_gF S (b := t3) rfl rfl c1 rfl ?_; clear S a; intro a S
    refine s_gF S (b := t3) rfl rfl c1 rfl ?_; clear S a; intro a S
    refine s_pick S (b := false) (hc_of S rfl c1) rfl rfl ?_; clear S a; intro a S
    refine s_move S rfl rfl ?_; clear S a; intro a S
    refine s_gF S (b := false) rfl rfl rfl rfl ?_; clear S a; intro a S
    refine s_gF S (b := false) rfl rfl rfl rfl ?_; clear S a; intro a S
    refine s_gF S (b := false) rfl rfl rfl rfl ?_; clear S a; intro a S
    refine s_pick S (b := false) (hc_of S rfl rfl) rfl rfl ?_; clear S a; intro a S
    refine s_assign S rfl rfl ?_; clear S a; intro a S
    refine c_end ?_
    refine wp_ret ?_
    obtain rfl := Option.some.inj h4
    exact b_ret1 (d := (.v (.bool false))) S rfl rfl fun ok => ⟨rfl, ok, S.below⟩
/-! smithy/smithylaw12.GasParts -/
def f5_smithylaw12_GasParts.j1 (x1 : Int) (x2 : Int) (t1 : Int) (t2 : Int) (y1 : Int) : Option Bool := (f11_smithylaw12_fixed.f).bind fun t3 => (if t3 = true then (if (t1 == (wr .u64 (x1 - (wr .u64 (Int.tdiv x1 64))))) = true then (if (decide (t1 ≤ x1)) = true then (if (t2 == y1) = true then (some (decide (t2 ≤ x2))) else (some false)) else (some false)) else (some false)) else (some false))
def f5_smithylaw12_GasParts.f (x1 : Int) (x2 : Int) (x3 : Int) : Option Bool := (f12_gas_Part.f x1).bind fun t1 => ((f13_gas_Refund.f x2 x3).bind fun t2 => (if (decide (x3 < (wr .u64 (Int.tdiv x2 5)))) = true then (f5_smithylaw12_GasParts.j1 x1 x2 t1 t2 x3) else (f5_smithylaw12_GasParts.j1 x1 x2 t1 t2 (wr .u64 (Int.tdiv x2 5)))))
theorem f5_smithylaw12_GasParts.ok (x1 : Int) (x2 : Int) (x3 : Int) (r : Bool) (h0 : f5_smithylaw12_GasParts.f x1 x2 x3 = some r) (m : Mem) (w0 : World) : okL [(.v (.int .u64 x1)), (.v (.int .u64 x2)), (.v (.int .u64 x3))] → Frz m w0 → Calls Try.prog 5 (([(.v (.int .u64 x1)), (.v (.int .u64 x2)), (.v (.int .u64 x3))] : List D).map D.val).toArray w0 (Ret (.v (.bool r)) w0) := by
  intro ok hm
  delta f5_smithylaw12_GasParts.f at h0
  refine c_enter (n := 45) [(.v (.int .u64 x1)), (.v (.int .u64 x2)), (.v (.int .u64 x3))] (l := [(0, (.v (.int .u64 x1))), (1, (.v (.int .u64 x2))), (2, (.v (.int .u64 x3)))]) Try.func5 rfl rfl rfl rfl ok hm ?_
  clear ok hm
  intro a S
  refine c_region ?_
  refine s_assign S rfl rfl ?_; clear S a; intro a S
  refine c_end ?_
  refine c_region ?_
  refine s_move S rfl rfl ?_; clear S a; intro a S
  obtain ⟨t1, et1, h1⟩ := bind_of h0; clear h0
  refine s_call S (ds := [(.v (.int .u64 x1))]) (d := (.v (.int .u64 t1))) N12 rfl rfl (f12_gas_Part.ok x1 t1 et1 m _) ?_; clear S a; intro a w S
  refine s_move S rfl rfl ?_; clear S a; intro a S
  refine s_move S rfl rfl ?_; clear S a; intro a S
  obtain ⟨t2, et2, h2⟩ := bind_of h1; clear h1
  refine s_call S (ds := [(.v (.int .u64 x2)), (.v (.int .u64 x3))]) (d := (.v (.int .u64 t2))) N13 rfl rfl (f13_gas_Refund.ok x2 x3 t2 et2 m _) ?_; clear S a w; intro a w S
  refine s_assign S rfl rfl ?_; clear S a; intro a S
  refine s_assign S rfl rfl ?_; clear S a; intro a S
  refine c_end ?_
  refine c_region ?_
  refine s_move S rfl rfl ?_; clear S a; intro a S
  refine s_quo S rfl rfl (by decide) rfl ?_; clear S a; intro a S
  refine s_assign S rfl rfl ?_; clear S a; intro a S
  refine c_end ?_
  refine wp_seq_k ?_
  intro K1 hK1
  have j1 : ∀ (y1 : Int) (a : Act) (w : World), St 45 m w0 [(9, (.v (.int .u64 y1))), (8, (.v (.int .u64 t2))), (7, (.v (.int .u64 t1))), (0, (.v (.int .u64 x1))), (1, (.v (.int .u64 x2)))] [] a w → f5_smithylaw12_GasParts.j1 x1 x2 t1 t2 y1 = some r → K1 a w := by
    intro y1 a w S h0
    delta f5_smithylaw12_GasParts.j1 at h0
    refine hK1 a w ?_
    refine c_region ?_
    obtain ⟨t3, et3, h1⟩ := bind_of h0; clear h0
    refine s_call S (ds := []) (d := (.v (.bool t3))) N11 rfl rfl (f11_smithylaw12_fixed.ok t3 et3 m _) ?_; clear S a w; intro a w S
    refine s_move S rfl rfl ?_; clear S a; intro a S
    rcases ite_of h1 with ⟨c1, h2⟩ | ⟨c1, h2⟩ <;> clear h1
    · refine s_gT S (b := t3) rfl rfl c1 ?_
      refine s_move S rfl rfl ?_; clear S a; intro a S
      refine s_gT S (b := t3) rfl rfl c1 ?_
      refine s_move S rfl rfl ?_; clear S a; intro a S
      refine s_gT S (b := t3) rfl rfl c1 ?_
      refine s_move S rfl rfl ?_; clear S a; intro a S
      refine s_gT S (b := t3) rfl rfl c1 ?_
      refine s_quo S rfl rfl (by decide) rfl ?_; clear S a; intro a S
      refine s_gT S (b := t3) rfl rfl c1 ?_
      refine s_bin S rfl rfl rfl rfl ?_; clear S a; intro a S
      refine s_gT S (b := t3) rfl rfl c1 ?_
      refine s_bin S rfl rfl rfl rfl ?_; clear S a; intro a S
      refine s_pick S (b := true) (hc_of S rfl c1) rfl rfl ?_; clear S a; intro a S
      refine s_move S rfl rfl ?_; clear S a; intro a S
      rcases ite_of h2 with ⟨c2, h3⟩ | ⟨c2, h3⟩ <;> clear h2
      · refine s_gT S (b := (t1 == (wr .u64 (x1 - (wr .u64 (Int.tdiv x1 64)))))) rfl rfl c2 ?_
        refine s_move S rfl rfl ?_; clear S a; intro a S
        refine s_gT S (b := (t1 == (wr .u64 (x1 - (wr .u64 (Int.tdiv x1 64)))))) rfl rfl c2 ?_
        refine s_move S rfl rfl ?_; clear S a; intro a S
        refine s_gT S (b := (t1 == (wr .u64 (x1 - (wr .u64 (Int.tdiv x1 64)))))) rfl rfl c2 ?_
        refine s_bin S rfl rfl rfl rfl ?_; clear S a; intro a S
        refine s_pick S (b := true) (hc_of S rfl c2) rfl rfl ?_; clear S a; intro a S
        refine s_move S rfl rfl ?_; clear S a; intro a S
        rcases ite_of h3 with ⟨c3, h4⟩ | ⟨c3, h4⟩ <;> clear h3
        · refine s_gT S (b := (decide (t1 ≤ x1))) rfl rfl c3 ?_
          refine s_move S rfl rfl ?_; clear S a; intro a S
          refine s_gT S (b := (decide (t1 ≤ x1))) rfl rfl c3 ?_
          refine s_move S rfl rfl ?_; clear S a; intro a S
          refine s_gT S (b := (decide (t1 ≤ x1))) rfl rfl c3 ?_
          refine s_bin S rfl rfl rfl rfl ?_; clear S a; intro a S
          refine s_pick S (b := true) (hc_of S rfl c3) rfl rfl ?_; clear S a; intro a S
          refine s_move S rfl rfl ?_; clear S a; intro a S
          rcases ite_of h4 with ⟨c4, h5⟩ | ⟨c4, h5⟩ <;> clear h4
          · refine s_gT S (b := (t2 == y1)) rfl rfl c4 ?_
            refine s_move S rfl rfl ?_; clear S a; intro a S
            refine s_gT S (b := (t2 == y1)) rfl rfl c4 ?_
            refine s_move S rfl rfl ?_; clear S a; intro a S
            refine s_gT S (b := (t2 == y1)) rfl rfl c4 ?_
            refine s_bin S rfl rfl rfl rfl ?_; clear S a; intro a S
            refine s_pick S (b := true) (hc_of S rfl c4) rfl rfl ?_; clear S a; intro a S
            refine s_assign S rfl rfl ?_; clear S a; intro a S
            refine c_end ?_
            refine wp_ret ?_
            obtain rfl := Option.some.inj h5
            exact b_ret1 (d := (.v (.bool (decide (t2 ≤ x2))))) S rfl rfl fun ok => ⟨rfl, ok, S.below⟩
          · refine s_gF S (b := (t2 == y1)) rfl rfl c4 rfl ?_; clear S a; intro a S
            refine s_gF S (b := (t2 == y1)) rfl rfl c4 rfl ?_; clear S a; intro a S
            refine s_gF S (b := (t2 == y1)) rfl rfl c4 rfl ?_; clear S a; intro a S
            refine s_pick S (b := false) (hc_of S rfl c4) rfl rfl ?_; clear S a; intro a S
            refine s_assign S rfl rfl ?_; clear S a; intro a S
            refine c_end ?_
            refine wp_ret ?_
            obtain rfl := Option.some.inj h5
            exact b_ret1 (d := (.v (.bool false))) S rfl rfl fun ok => ⟨rfl, ok, S.below⟩
        · refine s_gF S (b := (decide (t1 ≤ x1))) rfl rfl c3 rfl ?_; clear S a; intro a S
          refine s_gF S (b := (decide (t1 ≤ x1))) rfl rfl c3 rfl ?_; clear S a; intro a S
          refine s_gF S (b := (decide (t1 ≤ x1))) rfl rfl c3 rfl ?_; clear S a; intro a S
          refine s_pick S (b := false) (hc_of S rfl c3) rfl rfl ?_; clear S a; intro a S
          refine s_move S rfl rfl ?_; clear S a; intro a S
          refine s_gF S (b := false) rfl rfl rfl rfl ?_; clear S a; intro a S
          refine s_gF S (b := false) rfl rfl rfl rfl ?_; clear S a; intro a S
          refine s_gF S (b := false) rfl rfl rfl rfl ?_; clear S a; intro a S
          refine s_pick S (b := false) (hc_of S rfl rfl) rfl rfl ?_; clear S a; intro a S
          refine s_assign S rfl rfl ?_; clear S a; intro a S
          refine c_end ?_
          refine wp_ret ?_
          obtain rfl := Option.some.inj h4
          exact b_ret1 (d := (.v (.bool false))) S rfl rfl fun ok => ⟨rfl, ok, S.below⟩
      · refine s_gF S (b := (t1 == (wr .u64 (x1 - (wr .u64 (Int.tdiv x1 64)))))) rfl rfl c2 rfl ?_; clear S a; intro a S
        refine s_gF S (b := (t1 == (wr .u64 (x1 - (wr .u64 (Int.tdiv x1 64)))))) rfl rfl c2 rfl ?_; clear S a; intro a S
        refine s_gF S (b := (t1 == (wr .u64 (x1 - (wr .u64 (Int.tdiv x1 64)))))) rfl rfl c2 rfl ?_; clear S a; intro a S
        refine s_pick S (b := false) (hc_of S rfl c2) rfl rfl ?_; clear S a; intro a S
        refine s_move S rfl rfl ?_; clear S a; intro a S
        refine s_gF S (b := false) rfl rfl rfl rfl ?_; clear S a; intro a S
        refine s_gF S (b := false) rfl rfl rfl rfl ?_; clear S a; intro a S
        refine s_gF S (b := false) rfl rfl rfl rfl ?_; clear S a; intro a S
        refine s_pick S (b := false) (hc_of S rfl rfl) rfl rfl ?_; clear S a; intro a S
        refine s_move S rfl rfl ?_; clear S a; intro a S
        refine s_gF S (b := false) rfl rfl rfl rfl ?_; clear S a; intro a S
        refine s_gF S (b := false) rfl rfl rfl rfl ?_; clear S a; intro a S
        refine s_gF S (b := false) rfl rfl rfl rfl ?_; clear S a; intro a S
        refine s_pick S (b := false) (hc_of S rfl rfl) rfl rfl ?_; clear S a; intro a S
        refine s_assign S rfl rfl ?_; clear S a; intro a S
        refine c_end ?_
        refine wp_ret ?_
        obtain rfl := Option.some.inj h3
        exact b_ret1 (d := (.v (.bool false))) S rfl rfl fun ok => ⟨rfl, ok, S.below⟩
    · refine s_gF S (b := t3) rfl rfl c1 rfl ?_; clear S a; intro a S
      refine s_gF S (b := t3) rfl rfl c1 rfl ?_; clear S a; intro a S
      refine s_gF S (b := t3) rfl rfl c1 rfl ?_; clear S a; intro a S
      refine s_gF S (b := t3) rfl rfl c1 rfl ?_; clear S a; intro a S
      refine s_gF S (b := t3) rfl rfl c1 rfl ?_; clear S a; intro a S
      refine s_gF S (b := t3) rfl rfl c1 rfl ?_; clear S a; intro a S
      refine s_pick S (b := false) (hc_of S rfl c1) rfl rfl ?_; clear S a; intro a S
      refine s_move S rfl rfl ?_; clear S a; intro a S
      refine s_gF S (b := false) rfl rfl rfl rfl ?_; clear S a; intro a S
      refine s_gF S (b := false) rfl rfl rfl rfl ?_; clear S a; intro a S
      refine s_gF S (b := false) rfl rfl rfl rfl ?_; clear S a; intro a S
      refine s_pick S (b := false) (hc_of S rfl rfl) rfl rfl ?_; clear S a; intro a S
      refine s_move S rfl rfl ?_; clear S a; intro a S
      refine s_gF S (b := false) rfl rfl rfl rfl ?_; clear S a; intro a S
      refine s_gF S (b := false) rfl rfl rfl rfl ?_; clear S a; intro a S
      refine s_gF S (b := false) rfl rfl rfl rfl ?_; clear S a; intro a S
      refine s_pick S (b := false) (hc_of S rfl rfl) rfl rfl ?_; clear S a; intro a S
      refine s_move S rfl rfl ?_; clear S a; intro a S
      refine s_gF S (b := false) rfl rfl rfl rfl ?_; clear S a; intro a S
      refine s_gF S (b := false) rfl rfl rfl rfl ?_; clear S a; intro a S
      refine s_gF S (b := false) rfl rfl rfl rfl ?_; clear S a; intro a S
      refine s_pick S (b := false) (hc_of S rfl rfl) rfl rfl ?_; clear S a; intro a S
      refine s_assign S rfl rfl ?_; clear S a; intro a S
      refine c_end ?_
      refine wp_ret ?_
      obtain rfl := Option.some.inj h2
      exact b_ret1 (d := (.v (.bool false))) S rfl rfl fun ok => ⟨rfl, ok, S.below⟩
  refine c_region ?_
  refine s_move S rfl rfl ?_; clear S a; intro a S
  refine s_move S rfl rfl ?_; clear S a; intro a S
  refine s_bin S rfl rfl rfl rfl ?_; clear S a; intro a S
  refine c_end ?_
  rcases ite_of h2 with ⟨c5, h3⟩ | ⟨c5, h3⟩ <;> clear h2
  · refine c_condT S rfl c5 ?_
    refine c_region' ?_
    refine s_move S rfl rfl ?_; clear S a; intro a S
    refine s_assign S rfl rfl ?_; clear S a; intro a S
    refine c_end' ?_
    refine x_thenN ?_
    exact j1 x3 a w (S.sub ⟨rfl, rfl, rfl, rfl, rfl, trivial⟩ .nil) h3
  · refine c_condF S rfl c5 ?_
    refine wp_skip ?_
    refine x_thenN ?_
    exact j1 (wr .u64 (Int.tdiv x2 5)) a w (S.sub ⟨rfl, rfl, rfl, rfl, rfl, trivial⟩ .nil) h3
/-! smithy/gas.Account -/
def f14_gas_Account.f (x1 : Bool) : Option Int := (f28_gas_either.f x1 2600 100).bind fun t1 => (some t1)
theorem f14_gas_Account.ok (x1 : Bool) (r : Int) (h0 : f14_gas_Account.f x1 = some r) (m : Mem) (w0 : World) : okL [(.v (.bool x1))] → Frz m w0 → Calls Try.prog 14 (([(.v (.bool x1))] : List D).map D.val).toArray w0 (Ret (.v (.int .u64 r)) w0) := by
  intro ok hm
  delta f14_gas_Account.f at h0
  refine c_enter (n := 5) [(.v (.bool x1))] (l := [(0, (.v (.bool x1)))]) Try.func14 rfl rfl rfl rfl ok hm ?_
  clear ok hm
  intro a S
  refine c_region ?_
  refine s_assign S rfl rfl ?_; clear S a; intro a S
  refine c_end ?_
  refine c_region ?_
  refine s_move S rfl rfl ?_; clear S a; intro a S
  obtain ⟨t1, et1, h1⟩ := bind_of h0; clear h0
  refine s_call S (ds := [(.v (.bool x1)), (.v (.int .u64 2600)), (.v (.int .u64 100))]) (d := (.v (.int .u64 t1))) N28 rfl rfl (f28_gas_either.ok x1 2600 100 t1 et1 m _) ?_; clear S a; intro a w S
  refine s_assign S rfl rfl ?_; clear S a; intro a S
  refine c_end ?_
  refine wp_ret ?_
  obtain rfl := Option.some.inj h1
  exact b_ret1 (d := (.v (.int .u64 t1))) S rfl rfl fun ok => ⟨rfl, ok, S.below⟩
/-! smithy/gas.Sload -/
def f15_gas_Sload.f (x1 : Bool) : Option Int := (f28_gas_either.f x1 2100 100).bind fun t1 => (some t1)
theorem f15_gas_Sload.ok (x1 : Bool) (r : Int) (h0 : f15_gas_Sload.f x1 = some r) (m : Mem) (w0 : World) : okL [(.v (.bool x1))] → Frz m w0 → Calls Try.prog 15 (([(.v (.bool x1))] : List D).map D.val).toArray w0 (Ret (.v (.int .u64 r)) w0) := by
  intro ok hm
  delta f15_gas_Sload.f at h0
  refine c_enter (n := 5) [(.v (.bool x1))] (l := [(0, (.v (.bool x1)))]) Try.func15 rfl rfl rfl rfl ok hm ?_
  clear ok hm
  intro a S
  refine c_region ?_
  refine s_assign S rfl rfl ?_; clear S a; intro a S
  refine c_end ?_
  refine c_region ?_
  refine s_move S rfl rfl ?_; clear S a; intro a S
  obtain ⟨t1, et1, h1⟩ := bind_of h0; clear h0
  refine s_call S (ds := [(.v (.bool x1)), (.v (.int .u64 2100)), (.v (.int .u64 100))]) (d := (.v (.int .u64 t1))) N28 rfl rfl (f28_gas_either.ok x1 2100 100 t1 et1 m _) ?_; clear S a; intro a w S
  refine s_assign S rfl rfl ?_; clear S a; intro a S
  refine c_end ?_
  refine wp_ret ?_
  obtain rfl := Option.some.inj h1
  exact b_ret1 (d := (.v (.int .u64 t1))) S rfl rfl fun ok => ⟨rfl, ok, S.below⟩
/-! smithy/gas.Call -/
def f16_gas_Call.f (x1 : Bool) (x2 : Bool) (x3 : Bool) : Option Int := (f14_gas_Account.f x1).bind fun t1 => ((f28_gas_either.f x2 9000 0).bind fun t2 => (if x2 = true then ((f28_gas_either.f x3 25000 0).bind fun t3 => (some (wr .u64 ((wr .u64 (t1 + t2)) + t3)))) else ((f28_gas_either.f false 25000 0).bind fun t4 => (some (wr .u64 ((wr .u64 (t1 + t2)) + t4))))))
theorem f16_gas_Call.ok (x1 : Bool) (x2 : Bool) (x3 : Bool) (r : Int) (h0 : f16_gas_Call.f x1 x2 x3 = some r) (m : Mem) (w0 : World) : okL [(.v (.bool x1)), (.v (.bool x2)), (.v (.bool x3))] → Frz m w0 → Calls Try.prog 16 (([(.v (.bool x1)), (.v (.bool x2)), (.v (.bool x3))] : List D).map D.val).toArray w0 (Ret (.v (.int .u64 r)) w0) := by
  intro ok hm
  delta f16_gas_Call.f at h0
  refine c_enter (n := 18) [(.v (.bool x1)), (.v (.bool x2)), (.v (.bool x3))] (l := [(0, (.v (.bool x1))), (1, (.v (.bool x2))), (2, (.v (.bool x3)))]) Try.func16 rfl rfl rfl rfl ok hm ?_
  clear ok hm
  intro a S
  refine c_region ?_
  refine s_assign S rfl rfl ?_; clear S a; intro a S
  refine c_end ?_
  refine c_region ?_
  refine s_move S rfl rfl ?_; clear S a; intro a S
  obtain ⟨t1, et1, h1⟩ := bind_of h0; clear h0
  refine s_call S (ds := [(.v (.bool x1))]) (d := (.v (.int .u64 t1))) N14 rfl rfl (f14_gas_Account.ok x1 t1 et1 m _) ?_; clear S a; intro a w S
  refine s_move S rfl rfl ?_; clear S a; intro a S
  obtain ⟨t2, et2, h2⟩ := bind_of h1; clear h1
  refine s_call S (ds := [(.v (.bool x2)), (.v (.int .u64 9000)), (.v (.int .u64 0))]) (d := (.v (.int .u64 t2))) N28 rfl rfl (f28_gas_either.ok x2 9000 0 t2 et2 m _) ?_; clear S a w; intro a w S
  refine s_bin S rfl rfl rfl rfl ?_; clear S a; intro a S
  refine s_move S rfl rfl ?_; clear S a; intro a S
  refine s_move S rfl rfl ?_; clear S a; intro a S
  rcases ite_of h2 with ⟨c1, h3⟩ | ⟨c1, h3⟩ <;> clear h2
  · refine s_gT S (b := x2) rfl rfl c1 ?_
    refine s_move S rfl rfl ?_; clear S a; intro a S
    refine s_pick S (b := true) (hc_of S rfl c1) rfl rfl ?_; clear S a; intro a S
    obtain ⟨t3, et3, h4⟩ := bind_of h3; clear h3
    refine s_call S (ds := [(.v (.bool x3)), (.v (.int .u64 25000)), (.v (.int .u64 0))]) (d := (.v (.int .u64 t3))) N28 rfl rfl (f28_gas_either.ok x3 25000 0 t3 et3 m _) ?_; clear S a w; intro a w S
    refine s_bin S rfl rfl rfl rfl ?_; clear S a; intro a S
    refine s_assign S rfl rfl ?_; clear S a; intro a S
    refine c_end ?_
    refine wp_ret ?_
    obtain rfl := Option.some.inj h4
    exact b_ret1 (d := (.v (.int .u64 (wr .u64 ((wr .u64 (t1 + t2)) + t3))))) S rfl rfl fun ok => ⟨rfl, ok, S.below⟩
  · refine s_gF S (b := x2) rfl rfl c1 rfl ?_; clear S a; intro a S
    refine s_pick S (b := false) (hc_of S rfl c1) rfl rfl ?_; clear S a; intro a S
    obtain ⟨t4, et4, h4⟩ := bind_of h3; clear h3
    refine s_call S (ds := [(.v (.bool false)), (.v (.int .u64 25000)), (.v (.int .u64 0))]) (d := (.v (.int .u64 t4))) N28 rfl rfl (f28_gas_either.ok false 25000 0 t4 et4 m _) ?_; clear S a w; intro a w S
    refine s_bin S rfl rfl rfl rfl ?_; clear S a; intro a S
    refine s_assign S rfl rfl ?_; clear S a; intro a S
    refine c_end ?_
    refine wp_ret ?_
    obtain rfl := Option.some.inj h4
    exact b_ret1 (d := (.v (.int .u64 (wr .u64 ((wr .u64 (t1 + t2)) + t4))))) S rfl rfl fun ok => ⟨rfl, ok, S.below⟩
/-! smithy/gas.Destroy -/
def f17_gas_Destroy.f (x1 : Bool) (x2 : Bool) : Option Int := (f28_gas_either.f x1 2600 0).bind fun t1 => ((f28_gas_either.f x2 25000 0).bind fun t2 => (some (wr .u64 ((wr .u64 (5000 + t1)) + t2))))
theorem f17_gas_Destroy.ok (x1 : Bool) (x2 : Bool) (r : Int) (h0 : f17_gas_Destroy.f x1 x2 = some r) (m : Mem) (w0 : World) : okL [(.v (.bool x1)), (.v (.bool x2))] → Frz m w0 → Calls Try.prog 17 (([(.v (.bool x1)), (.v (.bool x2))] : List D).map D.val).toArray w0 (Ret (.v (.int .u64 r)) w0) := by
  intro ok hm
  delta f17_gas_Destroy.f at h0
  refine c_enter (n := 11) [(.v (.bool x1)), (.v (.bool x2))] (l := [(0, (.v (.bool x1))), (1, (.v (.bool x2)))]) Try.func17 rfl rfl rfl rfl ok hm ?_
  clear ok hm
  intro a S
  refine c_region ?_
  refine s_assign S rfl rfl ?_; clear S a; intro a S
  refine c_end ?_
  refine c_region ?_
  refine s_move S rfl rfl ?_; clear S a; intro a S
  obtain ⟨t1, et1, h1⟩ := bind_of h0; clear h0
  refine s_call S (ds := [(.v (.bool x1)), (.v (.int .u64 2600)), (.v (.int .u64 0))]) (d := (.v (.int .u64 t1))) N28 rfl rfl (f28_gas_either.ok x1 2600 0 t1 et1 m _) ?_; clear S a; intro a w S
  refine s_bin S rfl rfl rfl rfl ?_; clear S a; intro a S
  refine s_move S rfl rfl ?_; clear S a; intro a S
  obtain ⟨t2, et2, h2⟩ := bind_of h1; clear h1
  refine s_call S (ds := [(.v (.bool x2)), (.v (.int .u64 25000)), (.v (.int .u64 0))]) (d := (.v (.int .u64 t2))) N28 rfl rfl (f28_gas_either.ok x2 25000 0 t2 et2 m _) ?_; clear S a w; intro a w S
  refine s_bin S rfl rfl rfl rfl ?_; clear S a; intro a S
  refine s_assign S rfl rfl ?_; clear S a; intro a S
  refine c_end ?_
  refine wp_ret ?_
  obtain rfl := Option.some.inj h2
  exact b_ret1 (d := (.v (.int .u64 (wr .u64 ((wr .u64 (5000 + t1)) + t2))))) S rfl rfl fun ok => ⟨rfl, ok, S.below⟩
/-! smithy/smithylaw12.GasAccounts -/
def f6_smithylaw12_GasAccounts.j3 (x1 : Bool) (x2 : Bool) (x3 : Bool) (y3 : Int) (y4 : Int) (y5 : Int) (y6 : Int) : Option Bool := (f11_smithylaw12_fixed.f).bind fun t1 => (if t1 = true then ((f14_gas_Account.f x1).bind fun t2 => (if (t2 == y4) = true then ((f15_gas_Sload.f x1).bind fun t3 => (if (t3 == y3) = true then ((f16_gas_Call.f x1 x2 x3).bind fun t4 => (if (t4 == y5) = true then ((f17_gas_Destroy.f x1 x3).bind fun t5 => (some (t5 == y6))) else (some false))) else (some false))) else (some false))) else (some false))
def f6_smithylaw12_GasAccounts.j2 (x1 : Bool) (x2 : Bool) (x3 : Bool) (y1 : Int) (y3 : Int) (y4 : Int) (y5 : Int) : Option Bool := if x3 = true then (f6_smithylaw12_GasAccounts.j3 x1 x2 x3 y3 y4 y5 (wr .u64 (y1 + 25000))) else (f6_smithylaw12_GasAccounts.j3 x1 x2 x3 y3 y4 y5 y1)
def f6_smithylaw12_GasAccounts.j1 (x1 : Bool) (x2 : Bool) (x3 : Bool) (y1 : Int) (y2 : Int) (y3 : Int) (y4 : Int) : Option Bool := if x2 = true then (if x3 = true then (f6_smithylaw12_GasAccounts.j2 x1 x2 x3 y1 y3 y4 (wr .u64 ((wr .u64 (y2 + 9000)) + 25000))) else (f6_smithylaw12_GasAccounts.j2 x1 x2 x3 y1 y3 y4 (wr .u64 (y2 + 9000)))) else (f6_smithylaw12_GasAccounts.j2 x1 x2 x3 y1 y3 y4 y2)
def f6_smithylaw12_GasAccounts.f (x1 : Bool) (x2 : Bool) (x3 : Bool) : Option Bool := if x1 = true then (f6_smithylaw12_GasAccounts.j1 x1 x2 x3 7600 2600 2100 2600) else (f6_smithylaw12_GasAccounts.j1 x1 x2 x3 5000 100 100 100)
theorem f6_smithylaw12_GasAccounts.ok (x1 : Bool) (x2 : Bool) (x3 : Bool) (r : Bool) (h0 : f6_smithylaw12_GasAccounts.f x1 x2 x3 = some r) (m : Mem) (w0 : World) : okL [(.v (.bool x1)), (.v (.bool x2)), (.v (.bool x3))] → Frz m w0 → Calls Try.prog 6 (([(.v (.bool x1)), (.v (.bool x2)), (.v (.bool x3))] : List D).map D.val).toArray w0 (Ret (.v (.bool r)) w0) := by
  intro ok hm
  delta f6_smithylaw12_GasAccounts.f at h0
  refine c_enter (n := 49) [(.v (.bool x1)), (.v (.bool x2)), (.v (.bool x3))] (l := [(0, (.v (.bool x1))), (1, (.v (.bool x2))), (2, (.v (.bool x3)))]) Try.func6 rfl rfl rfl rfl ok hm ?_
  clear ok hm
  intro a S
  refine c_region ?_
  refine s_assign S rfl rfl ?_; clear S a; intro a S
  refine c_end ?_
  refine c_region ?_
  refine s_assign S rfl rfl ?_; clear S a; intro a S
  refine s_assign S rfl rfl ?_; clear S a; intro a S
  refine s_assign S rfl rfl ?_; clear S a; intro a S
  refine s_assign S rfl rfl ?_; clear S a; intro a S
  refine c_end ?_
  refine wp_seq_k ?_
  intro K1 hK1
  have j1 : ∀ (y1 : Int) (y2 : Int) (y3 : Int) (y4 : Int) (a : Act) (w : World), St 49 m w0 [(10, (.v (.int .u64 y1))), (9, (.v (.int .u64 y2))), (8, (.v (.int .u64 y3))), (7, (.v (.int .u64 y4))), (0, (.v (.bool x1))), (1, (.v (.bool x2))), (2, (.v (.bool x3)))] [] a w → f6_smithylaw12_GasAccounts.j1 x1 x2 x3 y1 y2 y3 y4 = some r → K1 a w := by
    intro y1 y2 y3 y4 a w S h0
    delta f6_smithylaw12_GasAccounts.j1 at h0
    refine hK1 a w ?_
    refine wp_seq_k ?_
    intro K2 hK2
    have j2 : ∀ (y5 : Int) (a : Act) (w : World), St 49 m w0 [(9, (.v (.int .u64 y5))), (10, (.v (.int .u64 y1))), (8, (.v (.int .u64 y3))), (7, (.v (.int .u64 y4))), (0, (.v (.bool x1))), (1, (.v (.bool x2))), (2, (.v (.bool x3)))] [] a w → f6_smithylaw12_GasAccounts.j2 x1 x2 x3 y1 y3 y4 y5 = some r → K2 a w := by
      intro y5 a w S h0
      delta f6_smithylaw12_GasAccounts.j2 at h0
      refine hK2 a w ?_
      refine wp_seq_k ?_
      intro K3 hK3
      have j3 : ∀ (y6 : Int) (a : Act) (w : World), St 49 m w0 [(10, (.v (.int .u64 y6))), (9, (.v (.int .u64 y5))), (8, (.v (.int .u64 y3))), (7, (.v (.int .u64 y4))), (0, (.v (.bool x1))), (1, (.v (.bool x2))), (2, (.v (.bool x3)))] [] a w → f6_smithylaw12_GasAccounts.j3 x1 x2 x3 y3 y4 y5 y6 = some r → K3 a w := by
        intro y6 a w S h0
        delta f6_smithylaw12_GasAccounts.j3 at h0
        refine hK3 a w ?_
        refine c_region ?_
        obtain ⟨t1, et1, h1⟩ := bind_of h0; clear h0
        refine s_call S (ds := []) (d := (.v (.bool t1))) N11 rfl rfl (f11_smithylaw12_fixed.ok t1 et1 m _) ?_; clear S a w; intro a w S
        refine s_move S rfl rfl ?_; clear S a; intro a S
        rcases ite_of h1 with ⟨c1, h2⟩ | ⟨c1, h2⟩ <;> clear h1
        · refine s_gT S (b := t1) rfl rfl c1 ?_
          refine s_move S rfl rfl ?_; clear S a; intro a S
          refine s_gT S (b := t1) rfl rfl c1 ?_
          obtain ⟨t2, et2, h3⟩ := bind_of h2; clear h2
          refine s_call S (ds := [(.v (.bool x1))]) (d := (.v (.int .u64 t2))) N14 rfl rfl (f14_gas_Account.ok x1 t2 et2 m _) ?_; clear S a w; intro a w S
          refine s_gT S (b := t1) rfl rfl c1 ?_
          refine s_move S rfl rfl ?_; clear S a; intro a S
          refine s_gT S (b := t1) rfl rfl c1 ?_
          refine s_bin S rfl rfl rfl rfl ?_; clear S a; intro a S
          refine s_pick S (b := true) (hc_of S rfl c1) rfl rfl ?_; clear S a; intro a S
          refine s_move S rfl rfl ?_; clear S a; intro a S
          rcases ite_of h3 with ⟨c2, h4⟩ | ⟨c2, h4⟩ <;> clear h3
          · refine s_gT S (b := (t2 == y4)) rfl rfl c2 ?_
            refine s_move S rfl rfl ?_; clear S a; intro a S
            refine s_gT S (b := (t2 == y4)) rfl rfl c2 ?_
            obtain ⟨t3, et3, h5⟩ := bind_of h4; clear h4
            refine s_call S (ds := [(.v (.bool x1))]) (d := (.v (.int .u64 t3))) N15 rfl rfl (f15_gas_Sload.ok x1 t3 et3 m _) ?_; clear S a w; intro a w S
            refine s_gT S (b := (t2 == y4)) rfl rfl c2 ?_
            refine s_move S rfl rfl ?_; clear S a; intro a S
            refine s_gT S (b := (t2 == y4)) rfl rfl c2 ?_
            refine s_bin S rfl rfl rfl rfl ?_; clear S a; intro a S
            refine s_pick S (b := true) (hc_of S rfl c2) rfl rfl ?_; clear S a; intro a S
            refine s_move S rfl rfl ?_; clear S a; intro a S
            rcases ite_of h5 with ⟨c3, h6⟩ | ⟨c3, h6⟩ <;> clear h5
            · refine s_gT S (b := (t3 == y3)) rfl rfl c3 ?_
              refine s_move S rfl rfl ?_; clear S a; intro a S
              refine s_gT S (b := (t3 == y3)) rfl rfl c3 ?_
              refine s_move S rfl rfl ?_; clear S a; intro a S
              refine s_gT S (b := (t3 == y3)) rfl rfl c3 ?_
              refine s_move S rfl rfl ?_; clear S a; intro a S
              refine s_gT S (b := (t3 == y3)) rfl rfl c3 ?_
              obtain ⟨t4, et4, h7⟩ := bind_of h6; clear h6
              refine s_call S (ds := [(.v (.bool x1)), (.v (.bool x2)), (.v (.bool x3))]) (d := (.v (.int .u64 t4))) N16 rfl rfl (f16_gas_Call.ok x1 x2 x3 t4 et4 m _) ?_; clear S a w; intro a w S
              refine s_gT S (b := (t3 == y3)) rfl rfl c3 ?_
              refine s_move S rfl rfl ?_; clear S a; intro a S
              refine s_gT S (b := (t3 == y3)) rfl rfl c3 ?_
              refine s_bin S rfl rfl rfl rfl ?_; clear S a; intro a S
              refine s_pick S (b := true) (hc_of S rfl c3) rfl rfl ?_; clear S a; intro a S
              refine s_move S rfl rfl ?_; clear S a; intro a S
              rcases ite_of h7 with ⟨c4, h8⟩ | ⟨c4, h8⟩ <;> clear h7
              · refine s_gT S (b := (t4 == y5)) rfl rfl c4 ?_
                refine s_move S rfl rfl ?_; clear S a; intro a S
                refine s_gT S (b := (t4 == y5)) rfl rfl c4 ?_
                refine s_move S rfl rfl ?_; clear S a; intro a S
                refine s_gT S (b := (t4 == y5)) rfl rfl c4 ?_
                obtain ⟨t5, et5, h9⟩ := bind_of h8; clear h8
                refine s_call S (ds := [(.v (.bool x1)), (.v (.bool x3))]) (d := (.v (.int .u64 t5))) N17 rfl rfl (f17_gas_Destroy.ok x1 x3 t5 et5 m _) ?_; clear S a w; intro a w S
                refine s_gT S (b := (t4 == y5)) rfl rfl c4 ?_
                refine s_move S rfl rfl ?_; clear S a; intro a S
                refine s_gT S (b := (t4 == y5)) rfl rfl c4 ?_
                refine s_bin S rfl rfl rfl rfl ?_; clear S a; intro a S
                refine s_pick S (b := true) (hc_of S rfl c4) rfl rfl ?_; clear S a; intro a S
                refine s_assign S rfl rfl ?_; clear S a; intro a S
                refine c_end ?_
                refine wp_ret ?_
                obtain rfl := Option.some.inj h9
                exact b_ret1 (d := (.v (.bool (t5 == y6)))) S rfl rfl fun ok => ⟨rfl, ok, S.below⟩
              · refine s_gF S (b := (t4 == y5)) rfl rfl c4 rfl ?_; clear S a; intro a S
                refine s_gF S (b := (t4 == y5)) rfl rfl c4 rfl ?_; clear S a; intro a S
                refine s_gF S (b := (t4 == y5)) rfl rfl c4 rfl ?_; clear S a; intro a S
                refine s_gF S (b := (t4 == y5)) rfl rfl c4 rfl ?_; clear S a; intro a S
                refine s_gF S (b := (t4 == y5)) rfl rfl c4 rfl ?_; clear S a; intro a S
                refine s_pick S (b := false) (hc_of S rfl c4) rfl rfl ?_; clear S a; intro a S
                refine s_assign S rfl rfl ?_; clear S a; intro a S
                refine c_end ?_
                refine wp_ret ?_
                obtain rfl := Option.some.inj h8
                exact b_ret1 (d := (.v (.bool false))) S rfl rfl fun ok => ⟨rfl, ok, S.below⟩
            · refine s_gF S (b := (t3 == y3)) rfl rfl c3 rfl ?_; clear S a; intro a S
              refine s_gF S (b := (t3 == y3)) rfl rfl c3 rfl ?_; clear S a; intro a S
              refine s_gF S (b := (t3 == y3)) rfl rfl c3 rfl ?_; clear S a; intro a S
              refine s_gF S (b := (t3 == y3)) rfl rfl c3 rfl ?_; clear S a; intro a S
              refine s_gF S (b := (t3 == y3)) rfl rfl c3 rfl ?_; clear S a; intro a S
              refine s_gF S (b := (t3 == y3)) rfl rfl c3 rfl ?_; clear S a; intro a S
              refine s_pick S (b := false) (hc_of S rfl c3) rfl rfl ?_; clear S a; intro a S
              refine s_move S rfl rfl ?_; clear S a; intro a S
              refine s_gF S (b := false) rfl rfl rfl rfl ?_; clear S a; intro a S
              refine s_gF S (b := false) rfl rfl rfl rfl ?_; clear S a; intro a S
              refine s_gF S (b := false) rfl rfl rfl rfl ?_; clear S a; intro a S
              refine s_gF S (b := false) rfl rfl rfl rfl ?_; clear S a; intro a S
              refine s_gF S (b := false) rfl rfl rfl rfl ?_; clear S a; intro a S
              refine s_pick S (b := false) (hc_of S rfl rfl) rfl rfl ?_; clear S a; intro a S
              refine s_assign S rfl rfl ?_; clear S a; intro a S
              refine c_end ?_
              refine wp_ret ?_
              obtain rfl := Option.some.inj h6
              exact b_ret1 (d := (.v (.bool false))) S rfl rfl fun ok => ⟨rfl, ok, S.below⟩
          · refine s_gF S (b := (t2 == y4)) rfl rfl c2 rfl ?_; clear S a; intro a S
            refine s_gF S (b := (t2 == y4)) rfl rfl c2 rfl ?_; clear S a; intro a S
            refine s_gF S (b := (t2 == y4)) rfl rfl c2 rfl ?_; clear S a; intro a S
            refine s_gF S (b := (t2 == y4)) rfl rfl c2 rfl ?_; clear S a; intro a S
            refine s_pick S (b := false) (hc_of S rfl c2) rfl rfl ?_; clear S a; intro a S
            refine s_move S rfl rfl ?_; clear S a; intro a S
            refine s_gF S (b := false) rfl rfl rfl rfl ?_; clear S a; intro a S
            refine s_gF S (b := false) rfl rfl rfl rfl ?_; clear S a; intro a S
            refine s_gF S (b := false) rfl rfl rfl rfl ?_; clear S a; intro a S
            refine s_gF S (b := false) rfl rfl rfl rfl ?_; clear S a; intro a S
            refine s_gF S (b := false) rfl rfl rfl rfl ?_; clear S a; intro a S
            refine s_gF S (b := false) rfl rfl rfl rfl ?_; clear S a; intro a S
            refine s_pick S (b := false) (hc_of S rfl rfl) rfl rfl ?_; clear S a; intro a S
            refine s_move S rfl rfl ?_; clear S a; intro a S
            refine s_gF S (b := false) rfl rfl rfl rfl ?_; clear S a; intro a S
            refine s_gF S (b := false) rfl rfl rfl rfl ?_; clear S a; intro a S
            refine s_gF S (b := false) rfl rfl rfl rfl ?_; clear S a; intro a S
            refine s_gF S (b := false) rfl rfl rfl rfl ?_; clear S a; intro a S
            refine s_gF S (b := false) rfl rfl rfl rfl ?_; clear S a; intro a S
            refine s_pick S (b := false) (hc_of S rfl rfl) rfl rfl ?_; clear S a; intro a S
            refine s_assign S rfl rfl ?_; clear S a; intro a S
            refine c_end ?_
            refine wp_ret ?_
            obtain rfl := Option.some.inj h4
            exact b_ret1 (d := (.v (.bool false))) S rfl rfl fun ok => ⟨rfl, ok, S.below⟩
        · refine s_gF S (b := t1) rfl rfl c1 rfl ?_; clear S a; intro a S
          refine s_gF S (b := t1) rfl rfl c1 rfl ?_; clear S a; intro a S
          refine s_gF S (b := t1) rfl rfl c1 rfl ?_; clear S a; intro a S
          refine s_gF S (b := t1) rfl rfl c1 rfl ?_; clear S a; intro a S
          refine s_pick S (b := false) (hc_of S rfl c1) rfl rfl ?_; clear S a; intro a S
          refine s_move S rfl rfl ?_; clear S a; intro a S
          refine s_gF S (b := false) rfl rfl rfl rfl ?_; clear S a; intro a S
          refine s_gF S (b := false) rfl rfl rfl rfl ?_; clear S a; intro a S
          refine s_gF S (b := false) rfl rfl rfl rfl ?_; clear S a; intro a S
          refine s_gF S (b := false) rfl rfl rfl rfl ?_; clear S a; intro a S
          refine s_pick S (b := false) (hc_of S rfl rfl) rfl rfl ?_; clear S a; intro a S
          refine s_move S rfl rfl ?_; clear S a; intro a S
          refine s_gF S (b := false) rfl rfl rfl rfl ?_; clear S a; intro a S
          refine s_gF S (b := false) rfl rfl rfl rfl ?_; clear S a; intro a S
          refine s_gF S (b := false) rfl rfl rfl rfl ?_; clear S a; intro a S
          refine s_gF S (b := false) rfl rfl rfl rfl ?_; clear S a; intro a S
          refine s_gF S (b := false) rfl rfl rfl rfl ?_; clear S a; intro a S
          refine s_gF S (b := false) rfl rfl rfl rfl ?_; clear S a; intro a S
          refine s_pick S (b := false) (hc_of S rfl rfl) rfl rfl ?_; clear S a; intro a S
          refine s_move S rfl rfl ?_; clear S a; intro a S
          refine s_gF S (b := false) rfl rfl rfl rfl ?_; clear S a; intro a S
          refine s_gF S (b := false) rfl rfl rfl rfl ?_; clear S a; intro a S
          refine s_gF S (b := false) rfl rfl rfl rfl ?_; clear S a; intro a S
          refine s_gF S (b := false) rfl rfl rfl rfl ?_; clear S a; intro a S
          refine s_gF S (b := false) rfl rfl rfl rfl ?_; clear S a; intro a S
          refine s_pick S (b := false) (hc_of S rfl rfl) rfl rfl ?_; clear S a; intro a S
          refine s_assign S rfl rfl ?_; clear S a; intro a S
          refine c_end ?_
          refine wp_ret ?_
          obtain rfl := Option.some.inj h2
          exact b_ret1 (d := (.v (.bool false))) S rfl rfl fun ok => ⟨rfl, ok, S.below⟩
      refine c_region ?_
      refine s_move S rfl rfl ?_; clear S a; intro a S
      refine c_end ?_
      rcases ite_of h0 with ⟨c5, h1⟩ | ⟨c5, h1⟩ <;> clear h0
      · refine c_condT S rfl c5 ?_
        refine c_region' ?_
        refine s_move S rfl rfl ?_; clear S a; intro a S
        refine s_bin S rfl rfl rfl rfl ?_; clear S a; intro a S
        refine s_assign S rfl rfl ?_; clear S a; intro a S
        refine c_end' ?_
        refine x_thenN ?_
        exact j3 (wr .u64 (y1 + 25000)) a w (S.sub ⟨rfl, rfl, rfl, rfl, rfl, rfl, rfl, trivial⟩ .nil) h1
      · refine c_condF S rfl c5 ?_
        refine wp_skip ?_
        refine x_thenN ?_
        exact j3 y1 a w (S.sub ⟨rfl, rfl, rfl, rfl, rfl, rfl, rfl, trivial⟩ .nil) h1
    refine c_region ?_
    refine s_move S rfl rfl ?_; clear S a; intro a S
    refine c_end ?_
    rcases ite_of h0 with ⟨c6, h1⟩ | ⟨c6, h1⟩ <;> clear h0
    · refine c_condT S rfl c6 ?_
      refine c_region ?_
      refine s_move S rfl rfl ?_; clear S a; intro a S
      refine s_bin S rfl rfl rfl rfl ?_; clear S a; intro a S
      refine s_assign S rfl rfl ?_; clear S a; intro a S
      refine c_end ?_
      refine c_region ?_
      refine s_move S rfl rfl ?_; clear S a; intro a S
      refine c_end ?_
      rcases ite_of h1 with ⟨c7, h2⟩ | ⟨c7, h2⟩ <;> clear h1
      · refine c_condT S rfl c7 ?_
        refine c_region' ?_
        refine s_move S rfl rfl ?_; clear S a; intro a S
        refine s_bin S rfl rfl rfl rfl ?_; clear S a; intro a S
        refine s_assign S rfl rfl ?_; clear S a; intro a S
        refine c_end' ?_
        refine x_thenN ?_
        exact j2 (wr .u64 ((wr .u64 (y2 + 9000)) + 25000)) a w (S.sub ⟨rfl, rfl, rfl, rfl, rfl, rfl, rfl, trivial⟩ .nil) h2
      · refine c_condF S rfl c7 ?_
        refine wp_skip ?_
        refine x_thenN ?_
        exact j2 (wr .u64 (y2 + 9000)) a w (S.sub ⟨rfl, rfl, rfl, rfl, rfl, rfl, rfl, trivial⟩ .nil) h2
    · refine c_condF S rfl c6 ?_
      refine wp_skip ?_
      refine x_thenN ?_
      exact j2 y2 a w (S.sub ⟨rfl, rfl, rfl, rfl, rfl, rfl, rfl, trivial⟩ .nil) h1
  refine c_region ?_
  refine s_move S rfl rfl ?_; clear S a; intro a S
  refine c_end ?_
  rcases ite_of h0 with ⟨c8, h1⟩ | ⟨c8, h1⟩ <;> clear h0
  · refine c_condT S rfl c8 ?_
    refine c_region' ?_
    refine s_assign S rfl rfl ?_; clear S a; intro a S
    refine s_assign S rfl rfl ?_; clear S a; intro a S
    refine s_assign S rfl rfl ?_; clear S a; intro a S
    refine s_assign S rfl rfl ?_; clear S a; intro a S
    refine c_end' ?_
    refine x_thenN ?_
    exact j1 7600 2600 2100 2600 a w0 (S.sub ⟨rfl, rfl, rfl, rfl, rfl, rfl, rfl, trivial⟩ .nil) h1
  · refine c_condF S rfl c8 ?_
    refine wp_skip ?_
    refine x_thenN ?_
    exact j1 5000 100 100 100 a w0 (S.sub ⟨rfl, rfl, rfl, rfl, rfl, rfl, rfl, trivial⟩ .nil) h1
end GW
