/-
  What the law 'RlpEncodes' says of plain Lean values.
-/
import Derived.Test.YthkgelaoidbkdaaPureRlpSmall
import Derived.Test.YthkgelaoidbkdaaPureFixed
set_option linter.unusedVariables false
namespace GW
open Go Go.RowKit
theorem smithylaw07_RlpEncodes_true (a0 : List (Bool × (List Int) × Int)) (w0 : Gd29 a0) : ∃ k : Nat, smithylaw07_RlpEncodes.f k a0 = some true := by
  refine ⟨10000, ?_⟩
  have hfx : smithylaw07_fixed.f 10000 = some true := fixed_k 9940
  unfold smithylaw07_RlpEncodes.f
  rcases great_eq a0 10000 (by omega) with h | ⟨h, hw⟩
  · rw [h, Option.bind_some, if_pos rfl, hfx]; rfl
  · have hl := wt_len a0
    rw [h, Option.bind_some, if_neg (by simp)]
    by_cases ht : ∃ t : Fst, t.One ∧ a0 = t.flat
    · obtain ⟨t, t1, rfl⟩ := ht
      have he := enc_wt t
      have hf := fit_mem t fun nd hn => by have := wt_mem t.flat nd hn; omega
      have hu : t.U8 := u8_mem t fun nd hn x hx => inK_u8 ((w0.1 nd hn).2.1.1 x hx)
      rw [encode_tree t t1 10000 (by omega) (by omega) hf (by omega), refEncode_tree t t1 10000 (by omega) (by omega) hf (by omega), Option.bind_some, Option.bind_some, hfx, Option.bind_some, if_neg (by simp), if_neg (by simp)]
      have : ∀ e : Int, (e != e) = false := by simp
      rw [this]
      unfold smithylaw07_RlpEncodes.j1
      rw [if_neg (by simp)]
      by_cases c : t.dep ≤ 64
      · rw [if_pos c, if_neg (by simp), decode_tree t t1 10000 (by omega) hu (by omega) c, Option.bind_some, if_pos (by simp), same_self t.flat (by omega) 10000 (by omega)]
        rfl
      · rw [if_neg c, if_pos (by simp)]
    · obtain ⟨h1, h2⟩ := encode_bad a0 (by omega) ht 10000 (by omega)
      rw [h1, h2, Option.bind_some, Option.bind_some, hfx, Option.bind_some, if_neg (by simp), if_neg (by simp)]
      unfold smithylaw07_RlpEncodes.j1
      rw [if_neg (by simp), if_pos (by simp)]
end GW
