/-
  What the law 'RlpDecodes' says of plain Lean values.
-/
import Derived.Test.YthkgelaoidbkdaaPureRlpSmall
import Derived.Test.YthkgelaoidbkdaaPureRlpSim
import Derived.Test.YthkgelaoidbkdaaPureFixed
set_option linter.unusedVariables false
namespace GW
open Go Go.RowKit
theorem smithylaw07_RlpDecodes_true (a0 : List Int) (w0 : Gd25 a0) : ∃ k : Nat, smithylaw07_RlpDecodes.f k a0 = some true := by
  refine ⟨20000, ?_⟩
  have hfx : smithylaw07_fixed.f 20000 = some true := fixed_k 19940
  unfold smithylaw07_RlpDecodes.f
  by_cases c : (4000 : Int) < (a0.length : Int)
  · rw [if_pos (by simpa using c), hfx]; rfl
  · rw [if_neg (by simpa using c), if_pos (by simp; omega), List.nil_append]
    have hu : ∀ b ∈ a0, 0 ≤ b ∧ b < 256 := fun b hb => inK_u8 (w0.1 b hb)
    have key : (∃ e : Int, e ≠ 0 ∧ rlp_Decode.f 20000 a0 = some ([], e) ∧ smithyref07_Decode.f 20000 a0 = some ([], e)) ∨ (∃ t : Fst, t.One ∧ t.Fit ∧ t.dep ≤ 64 ∧ a0 = t.enc ∧ rlp_Decode.f 20000 a0 = some (t.flat, 0) ∧ smithyref07_Decode.f 20000 a0 = some (t.flat, 0)) := by
      have s := sim a0 (by omega) hu a0.length 0 a0.length 0 20000 20000 [] (by omega) (by omega) (by omega) (by omega) (by omega) (by omega) (by simp)
      rw [List.drop_zero, Nat.zero_add] at s
      rcases s with ⟨e, r, m, he, A, B⟩ | ⟨t, j, t1, t2, t3, t4, t5, t6, t7, t8, A, B⟩
      · have A' : rlp_reader_item.f 20000 (a0, []) (a0.length : Int) 0 = some (e, r, m) := A
        have B' : smithyref07_read.f 20000 a0 0 (a0.length : Int) 0 = some ([], 0, e) := B
        refine Or.inl ⟨e, he, ?_, ?_⟩
        · unfold rlp_Decode.f
          rw [if_neg (by simp; omega), A', Option.bind_some, if_pos (by simpa using he)]
        · unfold smithyref07_Decode.f
          rw [if_neg (by simp; omega), B', Option.bind_some, if_pos (by simpa using he)]
      · have A' : rlp_reader_item.f 20000 (a0, []) (a0.length : Int) 0 = some (0, (a0.drop j, [] ++ t.flat)) := A
        have B' : smithyref07_read.f 20000 a0 0 (a0.length : Int) 0 = some (t.flat, (j : Int), 0) := B
        rw [List.nil_append] at A'
        by_cases cj : j < a0.length
        · refine Or.inl ⟨2, by omega, ?_, ?_⟩
          · unfold rlp_Decode.f
            rw [if_neg (by simp; omega), A', Option.bind_some, if_neg (by simp), if_pos (by simp; omega)]
          · unfold smithyref07_Decode.f
            rw [if_neg (by simp; omega), B', Option.bind_some, if_neg (by simp), if_pos (by simp; omega)]
        · have hd : a0.drop j = [] := List.drop_eq_nil_of_le (by omega)
          rw [List.drop_zero, hd, List.append_nil] at t4
          refine Or.inr ⟨t, t1, t2, by omega, t4, ?_, ?_⟩
          · unfold rlp_Decode.f
            rw [if_neg (by simp; omega), A', Option.bind_some, if_neg (by simp), if_neg (by simp [hd])]
          · unfold smithyref07_Decode.f
            rw [if_neg (by simp; omega), B', Option.bind_some, if_neg (by simp), if_neg (by simp; omega)]
    have hbs : ∀ l : List Int, (!((bstr l).toList == (bstr l).toList)) = false := by simp
    rcases key with ⟨e, he, A, B⟩ | ⟨t, t1, t2, t3, rfl, A, B⟩
    · rw [A, B, Option.bind_some, Option.bind_some, hfx, Option.bind_some, if_neg (by simp), same_self [] (by simp) 20000 (by simp), Option.bind_some, if_neg (by simp), if_neg (by simp), hbs]
      unfold smithylaw07_RlpDecodes.j1
      rw [if_neg (by simp), if_pos (by simpa using he)]
    · have hfl := flat_le t
      rw [A, B, Option.bind_some, Option.bind_some, hfx, Option.bind_some, if_neg (by simp), same_self t.flat (by omega) 20000 (by omega), Option.bind_some, if_neg (by simp), if_neg (by simp), hbs]
      unfold smithylaw07_RlpDecodes.j1
      rw [if_neg (by simp), if_neg (by simp), encode_tree t t1 20000 (by omega) (by omega) t2 (by omega), if_pos t3, Option.bind_some, if_pos (by simp)]
      simp
end GW
