/-
  What the law 'RlpNests' says of plain Lean values.
-/
import Derived.Test.YthkgelaoidbkdaaPureRlpSmall
import Derived.Test.YthkgelaoidbkdaaPureFixed
set_option linter.unusedVariables false
namespace GW
open Go Go.RowKit
def nest (b : List Int) : Nat → Fst
  | 0 => .leaf b .nil
  | n + 1 => .node (nest b n) .nil
def lists : Nat → List Nd
  | 0 => []
  | n + 1 => (true, [], ((n + 1 : Nat) : Int)) :: lists n
theorem lists_len (n : Nat) : (lists n).length = n := by
  induction n with
  | zero => rfl
  | succ n ih => simp [lists, ih]
theorem nest_flat (b : List Int) (n : Nat) : (nest b n).flat = lists n ++ [(false, b, 0)] := by
  induction n with
  | zero => rfl
  | succ n ih => simp [nest, Fst.flat, lists, ih, lists_len]
theorem nest_one (b : List Int) (n : Nat) : (nest b n).One := by
  cases n <;> trivial
theorem nest_dep (b : List Int) (n : Nat) : (nest b n).dep = n := by
  induction n with
  | zero => rfl
  | succ n ih => simp [nest, Fst.dep, ih]; omega
theorem nest_fit (b : List Int) (hb : b.length < 16777216) (n : Nat) : (nest b n).Fit := by
  induction n with
  | zero => exact ⟨hb, trivial⟩
  | succ n ih => exact ⟨ih, trivial⟩
theorem nest_u8 (b : List Int) (hb : ∀ x ∈ b, 0 ≤ x ∧ x < 256) (n : Nat) : (nest b n).U8 := by
  induction n with
  | zero => exact ⟨hb, trivial⟩
  | succ n ih => exact ⟨ih, trivial⟩
theorem wt_lists (n : Nat) : wt (lists n) = n := by
  induction n with
  | zero => rfl
  | succ n ih => simp only [lists, wt, ih, List.length_nil]; omega
theorem nests_loop (k : Nat) (x1 : Int) (x2 : List Int) (n : Nat) (hn : Int.tmod (wr .i64 x1) 70 = (n : Int)) (hn70 : n < 70) : ∀ (d q i : Nat) (acc : List Nd), d < q → i + d = n → acc.length = i → smithylaw07_RlpNests.l1 k x1 x2 q acc (i : Int) = smithylaw07_RlpNests.j1 k x1 x2 (acc ++ lists d) := by
  intro d
  induction d with
  | zero =>
    intro q i acc hq hi ha
    obtain ⟨q, rfl⟩ : ∃ m, q = m + 1 := ⟨q - 1, by omega⟩
    show smithylaw07_RlpNests.b1 k x1 x2 _ _ _ = _
    unfold smithylaw07_RlpNests.b1
    simp only [hn]
    rw [if_neg (by simp; omega)]
    simp [lists]
  | succ d ih =>
    intro q i acc hq hi ha
    obtain ⟨q, rfl⟩ : ∃ m, q = m + 1 := ⟨q - 1, by omega⟩
    show smithylaw07_RlpNests.b1 k x1 x2 _ _ _ = _
    unfold smithylaw07_RlpNests.b1
    simp only [hn]
    rw [if_pos (by simp; omega), if_pos (by simp; omega), wr_i64_id (x := (n : Int) - (i : Int)) (by omega) (by omega), wr_i64_id (x := (i : Int) + 1) (by omega) (by omega), show (n : Int) - (i : Int) = ((d + 1 : Nat) : Int) by omega]
    refine (ih q (i + 1) _ (by omega) (by omega) (by simp; omega)).trans ?_
    simp [lists]
theorem smithylaw07_RlpNests_true (a0 : Int) (a1 : List Int) (w0 : inK .u8 a0) (w1 : Gd25 a1) : ∃ k : Nat, smithylaw07_RlpNests.f k a0 a1 = some true := by
  refine ⟨10000, ?_⟩
  have hfx : smithylaw07_fixed.f 10000 = some true := fixed_k 9940
  have g0 := inK_u8 w0
  obtain ⟨n, hn, hn70⟩ : ∃ n : Nat, Int.tmod (wr .i64 a0) 70 = (n : Int) ∧ n < 70 := by
    rw [wr_i64_id (by omega) (by omega), tmod_pos (by omega)]
    exact ⟨(a0 % 70).toNat, by omega, by omega⟩
  unfold smithylaw07_RlpNests.f
  by_cases c : (300 : Int) < (a1.length : Int)
  · rw [if_pos (by simpa using c), hfx]; rfl
  · have hl := nests_loop 10000 a0 a1 n hn hn70 n 10000 0 [] (by omega) (by omega) rfl
    rw [show ((0 : Nat) : Int) = 0 from rfl, List.nil_append] at hl
    rw [if_neg (by simpa using c), hl]
    have hwt : wt (nest a1 n).flat = n + 1 + a1.length := by rw [nest_flat, wt_app, wt_lists]; simp only [wt]; omega
    have hen := enc_wt (nest a1 n)
    have hfl : (nest a1 n).flat.length = n + 1 := by rw [nest_flat, List.length_append, lists_len]; rfl
    unfold smithylaw07_RlpNests.j1
    have hss := same_self (nest a1 n).flat (by omega) 10000 (by omega)
    rw [if_pos (by rw [lists_len]; simp; omega), ← nest_flat, encode_tree _ (nest_one a1 n) 10000 (by omega) (by omega) (nest_fit a1 (by omega) n) (by omega), nest_dep, Option.bind_some, hn, hfx]
    by_cases c2 : n ≤ 64
    · rw [if_neg (by simp; omega), if_pos c2, decode_tree _ (nest_one a1 n) 10000 (by omega) (nest_u8 a1 (fun x hx => inK_u8 (w1.1 x hx)) n) (by omega) (by rw [nest_dep]; exact c2), Option.bind_some, Option.bind_some, if_pos rfl, if_pos (by simp), if_pos (by simp), hss]
      rfl
    · rw [if_pos (by simp; omega), if_neg c2, Option.bind_some, if_pos rfl, if_pos (by simp)]
      rfl
end GW
