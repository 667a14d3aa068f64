import Derived.Test.YtldbgghcailgfaaPureWBase
set_option linter.unusedVariables false
set_option linter.unusedSimpArgs false
set_option maxRecDepth 100000
namespace GW
open Go Go.RowKit
theorem dv_split (B : Int) : ∀ (a : List Int) (i : Nat), dv B a = dv B (a.take i) + a.getD i 0 * B ^ i + B ^ (i + 1) * dv B (a.drop (i + 1))
  | [], i => by simp [dv]
  | x :: r, 0 => by simp [dv, Int.pow_succ]
  | x :: r, i + 1 => by
    have := dv_split B r i
    simp only [List.take_succ_cons, dv, List.getD_cons_succ, List.drop_succ_cons, Int.pow_succ] at this ⊢
    rw [this]
    grind
theorem dv_zero (B : Int) : ∀ (a : List Int), (∀ j, a.getD j 0 = 0) → dv B a = 0
  | [], _ => rfl
  | x :: r, h => by
    have h0 : x = 0 := h 0
    rw [dv, dv_zero B r (fun j => h (j + 1)), h0, Int.mul_zero, Int.add_zero]
theorem dv_ext (B : Int) : ∀ (a b : List Int), (∀ j, a.getD j 0 = b.getD j 0) → dv B a = dv B b
  | [], b, h => (dv_zero B b (fun j => (h j).symm.trans (by simp))).symm
  | x :: r, [], h => dv_zero B (x :: r) (fun j => (h j).trans (by simp))
  | x :: r, y :: s, h => by
    have h0 : x = y := h 0
    rw [dv, dv, h0, dv_ext B r s (fun j => h (j + 1))]
theorem Dig.take {B : Int} {a : List Int} (h : Dig B a) (i : Nat) : Dig B (a.take i) := fun y hy => h y (List.take_subset _ _ hy)
theorem Dig.drop {B : Int} {a : List Int} (h : Dig B a) (i : Nat) : Dig B (a.drop i) := fun y hy => h y (List.drop_subset _ _ hy)
theorem getD_drop (a : List Int) (i j : Nat) : (a.drop i).getD j 0 = a.getD (i + j) 0 := by
  rw [List.getD_eq_getElem?_getD, List.getD_eq_getElem?_getD, List.getElem?_drop]
theorem dv_at {B : Int} (hB : 0 < B) {a b : List Int} (ha : Dig B a) (hb : Dig B b) (i : Nat) (hi : ∀ j, i < j → a.getD j 0 = b.getD j 0) (h : a.getD i 0 < b.getD i 0) : dv B a < dv B b := by
  have e : dv B (a.drop (i + 1)) = dv B (b.drop (i + 1)) := dv_ext B _ _ (fun j => by rw [getD_drop, getD_drop, hi _ (by omega)])
  rw [dv_split B a i, dv_split B b i, e]
  obtain ⟨_, h1⟩ := dv_lt hB (ha.take i)
  obtain ⟨h2, _⟩ := dv_lt hB (hb.take i)
  have h3 : B ^ (a.take i).length ≤ B ^ i := by
    have : ∀ m n : Nat, m ≤ n → B ^ m ≤ B ^ n := fun m n hmn => by
      obtain ⟨d, rfl⟩ := Nat.exists_eq_add_of_le hmn
      rw [Int.pow_add]
      have := Int.pow_pos (n := B) (m := d) hB
      have h4 : B ^ m * 1 ≤ B ^ m * B ^ d := Int.mul_le_mul_of_nonneg_left (by omega) (Int.le_of_lt (Int.pow_pos hB))
      omega
    exact this _ _ (by rw [List.length_take]; omega)
  have h4 : (a.getD i 0 + 1) * B ^ i ≤ b.getD i 0 * B ^ i := Int.mul_le_mul_of_nonneg_right (by omega) (Int.le_of_lt (Int.pow_pos hB))
  rw [Int.add_mul, Int.one_mul] at h4
  omega
theorem of_lanesW (k : Nat) (x0 x1 x2 x3 : Int) : smithyref01_Of.f (k + 40) [x0, x1, x2, x3] = some [wr .i64 (Int.tmod (shr x0 0) 256), wr .i64 (Int.tmod (shr x0 8) 256), wr .i64 (Int.tmod (shr x0 16) 256), wr .i64 (Int.tmod (shr x0 24) 256), wr .i64 (Int.tmod (shr x0 32) 256), wr .i64 (Int.tmod (shr x0 40) 256), wr .i64 (Int.tmod (shr x0 48) 256), wr .i64 (Int.tmod (shr x0 56) 256), wr .i64 (Int.tmod (shr x1 0) 256), wr .i64 (Int.tmod (shr x1 8) 256), wr .i64 (Int.tmod (shr x1 16) 256), wr .i64 (Int.tmod (shr x1 24) 256), wr .i64 (Int.tmod (shr x1 32) 256), wr .i64 (Int.tmod (shr x1 40) 256), wr .i64 (Int.tmod (shr x1 48) 256), wr .i64 (Int.tmod (shr x1 56) 256), wr .i64 (Int.tmod (shr x2 0) 256), wr .i64 (Int.tmod (shr x2 8) 256), wr .i64 (Int.tmod (shr x2 16) 256), wr .i64 (Int.tmod (shr x2 24) 256), wr .i64 (Int.tmod (shr x2 32) 256), wr .i64 (Int.tmod (shr x2 40) 256), wr .i64 (Int.tmod (shr x2 48) 256), wr .i64 (Int.tmod (shr x2 56) 256), wr .i64 (Int.tmod (shr x3 0) 256), wr .i64 (Int.tmod (shr x3 8) 256), wr .i64 (Int.tmod (shr x3 16) 256), wr .i64 (Int.tmod (shr x3 24) 256), wr .i64 (Int.tmod (shr x3 32) 256), wr .i64 (Int.tmod (shr x3 40) 256), wr .i64 (Int.tmod (shr x3 48) 256), wr .i64 (Int.tmod (shr x3 56) 256)] := by kernel_rfl
theorem limb_dig (x : Int) (n : Nat) (h : 0 ≤ x) (h1 : x < 18446744073709551616) : wr .i64 (Int.tmod (shr x n) 256) = x / 2 ^ n % 256 := by
  unfold shr
  have hp : (0 : Int) < 2 ^ n := Int.pow_pos (by omega)
  rw [Int.fdiv_eq_ediv_of_nonneg _ (Int.le_of_lt hp)]
  have h2 : 0 ≤ x / 2 ^ n := Int.ediv_nonneg h (Int.le_of_lt hp)
  rw [tmod_pos h2, wr_i64_id (by omega) (by omega)]
theorem limb_dv (x : Int) (h : 0 ≤ x) (h1 : x < 18446744073709551616) (r : List Int) : dv 256 (x / 2 ^ 0 % 256 :: x / 2 ^ 8 % 256 :: x / 2 ^ 16 % 256 :: x / 2 ^ 24 % 256 :: x / 2 ^ 32 % 256 :: x / 2 ^ 40 % 256 :: x / 2 ^ 48 % 256 :: x / 2 ^ 56 % 256 :: r) = x + 18446744073709551616 * dv 256 r := by
  simp only [dv, Int.reducePow]
  generalize dv 256 r = y
  omega
theorem ofD_eq (k : Nat) {a : List Int} (ha : Wd a) : ∃ d, smithyref01_Of.f (k + 40) a = some d ∧ d.length = 32 ∧ Dig 256 d ∧ dv 256 d = wv a := by
  obtain ⟨a0, a1, a2, a3, rfl, h0, h1, h2, h3⟩ := ha.lanes
  refine ⟨_, of_lanesW k a0 a1 a2 a3, rfl, ?_, ?_⟩
  · intro y hy
    simp only [limb_dig a0 _ h0.1 h0.2, limb_dig a1 _ h1.1 h1.2, limb_dig a2 _ h2.1 h2.2, limb_dig a3 _ h3.1 h3.2, List.mem_cons, List.not_mem_nil, or_false] at hy
    rcases hy with rfl | rfl | rfl | rfl | rfl | rfl | rfl | rfl | rfl | rfl | rfl | rfl | rfl | rfl | rfl | rfl | rfl | rfl | rfl | rfl | rfl | rfl | rfl | rfl | rfl | rfl | rfl | rfl | rfl | rfl | rfl | rfl <;> omega
  · simp only [limb_dig a0 _ h0.1 h0.2, limb_dig a1 _ h1.1 h1.2, limb_dig a2 _ h2.1 h2.2, limb_dig a3 _ h3.1 h3.2]
    rw [limb_dv a0 h0.1 h0.2, limb_dv a1 h1.1 h1.2, limb_dv a2 h2.1 h2.2, limb_dv a3 h3.1 h3.2, wv_lanes]
    simp only [dv]
    omega
end GW
