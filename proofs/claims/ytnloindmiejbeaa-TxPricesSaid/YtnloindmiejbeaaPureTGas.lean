/-
  What a transaction costs ahead of all.
-/
import Derived.Test.YtnloindmiejbeaaG0
import Derived.Test.YtnloindmiejbeaaGWPlain
set_option linter.unusedVariables false
set_option linter.unusedSimpArgs false
set_option maxRecDepth 100000
namespace GW
open Go Go.RowKit
theorem either_eq (c : Bool) (a b : Int) : gas_either.f c a b = some (if c = true then a else b) := by
  cases c <;> rfl
/-- What the bytes from i on cost. -/
def bytesCost : List Int → Int
  | [] => 0
  | b :: r => (if b = 0 then 4 else 16) + bytesCost r
theorem bytesCost_bd (l : List Int) : 0 ≤ bytesCost l ∧ bytesCost l ≤ 16 * l.length := by
  induction l with
  | nil => simp [bytesCost]
  | cons b r ih => simp only [bytesCost, List.length_cons]; split <;> omega
theorem drop_rd (l : List Int) (i : Nat) (h : i < l.length) : l.drop i = rd l (i : Int) :: l.drop (i + 1) := by
  rw [List.drop_eq_getElem_cons h]
  simp [rd, List.getD_eq_getElem?_getD, List.getElem?_eq_getElem h]
theorem words_eq (n : Nat) (h : n ≤ 5000) : mem_Words.f (wr .u64 (n : Int)) = some (((n + 31) / 32 : Nat) : Int) ∧ smithyref10_Words.f (wr .u64 (n : Int)) = some (((n + 31) / 32 : Nat) : Int) := by
  have e0 : wr .u64 (n : Int) = (n : Int) := wr_u64_id (by omega) (by omega)
  rw [e0]
  unfold mem_Words.f mem_Words.j1 smithyref10_Words.f
  rw [tdiv_pos (by omega), tmod_pos (by omega), wr_u64_id (x := (n : Int) / 32) (by omega) (by omega), wr_u64_id (x := (n : Int) / 32 + 1) (by omega) (by omega)]
  by_cases h0 : (n : Int) % 32 = 0
  · have h1 : ¬ 0 < (n : Int) % 32 := by omega
    simp [h0]
    omega
  · have h1 : 0 < (n : Int) % 32 := by omega
    simp [h0, h1]
    omega
theorem impl_loop (x : List Int) (c : Bool) (hl : x.length ≤ 5000) (d : Nat) : ∀ (k i : Nat) (y : Int), i + d = x.length → d < k → 0 ≤ y → y ≤ 100000000000000 + 16 * i →
    gas_Intrinsic.l1 x c k i y = gas_Intrinsic.j1 x c (y + bytesCost (x.drop i)) := by
  induction d with
  | zero =>
    intro k i y hi hk h0 h1
    obtain ⟨k, rfl⟩ : ∃ m, k = m + 1 := ⟨k - 1, by omega⟩
    show gas_Intrinsic.b1 x c _ i y = _
    unfold gas_Intrinsic.b1
    rw [List.drop_of_length_le (by omega)]
    have h2 : ¬ ((i : Int) < (x.length : Int)) := by omega
    simp [h2, bytesCost]
  | succ d ih =>
    intro k i y hi hk h0 h1
    obtain ⟨k, rfl⟩ : ∃ m, k = m + 1 := ⟨k - 1, by omega⟩
    show gas_Intrinsic.b1 x c _ i y = _
    unfold gas_Intrinsic.b1
    have h2 : (i : Int) < (x.length : Int) := by omega
    have e1 : wr .i64 ((i : Int) + 1) = ((i + 1 : Nat) : Int) := by rw [wr_i64_id (by omega) (by omega)]; omega
    rw [drop_rd x i (by omega)]
    simp only [h2, decide_true, if_true]
    rw [if_pos ⟨by omega, trivial⟩, either_eq, Option.bind_some, e1]
    by_cases hb : rd x (i : Int) = 0
    · have e2 : wr .u64 (y + 4) = y + 4 := wr_u64_id (by omega) (by omega)
      simp only [hb, beq_self_eq_true, if_true, e2]
      rw [ih k (i + 1) _ (by omega) (by omega) (by omega) (by omega)]
      simp [bytesCost, Int.add_assoc]
    · have hb' : (rd x (i : Int) == 0) = false := by simpa using hb
      have e2 : wr .u64 (y + 16) = y + 16 := wr_u64_id (by omega) (by omega)
      simp only [hb', Bool.false_eq_true, if_false, e2]
      rw [ih k (i + 1) _ (by omega) (by omega) (by omega) (by omega)]
      simp [bytesCost, hb, Int.add_assoc]
theorem ref_loop (x : List Int) (c : Bool) (a s : Int) (hl : x.length ≤ 5000) (d : Nat) : ∀ (k i : Nat) (y : Int), i + d = x.length → d < k → 0 ≤ y → y ≤ 100000000000000 + 16 * i →
    smithyref12_Intrinsic.l1 x c a s k i y = smithyref12_Intrinsic.j1 x c a s (y + bytesCost (x.drop i)) := by
  induction d with
  | zero =>
    intro k i y hi hk h0 h1
    obtain ⟨k, rfl⟩ : ∃ m, k = m + 1 := ⟨k - 1, by omega⟩
    show smithyref12_Intrinsic.b1 x c a s _ i y = _
    unfold smithyref12_Intrinsic.b1
    rw [List.drop_of_length_le (by omega)]
    have h2 : ¬ ((i : Int) < (x.length : Int)) := by omega
    simp [h2, bytesCost]
  | succ d ih =>
    intro k i y hi hk h0 h1
    obtain ⟨k, rfl⟩ : ∃ m, k = m + 1 := ⟨k - 1, by omega⟩
    show smithyref12_Intrinsic.b1 x c a s _ i y = _
    unfold smithyref12_Intrinsic.b1
    have h2 : (i : Int) < (x.length : Int) := by omega
    have e1 : wr .i64 ((i : Int) + 1) = ((i + 1 : Nat) : Int) := by rw [wr_i64_id (by omega) (by omega)]; omega
    have e4 : wr .u64 (y + 4) = y + 4 := wr_u64_id (by omega) (by omega)
    have e16 : wr .u64 (y + 4 + 12) = y + 4 + 12 := wr_u64_id (by omega) (by omega)
    rw [drop_rd x i (by omega)]
    simp only [h2, decide_true, if_true]
    rw [if_pos ⟨by omega, trivial⟩, e4, e16]
    unfold smithyref12_Intrinsic.j3
    rw [e1]
    by_cases hb : rd x (i : Int) = 0
    · have hb' : (rd x (i : Int) != 0) = false := by simp [hb]
      simp only [hb', Bool.false_eq_true, if_false]
      rw [ih k (i + 1) _ (by omega) (by omega) (by omega) (by omega)]
      simp [bytesCost, hb, Int.add_assoc]
    · have hb' : (rd x (i : Int) != 0) = true := by simpa using hb
      simp only [hb', if_true]
      rw [ih k (i + 1) _ (by omega) (by omega) (by omega) (by omega)]
      simp [bytesCost, hb, Int.add_assoc]
/-- It costs the same, by the program and by the document. -/
theorem intrinsic_eq (k : Nat) (a0 : List Int) (a1 : Bool) (p q : Int) (h : a0.length ≤ 5000) (b2 : 0 ≤ p ∧ p ≤ 4294967296) (b3 : 0 ≤ q ∧ q ≤ 4294967296) (hk : a0.length < k) : ∃ v, gas_Intrinsic.f k a0 a1 p q = some v ∧ smithyref12_Intrinsic.f k a0 a1 p q = some v := by
  have hb := bytesCost_bd a0
  unfold gas_Intrinsic.f smithyref12_Intrinsic.f
  have e1 : wr .u64 (wr .u64 (21000 + wr .u64 (2400 * p)) + wr .u64 (1900 * q)) = 21000 + 2400 * p + 1900 * q := by
    rw [wr_u64_id (x := 2400 * p) (by omega) (by omega), wr_u64_id (x := 21000 + 2400 * p) (by omega) (by omega), wr_u64_id (x := 1900 * q) (by omega) (by omega), wr_u64_id (by omega) (by omega)]
  rw [e1]
  have i1 := impl_loop a0 a1 (by omega) a0.length k 0 (21000 + 2400 * p + 1900 * q) (by omega) (by omega) (by omega) (by omega)
  have i2 := ref_loop a0 a1 p q (by omega) a0.length k 0 21000 (by omega) (by omega) (by omega) (by omega)
  simp only [Int.natCast_zero, List.drop_zero] at i1 i2
  rw [i1, i2]
  obtain ⟨u1, u2⟩ := words_eq a0.length (by omega)
  unfold gas_Intrinsic.j1 smithyref12_Intrinsic.j1 gas_Intrinsic.j2 smithyref12_Intrinsic.j2
  rw [u1, u2]
  generalize bytesCost a0 = s at *
  have hw : (((a0.length + 31) / 32 : Nat) : Int) ≤ 200 := by omega
  have hw0 : (0 : Int) ≤ (((a0.length + 31) / 32 : Nat) : Int) := by omega
  generalize (((a0.length + 31) / 32 : Nat) : Int) = w at *
  simp only [Option.bind_some]
  cases a1
  · simp only [Bool.false_eq_true, if_false, Option.bind_some]
    rw [wr_u64_id (x := p * 2400) (by omega) (by omega), wr_u64_id (x := q * 1900) (by omega) (by omega), wr_u64_id (x := 21000 + s + p * 2400) (by omega) (by omega), wr_u64_id (by omega) (by omega)]
    exact ⟨_, rfl, congrArg some (by omega)⟩
  · simp only [if_true, Option.bind_some]
    rw [wr_u64_id (x := p * 2400) (by omega) (by omega), wr_u64_id (x := q * 1900) (by omega) (by omega), wr_u64_id (x := 2 * w) (by omega) (by omega), wr_u64_id (x := 32000 + 2 * w) (by omega) (by omega), wr_u64_id (x := 21000 + s + 32000) (by omega) (by omega), wr_u64_id (x := 21000 + s + 32000 + 2 * w) (by omega) (by omega), wr_u64_id (x := 21000 + s + 32000 + 2 * w + p * 2400) (by omega) (by omega), wr_u64_id (x := 21000 + 2400 * p + 1900 * q + s + (32000 + 2 * w)) (by omega) (by omega), wr_u64_id (by omega) (by omega)]
    exact ⟨_, rfl, congrArg some (by omega)⟩
end GW
