import Derived.Test.YtoiopiiljblpjaaDoorPureRoundF
import Derived.Laws.Bits64
import Derived.Laws.Bits64b
set_option linter.unusedVariables false
set_option linter.unusedSimpArgs false
set_option maxRecDepth 100000
namespace GW
variable {kF : Nat}
open Go Go.RowKit
def inU (x : Int) : Prop := 0 ≤ x ∧ x < 18446744073709551616
theorem inU.nat {x : Int} (h : inU x) : ∃ n : Nat, x = (n : Int) ∧ n < 18446744073709551616 := by
  obtain ⟨n, rfl⟩ := Int.eq_ofNat_of_zero_le h.1
  exact ⟨n, rfl, by have := h.2; omega⟩
theorem inU_bits (op : BinOp) (a b : Int) : inU (bits op .u64 a b) := by
  have h : bits op .u64 a b = IntKind.u64.wrap (bits op .u64 a b) ∨ True := .inr trivial
  have := wr_u64 (bits op .u64 a b)
  have hw : ∃ z : Int, bits op .u64 a b = z % 18446744073709551616 := by
    unfold bits
    exact ⟨_, by simp [IntKind.wrap, IntKind.signed, IntKind.bits]; rfl⟩
  obtain ⟨z, hz⟩ := hw
  rw [hz]
  constructor <;> omega
theorem xor_assoc3 {a b c : Int} (ha : inU a) (hb : inU b) (hc : inU c) : bits .xor .u64 (bits .xor .u64 a b) c = bits .xor .u64 a (bits .xor .u64 b c) := by
  obtain ⟨a, rfl, ha'⟩ := ha.nat
  obtain ⟨b, rfl, hb'⟩ := hb.nat
  obtain ⟨c, rfl, hc'⟩ := hc.nat
  have h1 : a ^^^ b < 18446744073709551616 := Nat.xor_lt_two_pow (n := 64) ha' hb'
  have h2 : b ^^^ c < 18446744073709551616 := Nat.xor_lt_two_pow (n := 64) hb' hc'
  rw [bits_xor_u64_nat a b ha' hb', bits_xor_u64_nat b c hb' hc', bits_xor_u64_nat _ _ h1 hc', bits_xor_u64_nat _ _ ha' h2, Nat.xor_assoc]
theorem xor_zero_ {a : Int} (ha : inU a) : bits .xor .u64 0 a = a := by
  obtain ⟨a, rfl, ha'⟩ := ha.nat
  have := bits_xor_u64_nat 0 a (by omega) ha'
  simpa using this
theorem inU_rotl (x : Int) (n : Nat) : inU (rotl x n) := inU_bits _ _ _
theorem assoc_rot {a p q c : Int} {n : Nat} (ha : inU a) : bits .xor .u64 (bits .xor .u64 a (bits .xor .u64 p q)) (rotl c n) = bits .xor .u64 a (bits .xor .u64 (bits .xor .u64 p q) (rotl c n)) :=
  xor_assoc3 ha (inU_bits _ _ _) (inU_rotl _ _)
theorem bnot_eq {b : Int} (hb : inU b) : bnot .u64 b = wr .u64 (18446744073709551615 - b) := by
  obtain ⟨b, rfl, hb'⟩ := hb.nat
  have h1 : bnot .u64 (b : Int) = ((18446744073709551615 ^^^ b : Nat) : Int) := by
    unfold bnot
    have : (if IntKind.u64.signed = true then (-1 : Int) else IntKind.u64.max) = ((18446744073709551615 : Nat) : Int) := by rfl
    rw [this, bits_xor_u64_nat _ b (by omega) hb']
  have h2 : 18446744073709551615 ^^^ b = 18446744073709551615 - b := by
    have : (18446744073709551615 : Nat) = 2 ^ 64 - 1 := by rfl
    rw [this]
    apply Nat.eq_of_testBit_eq
    intro i
    rw [Nat.testBit_xor, Nat.testBit_two_pow_sub_one]
    rw [show 2 ^ 64 - 1 - b = 2 ^ 64 - (b + 1) by omega, Nat.testBit_two_pow_sub_succ (by omega)]
    by_cases hi : i < 64
    · simp [hi]
    · have : b.testBit i = false := Nat.testBit_lt_two_pow (Nat.lt_of_lt_of_le hb' (Nat.pow_le_pow_right (n := 2) (by omega) (by omega : 64 ≤ i)))
      simp [hi, this]
  rw [h1, h2, wr_u64_id (by omega) (by omega)]
  omega
theorem bnot_rot (x : Int) (n : Nat) : bnot .u64 (rotl x n) = wr .u64 (18446744073709551615 - rotl x n) := bnot_eq (inU_rotl x n)
theorem bnot_xor (x y : Int) : bnot .u64 (bits .xor .u64 x y) = wr .u64 (18446744073709551615 - bits .xor .u64 x y) := bnot_eq (inU_bits _ x y)
theorem rounds_lanes (s0 s1 s2 s3 s4 s5 s6 s7 s8 s9 s10 s11 s12 s13 s14 s15 s16 s17 s18 s19 s20 s21 s22 s23 s24 kk : Int) (h0 : inU s0) (h1 : inU s1) (h2 : inU s2) (h3 : inU s3) (h4 : inU s4) (h5 : inU s5) (h6 : inU s6) (h7 : inU s7) (h8 : inU s8) (h9 : inU s9) (h10 : inU s10) (h11 : inU s11) (h12 : inU s12) (h13 : inU s13) (h14 : inU s14) (h15 : inU s15) (h16 : inU s16) (h17 : inU s17) (h18 : inU s18) (h19 : inU s19) (h20 : inU s20) (h21 : inU s21) (h22 : inU s22) (h23 : inU s23) (h24 : inU s24) : ∃ t z : List Int, keccak_round.f (kF + 200) [s0, s1, s2, s3, s4, s5, s6, s7, s8, s9, s10, s11, s12, s13, s14, s15, s16, s17, s18, s19, s20, s21, s22, s23, s24] = some t ∧ t.set (Int.toNat 0) (bits .xor .u64 (rd t 0) kk) = z ∧ smithyref05_Round.f (kF + 200) [s0, s1, s2, s3, s4, s5, s6, s7, s8, s9, s10, s11, s12, s13, s14, s15, s16, s17, s18, s19, s20, s21, s22, s23, s24] kk = some z ∧ z.length = 25 ∧ ∀ y ∈ z, inU y := by
  refine ⟨_, _, round_lanes s0 s1 s2 s3 s4 s5 s6 s7 s8 s9 s10 s11 s12 s13 s14 s15 s16 s17 s18 s19 s20 s21 s22 s23 s24, rfl, ?_, rfl, ?_⟩
  · rw [Round_lanes]
    simp only [xor_zero_ h0, xor_zero_ h1, xor_zero_ h2, xor_zero_ h3, xor_zero_ h4]
    simp only [assoc_rot h0, assoc_rot h1, assoc_rot h2, assoc_rot h3, assoc_rot h4, assoc_rot h5, assoc_rot h6, assoc_rot h7, assoc_rot h8, assoc_rot h9, assoc_rot h10, assoc_rot h11, assoc_rot h12, assoc_rot h13, assoc_rot h14, assoc_rot h15, assoc_rot h16, assoc_rot h17, assoc_rot h18, assoc_rot h19, assoc_rot h20, assoc_rot h21, assoc_rot h22, assoc_rot h23, assoc_rot h24]
    simp only [bnot_rot, bnot_xor]
    rfl
  · intro y hy
    have e : (Int.toNat 0) = 0 := rfl
    simp only [e, List.set_cons_zero, List.mem_cons, List.not_mem_nil, or_false] at hy
    rcases hy with rfl | rfl | rfl | rfl | rfl | rfl | rfl | rfl | rfl | rfl | rfl | rfl | rfl | rfl | rfl | rfl | rfl | rfl | rfl | rfl | rfl | rfl | rfl | rfl | rfl <;> exact inU_bits _ _ _
theorem rounds (y : List Int) (kk : Int) (hl : y.length = 25) (hu : ∀ x ∈ y, inU x) : ∃ t z : List Int, keccak_round.f (kF + 200) y = some t ∧ t.set (Int.toNat 0) (bits .xor .u64 (rd t 0) kk) = z ∧ smithyref05_Round.f (kF + 200) y kk = some z ∧ z.length = 25 ∧ ∀ x ∈ z, inU x := by
  match y, hl with
  | [s0, s1, s2, s3, s4, s5, s6, s7, s8, s9, s10, s11, s12, s13, s14, s15, s16, s17, s18, s19, s20, s21, s22, s23, s24], _ =>
    exact rounds_lanes s0 s1 s2 s3 s4 s5 s6 s7 s8 s9 s10 s11 s12 s13 s14 s15 s16 s17 s18 s19 s20 s21 s22 s23 s24 kk (hu _ (by simp)) (hu _ (by simp)) (hu _ (by simp)) (hu _ (by simp)) (hu _ (by simp)) (hu _ (by simp)) (hu _ (by simp)) (hu _ (by simp)) (hu _ (by simp)) (hu _ (by simp)) (hu _ (by simp)) (hu _ (by simp)) (hu _ (by simp)) (hu _ (by simp)) (hu _ (by simp)) (hu _ (by simp)) (hu _ (by simp)) (hu _ (by simp)) (hu _ (by simp)) (hu _ (by simp)) (hu _ (by simp)) (hu _ (by simp)) (hu _ (by simp)) (hu _ (by simp)) (hu _ (by simp))
theorem constants_eq : smithyref05_Constants.f (kF + 200) = some tbl_keccak_constants := by kernel_rfl
theorem turns_loop (d : Nat) : ∀ (i k : Nat) (y : List Int), i + d = 24 → d < k → y.length = 25 → (∀ x ∈ y, inU x) → ∃ z : List Int, keccak_Turn.l1 (kF + 200) k (i : Int) y = some z ∧ smithyref05_Turn.l1 (kF + 200) tbl_keccak_constants k (i : Int) y = some z ∧ z.length = 25 ∧ ∀ x ∈ z, inU x := by
  induction d with
  | zero =>
    intro i k y hi hk hl hu
    obtain ⟨k, rfl⟩ : ∃ q, k = q + 1 := ⟨k - 1, by omega⟩
    refine ⟨y, ?_, ?_, hl, hu⟩
    · show keccak_Turn.b1 (kF + 200) _ _ _ = _
      unfold keccak_Turn.b1 keccak_Turn.j1
      rw [if_neg (by simp; omega)]
    · show smithyref05_Turn.b1 (kF + 200) _ _ _ _ = _
      unfold smithyref05_Turn.b1 smithyref05_Turn.j1
      rw [if_neg (by simp; omega)]
  | succ d ih =>
    intro i k y hi hk hl hu
    obtain ⟨k, rfl⟩ : ∃ q, k = q + 1 := ⟨k - 1, by omega⟩
    have e2 : wr .i64 ((i : Int) + 1) = ((i + 1 : Nat) : Int) := by rw [wr_i64_id (by omega) (by omega)]; omega
    obtain ⟨t, z, r1, r2, r3, r4, r5⟩ := rounds y (rd tbl_keccak_constants i) hl hu
    obtain ⟨z', g1, g2, g3⟩ := ih (i + 1) k z (by omega) (by omega) r4 r5
    refine ⟨z', ?_, ?_, g3⟩
    · show keccak_Turn.b1 (kF + 200) _ _ _ = _
      unfold keccak_Turn.b1
      rw [if_pos (by simp; omega), if_pos ⟨by omega, by omega⟩, r1, Option.bind_some, r2, e2, g1]
    · show smithyref05_Turn.b1 (kF + 200) _ _ _ _ = _
      unfold smithyref05_Turn.b1
      rw [if_pos (by simp; omega), if_pos ⟨by omega, by omega⟩, r3, Option.bind_some, e2, g2]
theorem turns_eq (y : List Int) (hl : y.length = 25) (hu : ∀ x ∈ y, inU x) : ∃ z : List Int, keccak_Turn.f (kF + 200) y = some z ∧ smithyref05_Turn.f (kF + 200) y = some z ∧ z.length = 25 ∧ ∀ x ∈ z, inU x := by
  obtain ⟨z, h1, h2, h3⟩ := turns_loop 24 0 (kF + 200) y (by omega) (by omega) hl hu
  refine ⟨z, h1, ?_, h3⟩
  unfold smithyref05_Turn.f
  rw [constants_eq, Option.bind_some]
  exact h2
end GW
