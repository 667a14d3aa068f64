/-
  32 bytes as a word: the program's way and the document's.
-/
import Derived.Test.YtomjijlopdcojaaDoorG0
import Derived.Test.YtomjijlopdcojaaDoorGWPlain
import Derived.Laws.Bits64b
set_option linter.unusedVariables false
set_option linter.unusedSimpArgs false
set_option maxRecDepth 100000
namespace GW
open Go Go.RowKit
theorem from_lanes (h0 h1 h2 h3 h4 h5 h6 h7 h8 h9 h10 h11 h12 h13 h14 h15 h16 h17 h18 h19 h20 h21 h22 h23 h24 h25 h26 h27 h28 h29 h30 h31 : Int) : word_From.f 4000 [h0, h1, h2, h3, h4, h5, h6, h7, h8, h9, h10, h11, h12, h13, h14, h15, h16, h17, h18, h19, h20, h21, h22, h23, h24, h25, h26, h27, h28, h29, h30, h31] = some [(bits .or .u64 (bits .or .u64 (bits .or .u64 (bits .or .u64 (bits .or .u64 (bits .or .u64 (bits .or .u64 (bits .or .u64 0 (shl .u64 (wr .u64 h31) 0)) (shl .u64 (wr .u64 h30) 8)) (shl .u64 (wr .u64 h29) 16)) (shl .u64 (wr .u64 h28) 24)) (shl .u64 (wr .u64 h27) 32)) (shl .u64 (wr .u64 h26) 40)) (shl .u64 (wr .u64 h25) 48)) (shl .u64 (wr .u64 h24) 56)), (bits .or .u64 (bits .or .u64 (bits .or .u64 (bits .or .u64 (bits .or .u64 (bits .or .u64 (bits .or .u64 (bits .or .u64 0 (shl .u64 (wr .u64 h23) 0)) (shl .u64 (wr .u64 h22) 8)) (shl .u64 (wr .u64 h21) 16)) (shl .u64 (wr .u64 h20) 24)) (shl .u64 (wr .u64 h19) 32)) (shl .u64 (wr .u64 h18) 40)) (shl .u64 (wr .u64 h17) 48)) (shl .u64 (wr .u64 h16) 56)), (bits .or .u64 (bits .or .u64 (bits .or .u64 (bits .or .u64 (bits .or .u64 (bits .or .u64 (bits .or .u64 (bits .or .u64 0 (shl .u64 (wr .u64 h15) 0)) (shl .u64 (wr .u64 h14) 8)) (shl .u64 (wr .u64 h13) 16)) (shl .u64 (wr .u64 h12) 24)) (shl .u64 (wr .u64 h11) 32)) (shl .u64 (wr .u64 h10) 40)) (shl .u64 (wr .u64 h9) 48)) (shl .u64 (wr .u64 h8) 56)), (bits .or .u64 (bits .or .u64 (bits .or .u64 (bits .or .u64 (bits .or .u64 (bits .or .u64 (bits .or .u64 (bits .or .u64 0 (shl .u64 (wr .u64 h7) 0)) (shl .u64 (wr .u64 h6) 8)) (shl .u64 (wr .u64 h5) 16)) (shl .u64 (wr .u64 h4) 24)) (shl .u64 (wr .u64 h3) 32)) (shl .u64 (wr .u64 h2) 40)) (shl .u64 (wr .u64 h1) 48)) (shl .u64 (wr .u64 h0) 56))] := by kernel_rfl
theorem dfrom_lanes (h0 h1 h2 h3 h4 h5 h6 h7 h8 h9 h10 h11 h12 h13 h14 h15 h16 h17 h18 h19 h20 h21 h22 h23 h24 h25 h26 h27 h28 h29 h30 h31 : Int) : smithyref01_From.f 4000 [h0, h1, h2, h3, h4, h5, h6, h7, h8, h9, h10, h11, h12, h13, h14, h15, h16, h17, h18, h19, h20, h21, h22, h23, h24, h25, h26, h27, h28, h29, h30, h31] = some [wr .i64 h31, wr .i64 h30, wr .i64 h29, wr .i64 h28, wr .i64 h27, wr .i64 h26, wr .i64 h25, wr .i64 h24, wr .i64 h23, wr .i64 h22, wr .i64 h21, wr .i64 h20, wr .i64 h19, wr .i64 h18, wr .i64 h17, wr .i64 h16, wr .i64 h15, wr .i64 h14, wr .i64 h13, wr .i64 h12, wr .i64 h11, wr .i64 h10, wr .i64 h9, wr .i64 h8, wr .i64 h7, wr .i64 h6, wr .i64 h5, wr .i64 h4, wr .i64 h3, wr .i64 h2, wr .i64 h1, wr .i64 h0] := by kernel_rfl
theorem dword_lanes (d0 d1 d2 d3 d4 d5 d6 d7 d8 d9 d10 d11 d12 d13 d14 d15 d16 d17 d18 d19 d20 d21 d22 d23 d24 d25 d26 d27 d28 d29 d30 d31 : Int) : smithyref01_D_Word.f 4000 [d0, d1, d2, d3, d4, d5, d6, d7, d8, d9, d10, d11, d12, d13, d14, d15, d16, d17, d18, d19, d20, d21, d22, d23, d24, d25, d26, d27, d28, d29, d30, d31] = some [(wr .u64 ((wr .u64 ((wr .u64 ((wr .u64 ((wr .u64 ((wr .u64 ((wr .u64 ((wr .u64 ((wr .u64 ((wr .u64 ((wr .u64 ((wr .u64 ((wr .u64 ((wr .u64 ((wr .u64 ((wr .u64 (0 * 256)) + (wr .u64 d7))) * 256)) + (wr .u64 d6))) * 256)) + (wr .u64 d5))) * 256)) + (wr .u64 d4))) * 256)) + (wr .u64 d3))) * 256)) + (wr .u64 d2))) * 256)) + (wr .u64 d1))) * 256)) + (wr .u64 d0))), (wr .u64 ((wr .u64 ((wr .u64 ((wr .u64 ((wr .u64 ((wr .u64 ((wr .u64 ((wr .u64 ((wr .u64 ((wr .u64 ((wr .u64 ((wr .u64 ((wr .u64 ((wr .u64 ((wr .u64 ((wr .u64 (0 * 256)) + (wr .u64 d15))) * 256)) + (wr .u64 d14))) * 256)) + (wr .u64 d13))) * 256)) + (wr .u64 d12))) * 256)) + (wr .u64 d11))) * 256)) + (wr .u64 d10))) * 256)) + (wr .u64 d9))) * 256)) + (wr .u64 d8))), (wr .u64 ((wr .u64 ((wr .u64 ((wr .u64 ((wr .u64 ((wr .u64 ((wr .u64 ((wr .u64 ((wr .u64 ((wr .u64 ((wr .u64 ((wr .u64 ((wr .u64 ((wr .u64 ((wr .u64 ((wr .u64 (0 * 256)) + (wr .u64 d23))) * 256)) + (wr .u64 d22))) * 256)) + (wr .u64 d21))) * 256)) + (wr .u64 d20))) * 256)) + (wr .u64 d19))) * 256)) + (wr .u64 d18))) * 256)) + (wr .u64 d17))) * 256)) + (wr .u64 d16))), (wr .u64 ((wr .u64 ((wr .u64 ((wr .u64 ((wr .u64 ((wr .u64 ((wr .u64 ((wr .u64 ((wr .u64 ((wr .u64 ((wr .u64 ((wr .u64 ((wr .u64 ((wr .u64 ((wr .u64 ((wr .u64 (0 * 256)) + (wr .u64 d31))) * 256)) + (wr .u64 d30))) * 256)) + (wr .u64 d29))) * 256)) + (wr .u64 d28))) * 256)) + (wr .u64 d27))) * 256)) + (wr .u64 d26))) * 256)) + (wr .u64 d25))) * 256)) + (wr .u64 d24)))] := by kernel_rfl
theorem or_step (a b k : Nat) (hk : k ≤ 7) (ha : a < 2 ^ (8 * k)) (hb : b < 256) : bits .or .u64 (a : Int) (shl .u64 (wr .u64 (b : Int)) (8 * k)) = ((a + b * 2 ^ (8 * k) : Nat) : Int) := by
  have hp : 2 ^ (8 * k) * 256 = 2 ^ (8 * (k + 1)) := by rw [show 8 * (k + 1) = 8 * k + 8 by omega, Nat.pow_add]
  have hle : 2 ^ (8 * (k + 1)) ≤ 18446744073709551616 := by
    have : 2 ^ (8 * (k + 1)) ≤ 2 ^ 64 := Nat.pow_le_pow_right (by omega) (by omega)
    simpa using this
  have hm : b * 2 ^ (8 * k) ≤ 255 * 2 ^ (8 * k) := Nat.mul_le_mul_right _ (by omega)
  have hlt : b * 2 ^ (8 * k) + 2 ^ (8 * k) ≤ 18446744073709551616 := by omega
  have hpos : 0 < 2 ^ (8 * k) := Nat.two_pow_pos _
  have e1 : wr .u64 (b : Int) = (b : Int) := wr_u64_id (by omega) (by omega)
  have e2 : shl .u64 (b : Int) (8 * k) = ((b * 2 ^ (8 * k) : Nat) : Int) := by
    unfold shl
    have : (b : Int) * 2 ^ (8 * k) = ((b * 2 ^ (8 * k) : Nat) : Int) := by simp
    rw [this]
    exact wr_u64_id (by omega) (by omega)
  rw [e1, e2, bits_or_u64_nat _ _ (by omega) (by omega)]
  have e3 : a ||| b * 2 ^ (8 * k) = a + b * 2 ^ (8 * k) := by
    have := Nat.shiftLeft_add_eq_or_of_lt ha b
    rw [Nat.shiftLeft_eq] at this
    rw [Nat.or_comm, ← this, Nat.add_comm]
  rw [e3]
theorem horner (a b : Nat) (ha : a < 72057594037927936) (hb : b < 256) : wr .u64 (wr .u64 ((a : Int) * 256) + wr .u64 (wr .i64 (b : Int))) = ((a * 256 + b : Nat) : Int) := by
  rw [wr_i64_id (x := (b : Int)) (by omega) (by omega), wr_u64_id (x := (b : Int)) (by omega) (by omega), wr_u64_id (x := (a : Int) * 256) (by omega) (by omega), wr_u64_id (by omega) (by omega)]
  omega
/-- Eight bytes, both ways. -/
theorem eight (b0 b1 b2 b3 b4 b5 b6 b7 : Nat) (h0 : b0 < 256) (h1 : b1 < 256) (h2 : b2 < 256) (h3 : b3 < 256) (h4 : b4 < 256) (h5 : b5 < 256) (h6 : b6 < 256) (h7 : b7 < 256) :
    bits .or .u64 (bits .or .u64 (bits .or .u64 (bits .or .u64 (bits .or .u64 (bits .or .u64 (bits .or .u64 (bits .or .u64 0 (shl .u64 (wr .u64 (b0 : Int)) 0)) (shl .u64 (wr .u64 (b1 : Int)) 8)) (shl .u64 (wr .u64 (b2 : Int)) 16)) (shl .u64 (wr .u64 (b3 : Int)) 24)) (shl .u64 (wr .u64 (b4 : Int)) 32)) (shl .u64 (wr .u64 (b5 : Int)) 40)) (shl .u64 (wr .u64 (b6 : Int)) 48)) (shl .u64 (wr .u64 (b7 : Int)) 56) =
    wr .u64 (wr .u64 ((wr .u64 (wr .u64 ((wr .u64 (wr .u64 ((wr .u64 (wr .u64 ((wr .u64 (wr .u64 ((wr .u64 (wr .u64 ((wr .u64 (wr .u64 ((wr .u64 (wr .u64 (0 * 256) + wr .u64 (wr .i64 (b7 : Int)))) * 256) + wr .u64 (wr .i64 (b6 : Int)))) * 256) + wr .u64 (wr .i64 (b5 : Int)))) * 256) + wr .u64 (wr .i64 (b4 : Int)))) * 256) + wr .u64 (wr .i64 (b3 : Int)))) * 256) + wr .u64 (wr .i64 (b2 : Int)))) * 256) + wr .u64 (wr .i64 (b1 : Int)))) * 256) + wr .u64 (wr .i64 (b0 : Int))) := by
  have s0 := or_step 0 b0 0 (by omega) (by omega) h0
  have s1 := or_step b0 b1 1 (by omega) (by omega) h1
  have s2 := or_step (b0 + b1 * 256) b2 2 (by omega) (by omega) h2
  have s3 := or_step (b0 + b1 * 256 + b2 * 65536) b3 3 (by omega) (by omega) h3
  have s4 := or_step (b0 + b1 * 256 + b2 * 65536 + b3 * 16777216) b4 4 (by omega) (by omega) h4
  have s5 := or_step (b0 + b1 * 256 + b2 * 65536 + b3 * 16777216 + b4 * 4294967296) b5 5 (by omega) (by omega) h5
  have s6 := or_step (b0 + b1 * 256 + b2 * 65536 + b3 * 16777216 + b4 * 4294967296 + b5 * 1099511627776) b6 6 (by omega) (by omega) h6
  have s7 := or_step (b0 + b1 * 256 + b2 * 65536 + b3 * 16777216 + b4 * 4294967296 + b5 * 1099511627776 + b6 * 281474976710656) b7 7 (by omega) (by omega) h7
  simp only [Nat.mul_zero, Nat.pow_zero, Nat.mul_one, Nat.zero_add, Nat.reduceMul, Nat.reducePow, Int.ofNat_zero, Int.natCast_zero] at s0 s1 s2 s3 s4 s5 s6 s7
  rw [s0, s1, s2, s3, s4, s5, s6, s7]
  have r7 := horner 0 b7 (by omega) h7
  have r6 := horner b7 b6 (by omega) h6
  have r5 := horner (b7 * 256 + b6) b5 (by omega) h5
  have r4 := horner ((b7 * 256 + b6) * 256 + b5) b4 (by omega) h4
  have r3 := horner (((b7 * 256 + b6) * 256 + b5) * 256 + b4) b3 (by omega) h3
  have r2 := horner ((((b7 * 256 + b6) * 256 + b5) * 256 + b4) * 256 + b3) b2 (by omega) h2
  have r1 := horner (((((b7 * 256 + b6) * 256 + b5) * 256 + b4) * 256 + b3) * 256 + b2) b1 (by omega) h1
  have r0 := horner ((((((b7 * 256 + b6) * 256 + b5) * 256 + b4) * 256 + b3) * 256 + b2) * 256 + b1) b0 (by omega) h0
  simp only [Nat.zero_mul, Nat.zero_add, Int.natCast_zero, Int.ofNat_zero] at r7
  have z0 : ((0 : Nat) : Int) = 0 := rfl
  rw [r7, r6, r5, r4, r3, r2, r1, r0]
  exact congrArg (fun n : Nat => (n : Int)) (by omega)
theorem from_eq (h : List Int) (hl : h.length = 32) (hb : ∀ x ∈ h, 0 ≤ x ∧ x < 256) : ∃ w : List Int, word_From.f 4000 h = some w ∧ (smithyref01_From.f 4000 h).bind (smithyref01_D_Word.f 4000) = some w := by
  match h, hl with
  | [h0, h1, h2, h3, h4, h5, h6, h7, h8, h9, h10, h11, h12, h13, h14, h15, h16, h17, h18, h19, h20, h21, h22, h23, h24, h25, h26, h27, h28, h29, h30, h31], _ =>
    refine ⟨_, from_lanes h0 h1 h2 h3 h4 h5 h6 h7 h8 h9 h10 h11 h12 h13 h14 h15 h16 h17 h18 h19 h20 h21 h22 h23 h24 h25 h26 h27 h28 h29 h30 h31, ?_⟩
    rw [dfrom_lanes, Option.bind_some, dword_lanes]
    obtain ⟨h0, rfl⟩ := Int.eq_ofNat_of_zero_le (hb h0 (by simp)).1
    obtain ⟨h1, rfl⟩ := Int.eq_ofNat_of_zero_le (hb h1 (by simp)).1
    obtain ⟨h2, rfl⟩ := Int.eq_ofNat_of_zero_le (hb h2 (by simp)).1
    obtain ⟨h3, rfl⟩ := Int.eq_ofNat_of_zero_le (hb h3 (by simp)).1
    obtain ⟨h4, rfl⟩ := Int.eq_ofNat_of_zero_le (hb h4 (by simp)).1
    obtain ⟨h5, rfl⟩ := Int.eq_ofNat_of_zero_le (hb h5 (by simp)).1
    obtain ⟨h6, rfl⟩ := Int.eq_ofNat_of_zero_le (hb h6 (by simp)).1
    obtain ⟨h7, rfl⟩ := Int.eq_ofNat_of_zero_le (hb h7 (by simp)).1
    obtain ⟨h8, rfl⟩ := Int.eq_ofNat_of_zero_le (hb h8 (by simp)).1
    obtain ⟨h9, rfl⟩ := Int.eq_ofNat_of_zero_le (hb h9 (by simp)).1
    obtain ⟨h10, rfl⟩ := Int.eq_ofNat_of_zero_le (hb h10 (by simp)).1
    obtain ⟨h11, rfl⟩ := Int.eq_ofNat_of_zero_le (hb h11 (by simp)).1
    obtain ⟨h12, rfl⟩ := Int.eq_ofNat_of_zero_le (hb h12 (by simp)).1
    obtain ⟨h13, rfl⟩ := Int.eq_ofNat_of_zero_le (hb h13 (by simp)).1
    obtain ⟨h14, rfl⟩ := Int.eq_ofNat_of_zero_le (hb h14 (by simp)).1
    obtain ⟨h15, rfl⟩ := Int.eq_ofNat_of_zero_le (hb h15 (by simp)).1
    obtain ⟨h16, rfl⟩ := Int.eq_ofNat_of_zero_le (hb h16 (by simp)).1
    obtain ⟨h17, rfl⟩ := Int.eq_ofNat_of_zero_le (hb h17 (by simp)).1
    obtain ⟨h18, rfl⟩ := Int.eq_ofNat_of_zero_le (hb h18 (by simp)).1
    obtain ⟨h19, rfl⟩ := Int.eq_ofNat_of_zero_le (hb h19 (by simp)).1
    obtain ⟨h20, rfl⟩ := Int.eq_ofNat_of_zero_le (hb h20 (by simp)).1
    obtain ⟨h21, rfl⟩ := Int.eq_ofNat_of_zero_le (hb h21 (by simp)).1
    obtain ⟨h22, rfl⟩ := Int.eq_ofNat_of_zero_le (hb h22 (by simp)).1
    obtain ⟨h23, rfl⟩ := Int.eq_ofNat_of_zero_le (hb h23 (by simp)).1
    obtain ⟨h24, rfl⟩ := Int.eq_ofNat_of_zero_le (hb h24 (by simp)).1
    obtain ⟨h25, rfl⟩ := Int.eq_ofNat_of_zero_le (hb h25 (by simp)).1
    obtain ⟨h26, rfl⟩ := Int.eq_ofNat_of_zero_le (hb h26 (by simp)).1
    obtain ⟨h27, rfl⟩ := Int.eq_ofNat_of_zero_le (hb h27 (by simp)).1
    obtain ⟨h28, rfl⟩ := Int.eq_ofNat_of_zero_le (hb h28 (by simp)).1
    obtain ⟨h29, rfl⟩ := Int.eq_ofNat_of_zero_le (hb h29 (by simp)).1
    obtain ⟨h30, rfl⟩ := Int.eq_ofNat_of_zero_le (hb h30 (by simp)).1
    obtain ⟨h31, rfl⟩ := Int.eq_ofNat_of_zero_le (hb h31 (by simp)).1
    rw [eight h31 h30 h29 h28 h27 h26 h25 h24 (by have := (hb h31 (by simp)).2; omega) (by have := (hb h30 (by simp)).2; omega) (by have := (hb h29 (by simp)).2; omega) (by have := (hb h28 (by simp)).2; omega) (by have := (hb h27 (by simp)).2; omega) (by have := (hb h26 (by simp)).2; omega) (by have := (hb h25 (by simp)).2; omega) (by have := (hb h24 (by simp)).2; omega), eight h23 h22 h21 h20 h19 h18 h17 h16 (by have := (hb h23 (by simp)).2; omega) (by have := (hb h22 (by simp)).2; omega) (by have := (hb h21 (by simp)).2; omega) (by have := (hb h20 (by simp)).2; omega) (by have := (hb h19 (by simp)).2; omega) (by have := (hb h18 (by simp)).2; omega) (by have := (hb h17 (by simp)).2; omega) (by have := (hb h16 (by simp)).2; omega), eight h15 h14 h13 h12 h11 h10 h9 h8 (by have := (hb h15 (by simp)).2; omega) (by have := (hb h14 (by simp)).2; omega) (by have := (hb h13 (by simp)).2; omega) (by have := (hb h12 (by simp)).2; omega) (by have := (hb h11 (by simp)).2; omega) (by have := (hb h10 (by simp)).2; omega) (by have := (hb h9 (by simp)).2; omega) (by have := (hb h8 (by simp)).2; omega), eight h7 h6 h5 h4 h3 h2 h1 h0 (by have := (hb h7 (by simp)).2; omega) (by have := (hb h6 (by simp)).2; omega) (by have := (hb h5 (by simp)).2; omega) (by have := (hb h4 (by simp)).2; omega) (by have := (hb h3 (by simp)).2; omega) (by have := (hb h2 (by simp)).2; omega) (by have := (hb h1 (by simp)).2; omega) (by have := (hb h0 (by simp)).2; omega)]
end GW
