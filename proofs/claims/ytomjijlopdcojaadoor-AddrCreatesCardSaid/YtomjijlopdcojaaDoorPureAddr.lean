/-
  Addresses as words, words as addresses: the program's way and the document's.
-/
import Derived.Test.YtomjijlopdcojaaDoorPureHash
import Derived.Test.YtomjijlopdcojaaDoorPureWord
set_option linter.unusedVariables false
set_option linter.unusedSimpArgs false
set_option maxRecDepth 100000
namespace GW
open Go Go.RowKit
theorem afrom_lanes (a0 a1 a2 a3 a4 a5 a6 a7 a8 a9 a10 a11 a12 a13 a14 a15 a16 a17 a18 a19 : Int) : word_From.f 4000 [a0, a1, a2, a3, a4, a5, a6, a7, a8, a9, a10, a11, a12, a13, a14, a15, a16, a17, a18, a19] = some [(bits .or .u64 (bits .or .u64 (bits .or .u64 (bits .or .u64 (bits .or .u64 (bits .or .u64 (bits .or .u64 (bits .or .u64 0 (shl .u64 (wr .u64 a19) 0)) (shl .u64 (wr .u64 a18) 8)) (shl .u64 (wr .u64 a17) 16)) (shl .u64 (wr .u64 a16) 24)) (shl .u64 (wr .u64 a15) 32)) (shl .u64 (wr .u64 a14) 40)) (shl .u64 (wr .u64 a13) 48)) (shl .u64 (wr .u64 a12) 56)), (bits .or .u64 (bits .or .u64 (bits .or .u64 (bits .or .u64 (bits .or .u64 (bits .or .u64 (bits .or .u64 (bits .or .u64 0 (shl .u64 (wr .u64 a11) 0)) (shl .u64 (wr .u64 a10) 8)) (shl .u64 (wr .u64 a9) 16)) (shl .u64 (wr .u64 a8) 24)) (shl .u64 (wr .u64 a7) 32)) (shl .u64 (wr .u64 a6) 40)) (shl .u64 (wr .u64 a5) 48)) (shl .u64 (wr .u64 a4) 56)), (bits .or .u64 (bits .or .u64 (bits .or .u64 (bits .or .u64 (bits .or .u64 (bits .or .u64 (bits .or .u64 (bits .or .u64 0 (shl .u64 (wr .u64 a3) 0)) (shl .u64 (wr .u64 a2) 8)) (shl .u64 (wr .u64 a1) 16)) (shl .u64 (wr .u64 a0) 24)) (shl .u64 (wr .u64 0) 32)) (shl .u64 (wr .u64 0) 40)) (shl .u64 (wr .u64 0) 48)) (shl .u64 (wr .u64 0) 56)), (bits .or .u64 (bits .or .u64 (bits .or .u64 (bits .or .u64 (bits .or .u64 (bits .or .u64 (bits .or .u64 (bits .or .u64 0 (shl .u64 (wr .u64 0) 0)) (shl .u64 (wr .u64 0) 8)) (shl .u64 (wr .u64 0) 16)) (shl .u64 (wr .u64 0) 24)) (shl .u64 (wr .u64 0) 32)) (shl .u64 (wr .u64 0) 40)) (shl .u64 (wr .u64 0) 48)) (shl .u64 (wr .u64 0) 56))] := by kernel_rfl
theorem adfrom_lanes (a0 a1 a2 a3 a4 a5 a6 a7 a8 a9 a10 a11 a12 a13 a14 a15 a16 a17 a18 a19 : Int) : smithyref01_From.f 4000 [a0, a1, a2, a3, a4, a5, a6, a7, a8, a9, a10, a11, a12, a13, a14, a15, a16, a17, a18, a19] = some [wr .i64 a19, wr .i64 a18, wr .i64 a17, wr .i64 a16, wr .i64 a15, wr .i64 a14, wr .i64 a13, wr .i64 a12, wr .i64 a11, wr .i64 a10, wr .i64 a9, wr .i64 a8, wr .i64 a7, wr .i64 a6, wr .i64 a5, wr .i64 a4, wr .i64 a3, wr .i64 a2, wr .i64 a1, wr .i64 a0, 0, 0, 0, 0, 0, 0, 0, 0, 0, 0, 0, 0] := by kernel_rfl
theorem bytes_lanes (x0 x1 x2 x3 : Int) : word_Bytes.f 4000 [x0, x1, x2, x3] = some [wr .u8 (shr x3 56), wr .u8 (shr x3 48), wr .u8 (shr x3 40), wr .u8 (shr x3 32), wr .u8 (shr x3 24), wr .u8 (shr x3 16), wr .u8 (shr x3 8), wr .u8 (shr x3 0), wr .u8 (shr x2 56), wr .u8 (shr x2 48), wr .u8 (shr x2 40), wr .u8 (shr x2 32), wr .u8 (shr x2 24), wr .u8 (shr x2 16), wr .u8 (shr x2 8), wr .u8 (shr x2 0), wr .u8 (shr x1 56), wr .u8 (shr x1 48), wr .u8 (shr x1 40), wr .u8 (shr x1 32), wr .u8 (shr x1 24), wr .u8 (shr x1 16), wr .u8 (shr x1 8), wr .u8 (shr x1 0), wr .u8 (shr x0 56), wr .u8 (shr x0 48), wr .u8 (shr x0 40), wr .u8 (shr x0 32), wr .u8 (shr x0 24), wr .u8 (shr x0 16), wr .u8 (shr x0 8), wr .u8 (shr x0 0)] := by kernel_rfl
theorem of_lanes (x0 x1 x2 x3 : Int) : smithyref01_Of.f 4000 [x0, x1, x2, x3] = some [wr .i64 (Int.tmod (shr x0 0) 256), wr .i64 (Int.tmod (shr x0 8) 256), wr .i64 (Int.tmod (shr x0 16) 256), wr .i64 (Int.tmod (shr x0 24) 256), wr .i64 (Int.tmod (shr x0 32) 256), wr .i64 (Int.tmod (shr x0 40) 256), wr .i64 (Int.tmod (shr x0 48) 256), wr .i64 (Int.tmod (shr x0 56) 256), wr .i64 (Int.tmod (shr x1 0) 256), wr .i64 (Int.tmod (shr x1 8) 256), wr .i64 (Int.tmod (shr x1 16) 256), wr .i64 (Int.tmod (shr x1 24) 256), wr .i64 (Int.tmod (shr x1 32) 256), wr .i64 (Int.tmod (shr x1 40) 256), wr .i64 (Int.tmod (shr x1 48) 256), wr .i64 (Int.tmod (shr x1 56) 256), wr .i64 (Int.tmod (shr x2 0) 256), wr .i64 (Int.tmod (shr x2 8) 256), wr .i64 (Int.tmod (shr x2 16) 256), wr .i64 (Int.tmod (shr x2 24) 256), wr .i64 (Int.tmod (shr x2 32) 256), wr .i64 (Int.tmod (shr x2 40) 256), wr .i64 (Int.tmod (shr x2 48) 256), wr .i64 (Int.tmod (shr x2 56) 256), wr .i64 (Int.tmod (shr x3 0) 256), wr .i64 (Int.tmod (shr x3 8) 256), wr .i64 (Int.tmod (shr x3 16) 256), wr .i64 (Int.tmod (shr x3 24) 256), wr .i64 (Int.tmod (shr x3 32) 256), wr .i64 (Int.tmod (shr x3 40) 256), wr .i64 (Int.tmod (shr x3 48) 256), wr .i64 (Int.tmod (shr x3 56) 256)] := by kernel_rfl
theorem dbytes_lanes (d0 d1 d2 d3 d4 d5 d6 d7 d8 d9 d10 d11 d12 d13 d14 d15 d16 d17 d18 d19 d20 d21 d22 d23 d24 d25 d26 d27 d28 d29 d30 d31 : Int) : smithyref01_D_Bytes.f 4000 [d0, d1, d2, d3, d4, d5, d6, d7, d8, d9, d10, d11, d12, d13, d14, d15, d16, d17, d18, d19, d20, d21, d22, d23, d24, d25, d26, d27, d28, d29, d30, d31] = some [wr .u8 d31, wr .u8 d30, wr .u8 d29, wr .u8 d28, wr .u8 d27, wr .u8 d26, wr .u8 d25, wr .u8 d24, wr .u8 d23, wr .u8 d22, wr .u8 d21, wr .u8 d20, wr .u8 d19, wr .u8 d18, wr .u8 d17, wr .u8 d16, wr .u8 d15, wr .u8 d14, wr .u8 d13, wr .u8 d12, wr .u8 d11, wr .u8 d10, wr .u8 d9, wr .u8 d8, wr .u8 d7, wr .u8 d6, wr .u8 d5, wr .u8 d4, wr .u8 d3, wr .u8 d2, wr .u8 d1, wr .u8 d0] := by kernel_rfl
theorem last_lanes (d0 d1 d2 d3 d4 d5 d6 d7 d8 d9 d10 d11 d12 d13 d14 d15 d16 d17 d18 d19 d20 d21 d22 d23 d24 d25 d26 d27 d28 d29 d30 d31 : Int) : smithyref08_last.f 4000 [d0, d1, d2, d3, d4, d5, d6, d7, d8, d9, d10, d11, d12, d13, d14, d15, d16, d17, d18, d19, d20, d21, d22, d23, d24, d25, d26, d27, d28, d29, d30, d31] = some [d12, d13, d14, d15, d16, d17, d18, d19, d20, d21, d22, d23, d24, d25, d26, d27, d28, d29, d30, d31] := by kernel_rfl
theorem byte_eq (x : Int) (n : Nat) (hx : 0 ≤ x) : wr .u8 (wr .i64 (Int.tmod (shr x n) 256)) = wr .u8 (shr x n) := by
  have h0 : 0 ≤ shr x n := by
    unfold shr
    rw [Int.fdiv_eq_ediv_of_nonneg _ (Int.le_of_lt (Int.pow_pos (by omega)))]
    exact Int.ediv_nonneg hx (Int.le_of_lt (Int.pow_pos (by omega)))
  generalize shr x n = y at *
  rw [tmod_pos h0, wr_i64_id (by omega) (by omega), wr_u8, wr_u8]
  omega
theorem of_eq8 (x : List Int) (hl : x.length = 4) (hx : ∀ y ∈ x, 0 ≤ y) : ∃ z : List Int, addr_Of.f 4000 x = some z ∧ smithyref08_Of.f 4000 x = some z := by
  match x, hl with
  | [x0, x1, x2, x3], _ =>
    have h0 := hx x0 (by simp)
    have h1 := hx x1 (by simp)
    have h2 := hx x2 (by simp)
    have h3 := hx x3 (by simp)
    unfold addr_Of.f smithyref08_Of.f
    rw [bytes_lanes, of_lanes, Option.bind_some, Option.bind_some, dbytes_lanes, Option.bind_some, last_lanes, Option.bind_some]
    refine ⟨_, rfl, ?_⟩
    simp only [byte_eq _ _ h0, byte_eq _ _ h1, byte_eq _ _ h2, byte_eq _ _ h3]
    rfl
theorem word_eq8 (x : List Int) (hl : x.length = 20) (ha : ∀ y ∈ x, 0 ≤ y ∧ y < 256) : ∃ z : List Int, addr_Word.f 4000 x = some z ∧ smithyref08_Word.f 4000 x = some z := by
  match x, hl with
  | [a0, a1, a2, a3, a4, a5, a6, a7, a8, a9, a10, a11, a12, a13, a14, a15, a16, a17, a18, a19], _ =>
    obtain ⟨a0, rfl⟩ := Int.eq_ofNat_of_zero_le (ha a0 (by simp)).1
    obtain ⟨a1, rfl⟩ := Int.eq_ofNat_of_zero_le (ha a1 (by simp)).1
    obtain ⟨a2, rfl⟩ := Int.eq_ofNat_of_zero_le (ha a2 (by simp)).1
    obtain ⟨a3, rfl⟩ := Int.eq_ofNat_of_zero_le (ha a3 (by simp)).1
    obtain ⟨a4, rfl⟩ := Int.eq_ofNat_of_zero_le (ha a4 (by simp)).1
    obtain ⟨a5, rfl⟩ := Int.eq_ofNat_of_zero_le (ha a5 (by simp)).1
    obtain ⟨a6, rfl⟩ := Int.eq_ofNat_of_zero_le (ha a6 (by simp)).1
    obtain ⟨a7, rfl⟩ := Int.eq_ofNat_of_zero_le (ha a7 (by simp)).1
    obtain ⟨a8, rfl⟩ := Int.eq_ofNat_of_zero_le (ha a8 (by simp)).1
    obtain ⟨a9, rfl⟩ := Int.eq_ofNat_of_zero_le (ha a9 (by simp)).1
    obtain ⟨a10, rfl⟩ := Int.eq_ofNat_of_zero_le (ha a10 (by simp)).1
    obtain ⟨a11, rfl⟩ := Int.eq_ofNat_of_zero_le (ha a11 (by simp)).1
    obtain ⟨a12, rfl⟩ := Int.eq_ofNat_of_zero_le (ha a12 (by simp)).1
    obtain ⟨a13, rfl⟩ := Int.eq_ofNat_of_zero_le (ha a13 (by simp)).1
    obtain ⟨a14, rfl⟩ := Int.eq_ofNat_of_zero_le (ha a14 (by simp)).1
    obtain ⟨a15, rfl⟩ := Int.eq_ofNat_of_zero_le (ha a15 (by simp)).1
    obtain ⟨a16, rfl⟩ := Int.eq_ofNat_of_zero_le (ha a16 (by simp)).1
    obtain ⟨a17, rfl⟩ := Int.eq_ofNat_of_zero_le (ha a17 (by simp)).1
    obtain ⟨a18, rfl⟩ := Int.eq_ofNat_of_zero_le (ha a18 (by simp)).1
    obtain ⟨a19, rfl⟩ := Int.eq_ofNat_of_zero_le (ha a19 (by simp)).1
    have e0 := eight a19 a18 a17 a16 a15 a14 a13 a12 (by have := (ha a19 (by simp)).2; omega) (by have := (ha a18 (by simp)).2; omega) (by have := (ha a17 (by simp)).2; omega) (by have := (ha a16 (by simp)).2; omega) (by have := (ha a15 (by simp)).2; omega) (by have := (ha a14 (by simp)).2; omega) (by have := (ha a13 (by simp)).2; omega) (by have := (ha a12 (by simp)).2; omega)
    have e1 := eight a11 a10 a9 a8 a7 a6 a5 a4 (by have := (ha a11 (by simp)).2; omega) (by have := (ha a10 (by simp)).2; omega) (by have := (ha a9 (by simp)).2; omega) (by have := (ha a8 (by simp)).2; omega) (by have := (ha a7 (by simp)).2; omega) (by have := (ha a6 (by simp)).2; omega) (by have := (ha a5 (by simp)).2; omega) (by have := (ha a4 (by simp)).2; omega)
    have e2 := eight a3 a2 a1 a0 0 0 0 0 (by have := (ha a3 (by simp)).2; omega) (by have := (ha a2 (by simp)).2; omega) (by have := (ha a1 (by simp)).2; omega) (by have := (ha a0 (by simp)).2; omega) (by omega) (by omega) (by omega) (by omega)
    have e3 := eight 0 0 0 0 0 0 0 0 (by omega) (by omega) (by omega) (by omega) (by omega) (by omega) (by omega) (by omega)
    simp only [Int.natCast_zero, Int.ofNat_zero] at e0 e1 e2 e3
    have hd : (([(a0 : Int), (a1 : Int), (a2 : Int), (a3 : Int), (a4 : Int), (a5 : Int), (a6 : Int), (a7 : Int), (a8 : Int), (a9 : Int), (a10 : Int), (a11 : Int), (a12 : Int), (a13 : Int), (a14 : Int), (a15 : Int), (a16 : Int), (a17 : Int), (a18 : Int), (a19 : Int)] : List Int).drop 0).take 20 = [(a0 : Int), (a1 : Int), (a2 : Int), (a3 : Int), (a4 : Int), (a5 : Int), (a6 : Int), (a7 : Int), (a8 : Int), (a9 : Int), (a10 : Int), (a11 : Int), (a12 : Int), (a13 : Int), (a14 : Int), (a15 : Int), (a16 : Int), (a17 : Int), (a18 : Int), (a19 : Int)] := rfl
    unfold addr_Word.f smithyref08_Word.f
    rw [hd, afrom_lanes, adfrom_lanes, Option.bind_some, Option.bind_some, dword_lanes, Option.bind_some]
    refine ⟨_, rfl, ?_⟩
    have z : wr .i64 0 = 0 := rfl
    simp only [z] at e2 e3
    rw [e0, e1, e2, e3]
theorem eightN (b0 b1 b2 b3 b4 b5 b6 b7 : Nat) (h0 : b0 < 256) (h1 : b1 < 256) (h2 : b2 < 256) (h3 : b3 < 256) (h4 : b4 < 256) (h5 : b5 < 256) (h6 : b6 < 256) (h7 : b7 < 256) :
    bits .or .u64 (bits .or .u64 (bits .or .u64 (bits .or .u64 (bits .or .u64 (bits .or .u64 (bits .or .u64 (bits .or .u64 0 (shl .u64 (wr .u64 (b0 : Int)) 0)) (shl .u64 (wr .u64 (b1 : Int)) 8)) (shl .u64 (wr .u64 (b2 : Int)) 16)) (shl .u64 (wr .u64 (b3 : Int)) 24)) (shl .u64 (wr .u64 (b4 : Int)) 32)) (shl .u64 (wr .u64 (b5 : Int)) 40)) (shl .u64 (wr .u64 (b6 : Int)) 48)) (shl .u64 (wr .u64 (b7 : Int)) 56) = ((b0 + b1 * 256 + b2 * 65536 + b3 * 16777216 + b4 * 4294967296 + b5 * 1099511627776 + b6 * 281474976710656 + b7 * 72057594037927936 : Nat) : Int) := by
  have s0 := or_step 0 b0 0 (by omega) (by omega) h0
  have s1 := or_step b0 b1 1 (by omega) (by omega) h1
  have s2 := or_step (b0 + b1 * 256) b2 2 (by omega) (by omega) h2
  have s3 := or_step (b0 + b1 * 256 + b2 * 65536) b3 3 (by omega) (by omega) h3
  have s4 := or_step (b0 + b1 * 256 + b2 * 65536 + b3 * 16777216) b4 4 (by omega) (by omega) h4
  have s5 := or_step (b0 + b1 * 256 + b2 * 65536 + b3 * 16777216 + b4 * 4294967296) b5 5 (by omega) (by omega) h5
  have s6 := or_step (b0 + b1 * 256 + b2 * 65536 + b3 * 16777216 + b4 * 4294967296 + b5 * 1099511627776) b6 6 (by omega) (by omega) h6
  have s7 := or_step (b0 + b1 * 256 + b2 * 65536 + b3 * 16777216 + b4 * 4294967296 + b5 * 1099511627776 + b6 * 281474976710656) b7 7 (by omega) (by omega) h7
  simp only [Nat.mul_zero, Nat.pow_zero, Nat.mul_one, Nat.zero_add, Nat.reduceMul, Nat.reducePow, Int.ofNat_zero, Int.natCast_zero] at s0 s1 s2 s3 s4 s5 s6 s7
  rw [s0, s1, s2, s3, s4, s5, s6, s7]
theorem shr_nat8 (v k : Nat) : shr (v : Int) k = ((v / 2 ^ k : Nat) : Int) := by
  unfold shr
  rw [Int.fdiv_eq_ediv_of_nonneg _ (by exact Int.le_of_lt (Int.pow_pos (by omega)))]
  simp
theorem back_eq (x : List Int) (hl : x.length = 20) (ha : ∀ y ∈ x, 0 ≤ y ∧ y < 256) : ∃ z : List Int, addr_Word.f 4000 x = some z ∧ addr_Of.f 4000 z = some x := by
  match x, hl with
  | [a0, a1, a2, a3, a4, a5, a6, a7, a8, a9, a10, a11, a12, a13, a14, a15, a16, a17, a18, a19], _ =>
    obtain ⟨a0, rfl⟩ := Int.eq_ofNat_of_zero_le (ha a0 (by simp)).1
    obtain ⟨a1, rfl⟩ := Int.eq_ofNat_of_zero_le (ha a1 (by simp)).1
    obtain ⟨a2, rfl⟩ := Int.eq_ofNat_of_zero_le (ha a2 (by simp)).1
    obtain ⟨a3, rfl⟩ := Int.eq_ofNat_of_zero_le (ha a3 (by simp)).1
    obtain ⟨a4, rfl⟩ := Int.eq_ofNat_of_zero_le (ha a4 (by simp)).1
    obtain ⟨a5, rfl⟩ := Int.eq_ofNat_of_zero_le (ha a5 (by simp)).1
    obtain ⟨a6, rfl⟩ := Int.eq_ofNat_of_zero_le (ha a6 (by simp)).1
    obtain ⟨a7, rfl⟩ := Int.eq_ofNat_of_zero_le (ha a7 (by simp)).1
    obtain ⟨a8, rfl⟩ := Int.eq_ofNat_of_zero_le (ha a8 (by simp)).1
    obtain ⟨a9, rfl⟩ := Int.eq_ofNat_of_zero_le (ha a9 (by simp)).1
    obtain ⟨a10, rfl⟩ := Int.eq_ofNat_of_zero_le (ha a10 (by simp)).1
    obtain ⟨a11, rfl⟩ := Int.eq_ofNat_of_zero_le (ha a11 (by simp)).1
    obtain ⟨a12, rfl⟩ := Int.eq_ofNat_of_zero_le (ha a12 (by simp)).1
    obtain ⟨a13, rfl⟩ := Int.eq_ofNat_of_zero_le (ha a13 (by simp)).1
    obtain ⟨a14, rfl⟩ := Int.eq_ofNat_of_zero_le (ha a14 (by simp)).1
    obtain ⟨a15, rfl⟩ := Int.eq_ofNat_of_zero_le (ha a15 (by simp)).1
    obtain ⟨a16, rfl⟩ := Int.eq_ofNat_of_zero_le (ha a16 (by simp)).1
    obtain ⟨a17, rfl⟩ := Int.eq_ofNat_of_zero_le (ha a17 (by simp)).1
    obtain ⟨a18, rfl⟩ := Int.eq_ofNat_of_zero_le (ha a18 (by simp)).1
    obtain ⟨a19, rfl⟩ := Int.eq_ofNat_of_zero_le (ha a19 (by simp)).1
    have e0 := eightN a19 a18 a17 a16 a15 a14 a13 a12 (by have := (ha a19 (by simp)).2; omega) (by have := (ha a18 (by simp)).2; omega) (by have := (ha a17 (by simp)).2; omega) (by have := (ha a16 (by simp)).2; omega) (by have := (ha a15 (by simp)).2; omega) (by have := (ha a14 (by simp)).2; omega) (by have := (ha a13 (by simp)).2; omega) (by have := (ha a12 (by simp)).2; omega)
    have e1 := eightN a11 a10 a9 a8 a7 a6 a5 a4 (by have := (ha a11 (by simp)).2; omega) (by have := (ha a10 (by simp)).2; omega) (by have := (ha a9 (by simp)).2; omega) (by have := (ha a8 (by simp)).2; omega) (by have := (ha a7 (by simp)).2; omega) (by have := (ha a6 (by simp)).2; omega) (by have := (ha a5 (by simp)).2; omega) (by have := (ha a4 (by simp)).2; omega)
    have e2 := eightN a3 a2 a1 a0 0 0 0 0 (by have := (ha a3 (by simp)).2; omega) (by have := (ha a2 (by simp)).2; omega) (by have := (ha a1 (by simp)).2; omega) (by have := (ha a0 (by simp)).2; omega) (by omega) (by omega) (by omega) (by omega)
    simp only [Int.natCast_zero, Int.ofNat_zero] at e0 e1 e2
    have hd : (([(a0 : Int), (a1 : Int), (a2 : Int), (a3 : Int), (a4 : Int), (a5 : Int), (a6 : Int), (a7 : Int), (a8 : Int), (a9 : Int), (a10 : Int), (a11 : Int), (a12 : Int), (a13 : Int), (a14 : Int), (a15 : Int), (a16 : Int), (a17 : Int), (a18 : Int), (a19 : Int)] : List Int).drop 0).take 20 = [(a0 : Int), (a1 : Int), (a2 : Int), (a3 : Int), (a4 : Int), (a5 : Int), (a6 : Int), (a7 : Int), (a8 : Int), (a9 : Int), (a10 : Int), (a11 : Int), (a12 : Int), (a13 : Int), (a14 : Int), (a15 : Int), (a16 : Int), (a17 : Int), (a18 : Int), (a19 : Int)] := rfl
    unfold addr_Word.f
    rw [hd, afrom_lanes, Option.bind_some]
    refine ⟨_, rfl, ?_⟩
    unfold addr_Of.f
    rw [bytes_lanes, Option.bind_some, e0, e1, e2]
    simp only [shr_nat8, wr_u8, List.drop_succ_cons, List.drop_zero, List.take_succ_cons, List.take_zero]
    have l0 := (ha a0 (by simp)).2
    have l1 := (ha a1 (by simp)).2
    have l2 := (ha a2 (by simp)).2
    have l3 := (ha a3 (by simp)).2
    have l4 := (ha a4 (by simp)).2
    have l5 := (ha a5 (by simp)).2
    have l6 := (ha a6 (by simp)).2
    have l7 := (ha a7 (by simp)).2
    have l8 := (ha a8 (by simp)).2
    have l9 := (ha a9 (by simp)).2
    have l10 := (ha a10 (by simp)).2
    have l11 := (ha a11 (by simp)).2
    have l12 := (ha a12 (by simp)).2
    have l13 := (ha a13 (by simp)).2
    have l14 := (ha a14 (by simp)).2
    have l15 := (ha a15 (by simp)).2
    have l16 := (ha a16 (by simp)).2
    have l17 := (ha a17 (by simp)).2
    have l18 := (ha a18 (by simp)).2
    have l19 := (ha a19 (by simp)).2
    refine congrArg some ?_
    simp only [List.cons.injEq, and_true]
    refine ⟨?_, ?_, ?_, ?_, ?_, ?_, ?_, ?_, ?_, ?_, ?_, ?_, ?_, ?_, ?_, ?_, ?_, ?_, ?_, ?_⟩ <;> omega
theorem fixed_eq : smithylaw08_fixed.f 4000 = some true := by
  have b0 : word_Bytes.f 4000 [0, 0, 0, 0] = some [0, 0, 0, 0, 0, 0, 0, 0, 0, 0, 0, 0, 0, 0, 0, 0, 0, 0, 0, 0, 0, 0, 0, 0, 0, 0, 0, 0, 0, 0, 0, 0] := by kernel_rfl
  have w1 : word_From.f 4000 [7, 52, 185, 251, 19, 141, 212, 229, 230, 202, 133, 238, 77, 26, 46, 43, 180, 248, 143, 2, 80, 242, 111, 255, 240, 152, 176, 179, 11, 38, 191, 56] = some [17336801048595447608, 13040329961162043391, 16630251832561249835, 519244345070441701] := by kernel_rfl
  have o1 : addr_Of.f 4000 [17336801048595447608, 13040329961162043391, 16630251832561249835, 519244345070441701] = some [77, 26, 46, 43, 180, 248, 143, 2, 80, 242, 111, 255, 240, 152, 176, 179, 11, 38, 191, 56] := by kernel_rfl
  unfold smithylaw08_fixed.f addr_Create2.f
  rw [ex0, Option.bind_some, b0, Option.bind_some]
  unfold addr_Create2.j1
  rw [if_pos (by decide), if_pos (by decide), if_pos (by decide)]
  have m : (([255] ++ (([0, 0, 0, 0, 0, 0, 0, 0, 0, 0, 0, 0, 0, 0, 0, 0, 0, 0, 0, 0] : List Int).drop 0).take 20) ++ (([0, 0, 0, 0, 0, 0, 0, 0, 0, 0, 0, 0, 0, 0, 0, 0, 0, 0, 0, 0, 0, 0, 0, 0, 0, 0, 0, 0, 0, 0, 0, 0] : List Int).drop 0).take 32) ++ (([188, 54, 120, 158, 122, 30, 40, 20, 54, 70, 66, 41, 130, 143, 129, 125, 102, 18, 247, 180, 119, 214, 101, 145, 255, 150, 169, 224, 100, 188, 201, 138] : List Int).drop 0).take 32 = [255, 0, 0, 0, 0, 0, 0, 0, 0, 0, 0, 0, 0, 0, 0, 0, 0, 0, 0, 0, 0, 0, 0, 0, 0, 0, 0, 0, 0, 0, 0, 0, 0, 0, 0, 0, 0, 0, 0, 0, 0, 0, 0, 0, 0, 0, 0, 0, 0, 0, 0, 0, 0, 188, 54, 120, 158, 122, 30, 40, 20, 54, 70, 66, 41, 130, 143, 129, 125, 102, 18, 247, 180, 119, 214, 101, 145, 255, 150, 169, 224, 100, 188, 201, 138] := rfl
  rw [m]
  unfold keccak_Word.f
  rw [ex1, Option.bind_some]
  have d : (([7, 52, 185, 251, 19, 141, 212, 229, 230, 202, 133, 238, 77, 26, 46, 43, 180, 248, 143, 2, 80, 242, 111, 255, 240, 152, 176, 179, 11, 38, 191, 56] : List Int).drop 0).take 32 = [7, 52, 185, 251, 19, 141, 212, 229, 230, 202, 133, 238, 77, 26, 46, 43, 180, 248, 143, 2, 80, 242, 111, 255, 240, 152, 176, 179, 11, 38, 191, 56] := rfl
  rw [d, w1, Option.bind_some, Option.bind_some, o1, Option.bind_some, Option.bind_some]
  rfl
end GW
