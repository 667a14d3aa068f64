import Derived.Test.YtoiopiiljblpjaaDoorG0
import Derived.Test.YtoiopiiljblpjaaDoorGWPlain
import Derived.Laws.Bits64b
set_option linter.unusedVariables false
set_option linter.unusedSimpArgs false
set_option maxRecDepth 100000
namespace GW
open Go Go.RowKit
def wbytes (a : List Int) : List Int := [wr .u8 (shr (rd a 3) 56), wr .u8 (shr (rd a 3) 48), wr .u8 (shr (rd a 3) 40), wr .u8 (shr (rd a 3) 32), wr .u8 (shr (rd a 3) 24), wr .u8 (shr (rd a 3) 16), wr .u8 (shr (rd a 3) 8), wr .u8 (shr (rd a 3) 0), wr .u8 (shr (rd a 2) 56), wr .u8 (shr (rd a 2) 48), wr .u8 (shr (rd a 2) 40), wr .u8 (shr (rd a 2) 32), wr .u8 (shr (rd a 2) 24), wr .u8 (shr (rd a 2) 16), wr .u8 (shr (rd a 2) 8), wr .u8 (shr (rd a 2) 0), wr .u8 (shr (rd a 1) 56), wr .u8 (shr (rd a 1) 48), wr .u8 (shr (rd a 1) 40), wr .u8 (shr (rd a 1) 32), wr .u8 (shr (rd a 1) 24), wr .u8 (shr (rd a 1) 16), wr .u8 (shr (rd a 1) 8), wr .u8 (shr (rd a 1) 0), wr .u8 (shr (rd a 0) 56), wr .u8 (shr (rd a 0) 48), wr .u8 (shr (rd a 0) 40), wr .u8 (shr (rd a 0) 32), wr .u8 (shr (rd a 0) 24), wr .u8 (shr (rd a 0) 16), wr .u8 (shr (rd a 0) 8), wr .u8 (shr (rd a 0) 0)]
theorem wbytes_len (a : List Int) : (wbytes a).length = 32 := rfl
theorem bytes_lanes (k : Nat) (x0 x1 x2 x3 : Int) : word_Bytes.f (k + 40) [x0, x1, x2, x3] = some [wr .u8 (shr x3 56), wr .u8 (shr x3 48), wr .u8 (shr x3 40), wr .u8 (shr x3 32), wr .u8 (shr x3 24), wr .u8 (shr x3 16), wr .u8 (shr x3 8), wr .u8 (shr x3 0), wr .u8 (shr x2 56), wr .u8 (shr x2 48), wr .u8 (shr x2 40), wr .u8 (shr x2 32), wr .u8 (shr x2 24), wr .u8 (shr x2 16), wr .u8 (shr x2 8), wr .u8 (shr x2 0), wr .u8 (shr x1 56), wr .u8 (shr x1 48), wr .u8 (shr x1 40), wr .u8 (shr x1 32), wr .u8 (shr x1 24), wr .u8 (shr x1 16), wr .u8 (shr x1 8), wr .u8 (shr x1 0), wr .u8 (shr x0 56), wr .u8 (shr x0 48), wr .u8 (shr x0 40), wr .u8 (shr x0 32), wr .u8 (shr x0 24), wr .u8 (shr x0 16), wr .u8 (shr x0 8), wr .u8 (shr x0 0)] := by kernel_rfl
theorem bytes_f (k : Nat) {a : List Int} (h : a.length = 4) : word_Bytes.f (k + 40) a = some (wbytes a) := by
  match a, h with
  | [x0, x1, x2, x3], _ => exact bytes_lanes k x0 x1 x2 x3
theorem byte_eq (x : Int) (n : Nat) (hx : 0 ≤ x) : wr .u8 (wr .i64 (Int.tmod (shr x n) 256)) = wr .u8 (shr x n) := by
  have h0 : 0 ≤ shr x n := by
    unfold shr
    rw [Int.fdiv_eq_ediv_of_nonneg _ (Int.le_of_lt (Int.pow_pos (by omega)))]
    exact Int.ediv_nonneg hx (Int.le_of_lt (Int.pow_pos (by omega)))
  generalize shr x n = y at *
  rw [tmod_pos h0, wr_i64_id (by omega) (by omega), wr_u8, wr_u8]
  omega
theorem of_lanes (k : Nat) (x0 x1 x2 x3 : Int) : smithyref01_Of.f (k + 40) [x0, x1, x2, x3] = some [wr .i64 (Int.tmod (shr x0 0) 256), wr .i64 (Int.tmod (shr x0 8) 256), wr .i64 (Int.tmod (shr x0 16) 256), wr .i64 (Int.tmod (shr x0 24) 256), wr .i64 (Int.tmod (shr x0 32) 256), wr .i64 (Int.tmod (shr x0 40) 256), wr .i64 (Int.tmod (shr x0 48) 256), wr .i64 (Int.tmod (shr x0 56) 256), wr .i64 (Int.tmod (shr x1 0) 256), wr .i64 (Int.tmod (shr x1 8) 256), wr .i64 (Int.tmod (shr x1 16) 256), wr .i64 (Int.tmod (shr x1 24) 256), wr .i64 (Int.tmod (shr x1 32) 256), wr .i64 (Int.tmod (shr x1 40) 256), wr .i64 (Int.tmod (shr x1 48) 256), wr .i64 (Int.tmod (shr x1 56) 256), wr .i64 (Int.tmod (shr x2 0) 256), wr .i64 (Int.tmod (shr x2 8) 256), wr .i64 (Int.tmod (shr x2 16) 256), wr .i64 (Int.tmod (shr x2 24) 256), wr .i64 (Int.tmod (shr x2 32) 256), wr .i64 (Int.tmod (shr x2 40) 256), wr .i64 (Int.tmod (shr x2 48) 256), wr .i64 (Int.tmod (shr x2 56) 256), wr .i64 (Int.tmod (shr x3 0) 256), wr .i64 (Int.tmod (shr x3 8) 256), wr .i64 (Int.tmod (shr x3 16) 256), wr .i64 (Int.tmod (shr x3 24) 256), wr .i64 (Int.tmod (shr x3 32) 256), wr .i64 (Int.tmod (shr x3 40) 256), wr .i64 (Int.tmod (shr x3 48) 256), wr .i64 (Int.tmod (shr x3 56) 256)] := by kernel_rfl
theorem dbytes_lanes (k : Nat) (d0 d1 d2 d3 d4 d5 d6 d7 d8 d9 d10 d11 d12 d13 d14 d15 d16 d17 d18 d19 d20 d21 d22 d23 d24 d25 d26 d27 d28 d29 d30 d31 : Int) : smithyref01_D_Bytes.f (k + 40) [d0, d1, d2, d3, d4, d5, d6, d7, d8, d9, d10, d11, d12, d13, d14, d15, d16, d17, d18, d19, d20, d21, d22, d23, d24, d25, d26, d27, d28, d29, d30, d31] = some [wr .u8 d31, wr .u8 d30, wr .u8 d29, wr .u8 d28, wr .u8 d27, wr .u8 d26, wr .u8 d25, wr .u8 d24, wr .u8 d23, wr .u8 d22, wr .u8 d21, wr .u8 d20, wr .u8 d19, wr .u8 d18, wr .u8 d17, wr .u8 d16, wr .u8 d15, wr .u8 d14, wr .u8 d13, wr .u8 d12, wr .u8 d11, wr .u8 d10, wr .u8 d9, wr .u8 d8, wr .u8 d7, wr .u8 d6, wr .u8 d5, wr .u8 d4, wr .u8 d3, wr .u8 d2, wr .u8 d1, wr .u8 d0] := by kernel_rfl
def digits (a : List Int) : List Int := [wr .i64 (Int.tmod (shr (rd a 0) 0) 256), wr .i64 (Int.tmod (shr (rd a 0) 8) 256), wr .i64 (Int.tmod (shr (rd a 0) 16) 256), wr .i64 (Int.tmod (shr (rd a 0) 24) 256), wr .i64 (Int.tmod (shr (rd a 0) 32) 256), wr .i64 (Int.tmod (shr (rd a 0) 40) 256), wr .i64 (Int.tmod (shr (rd a 0) 48) 256), wr .i64 (Int.tmod (shr (rd a 0) 56) 256), wr .i64 (Int.tmod (shr (rd a 1) 0) 256), wr .i64 (Int.tmod (shr (rd a 1) 8) 256), wr .i64 (Int.tmod (shr (rd a 1) 16) 256), wr .i64 (Int.tmod (shr (rd a 1) 24) 256), wr .i64 (Int.tmod (shr (rd a 1) 32) 256), wr .i64 (Int.tmod (shr (rd a 1) 40) 256), wr .i64 (Int.tmod (shr (rd a 1) 48) 256), wr .i64 (Int.tmod (shr (rd a 1) 56) 256), wr .i64 (Int.tmod (shr (rd a 2) 0) 256), wr .i64 (Int.tmod (shr (rd a 2) 8) 256), wr .i64 (Int.tmod (shr (rd a 2) 16) 256), wr .i64 (Int.tmod (shr (rd a 2) 24) 256), wr .i64 (Int.tmod (shr (rd a 2) 32) 256), wr .i64 (Int.tmod (shr (rd a 2) 40) 256), wr .i64 (Int.tmod (shr (rd a 2) 48) 256), wr .i64 (Int.tmod (shr (rd a 2) 56) 256), wr .i64 (Int.tmod (shr (rd a 3) 0) 256), wr .i64 (Int.tmod (shr (rd a 3) 8) 256), wr .i64 (Int.tmod (shr (rd a 3) 16) 256), wr .i64 (Int.tmod (shr (rd a 3) 24) 256), wr .i64 (Int.tmod (shr (rd a 3) 32) 256), wr .i64 (Int.tmod (shr (rd a 3) 40) 256), wr .i64 (Int.tmod (shr (rd a 3) 48) 256), wr .i64 (Int.tmod (shr (rd a 3) 56) 256)]
theorem of_f (k : Nat) {a : List Int} (h : a.length = 4) : smithyref01_Of.f (k + 40) a = some (digits a) := by
  match a, h with
  | [x0, x1, x2, x3], _ => exact of_lanes k x0 x1 x2 x3
theorem dbytes_f (k : Nat) {a : List Int} (h : a.length = 4) (hx : ∀ y ∈ a, 0 ≤ y) : smithyref01_D_Bytes.f (k + 40) (digits a) = some (wbytes a) := by
  match a, h with
  | [x0, x1, x2, x3], _ =>
    have h0 := hx x0 (by simp)
    have h1 := hx x1 (by simp)
    have h2 := hx x2 (by simp)
    have h3 := hx x3 (by simp)
    show smithyref01_D_Bytes.f (k + 40) [wr .i64 (Int.tmod (shr x0 0) 256), wr .i64 (Int.tmod (shr x0 8) 256), wr .i64 (Int.tmod (shr x0 16) 256), wr .i64 (Int.tmod (shr x0 24) 256), wr .i64 (Int.tmod (shr x0 32) 256), wr .i64 (Int.tmod (shr x0 40) 256), wr .i64 (Int.tmod (shr x0 48) 256), wr .i64 (Int.tmod (shr x0 56) 256), wr .i64 (Int.tmod (shr x1 0) 256), wr .i64 (Int.tmod (shr x1 8) 256), wr .i64 (Int.tmod (shr x1 16) 256), wr .i64 (Int.tmod (shr x1 24) 256), wr .i64 (Int.tmod (shr x1 32) 256), wr .i64 (Int.tmod (shr x1 40) 256), wr .i64 (Int.tmod (shr x1 48) 256), wr .i64 (Int.tmod (shr x1 56) 256), wr .i64 (Int.tmod (shr x2 0) 256), wr .i64 (Int.tmod (shr x2 8) 256), wr .i64 (Int.tmod (shr x2 16) 256), wr .i64 (Int.tmod (shr x2 24) 256), wr .i64 (Int.tmod (shr x2 32) 256), wr .i64 (Int.tmod (shr x2 40) 256), wr .i64 (Int.tmod (shr x2 48) 256), wr .i64 (Int.tmod (shr x2 56) 256), wr .i64 (Int.tmod (shr x3 0) 256), wr .i64 (Int.tmod (shr x3 8) 256), wr .i64 (Int.tmod (shr x3 16) 256), wr .i64 (Int.tmod (shr x3 24) 256), wr .i64 (Int.tmod (shr x3 32) 256), wr .i64 (Int.tmod (shr x3 40) 256), wr .i64 (Int.tmod (shr x3 48) 256), wr .i64 (Int.tmod (shr x3 56) 256)] = _
    rw [dbytes_lanes]
    simp only [byte_eq _ _ h0, byte_eq _ _ h1, byte_eq _ _ h2, byte_eq _ _ h3]
    rfl
theorem from_lanes (k : Nat) (h0 h1 h2 h3 h4 h5 h6 h7 h8 h9 h10 h11 h12 h13 h14 h15 h16 h17 h18 h19 h20 h21 h22 h23 h24 h25 h26 h27 h28 h29 h30 h31 : Int) : word_From.f (k + 40) [h0, h1, h2, h3, h4, h5, h6, h7, h8, h9, h10, h11, h12, h13, h14, h15, h16, h17, h18, h19, h20, h21, h22, h23, h24, h25, h26, h27, h28, h29, h30, h31] = some [(bits .or .u64 (bits .or .u64 (bits .or .u64 (bits .or .u64 (bits .or .u64 (bits .or .u64 (bits .or .u64 (bits .or .u64 0 (shl .u64 (wr .u64 h31) 0)) (shl .u64 (wr .u64 h30) 8)) (shl .u64 (wr .u64 h29) 16)) (shl .u64 (wr .u64 h28) 24)) (shl .u64 (wr .u64 h27) 32)) (shl .u64 (wr .u64 h26) 40)) (shl .u64 (wr .u64 h25) 48)) (shl .u64 (wr .u64 h24) 56)), (bits .or .u64 (bits .or .u64 (bits .or .u64 (bits .or .u64 (bits .or .u64 (bits .or .u64 (bits .or .u64 (bits .or .u64 0 (shl .u64 (wr .u64 h23) 0)) (shl .u64 (wr .u64 h22) 8)) (shl .u64 (wr .u64 h21) 16)) (shl .u64 (wr .u64 h20) 24)) (shl .u64 (wr .u64 h19) 32)) (shl .u64 (wr .u64 h18) 40)) (shl .u64 (wr .u64 h17) 48)) (shl .u64 (wr .u64 h16) 56)), (bits .or .u64 (bits .or .u64 (bits .or .u64 (bits .or .u64 (bits .or .u64 (bits .or .u64 (bits .or .u64 (bits .or .u64 0 (shl .u64 (wr .u64 h15) 0)) (shl .u64 (wr .u64 h14) 8)) (shl .u64 (wr .u64 h13) 16)) (shl .u64 (wr .u64 h12) 24)) (shl .u64 (wr .u64 h11) 32)) (shl .u64 (wr .u64 h10) 40)) (shl .u64 (wr .u64 h9) 48)) (shl .u64 (wr .u64 h8) 56)), (bits .or .u64 (bits .or .u64 (bits .or .u64 (bits .or .u64 (bits .or .u64 (bits .or .u64 (bits .or .u64 (bits .or .u64 0 (shl .u64 (wr .u64 h7) 0)) (shl .u64 (wr .u64 h6) 8)) (shl .u64 (wr .u64 h5) 16)) (shl .u64 (wr .u64 h4) 24)) (shl .u64 (wr .u64 h3) 32)) (shl .u64 (wr .u64 h2) 40)) (shl .u64 (wr .u64 h1) 48)) (shl .u64 (wr .u64 h0) 56))] := by kernel_rfl
theorem dfrom_lanes (k : Nat) (h0 h1 h2 h3 h4 h5 h6 h7 h8 h9 h10 h11 h12 h13 h14 h15 h16 h17 h18 h19 h20 h21 h22 h23 h24 h25 h26 h27 h28 h29 h30 h31 : Int) : smithyref01_From.f (k + 40) [h0, h1, h2, h3, h4, h5, h6, h7, h8, h9, h10, h11, h12, h13, h14, h15, h16, h17, h18, h19, h20, h21, h22, h23, h24, h25, h26, h27, h28, h29, h30, h31] = some [wr .i64 h31, wr .i64 h30, wr .i64 h29, wr .i64 h28, wr .i64 h27, wr .i64 h26, wr .i64 h25, wr .i64 h24, wr .i64 h23, wr .i64 h22, wr .i64 h21, wr .i64 h20, wr .i64 h19, wr .i64 h18, wr .i64 h17, wr .i64 h16, wr .i64 h15, wr .i64 h14, wr .i64 h13, wr .i64 h12, wr .i64 h11, wr .i64 h10, wr .i64 h9, wr .i64 h8, wr .i64 h7, wr .i64 h6, wr .i64 h5, wr .i64 h4, wr .i64 h3, wr .i64 h2, wr .i64 h1, wr .i64 h0] := by kernel_rfl
theorem dword_lanes (k : Nat) (d0 d1 d2 d3 d4 d5 d6 d7 d8 d9 d10 d11 d12 d13 d14 d15 d16 d17 d18 d19 d20 d21 d22 d23 d24 d25 d26 d27 d28 d29 d30 d31 : Int) : smithyref01_D_Word.f (k + 40) [d0, d1, d2, d3, d4, d5, d6, d7, d8, d9, d10, d11, d12, d13, d14, d15, d16, d17, d18, d19, d20, d21, d22, d23, d24, d25, d26, d27, d28, d29, d30, d31] = some [(wr .u64 ((wr .u64 ((wr .u64 ((wr .u64 ((wr .u64 ((wr .u64 ((wr .u64 ((wr .u64 ((wr .u64 ((wr .u64 ((wr .u64 ((wr .u64 ((wr .u64 ((wr .u64 ((wr .u64 ((wr .u64 (0 * 256)) + (wr .u64 d7))) * 256)) + (wr .u64 d6))) * 256)) + (wr .u64 d5))) * 256)) + (wr .u64 d4))) * 256)) + (wr .u64 d3))) * 256)) + (wr .u64 d2))) * 256)) + (wr .u64 d1))) * 256)) + (wr .u64 d0))), (wr .u64 ((wr .u64 ((wr .u64 ((wr .u64 ((wr .u64 ((wr .u64 ((wr .u64 ((wr .u64 ((wr .u64 ((wr .u64 ((wr .u64 ((wr .u64 ((wr .u64 ((wr .u64 ((wr .u64 ((wr .u64 (0 * 256)) + (wr .u64 d15))) * 256)) + (wr .u64 d14))) * 256)) + (wr .u64 d13))) * 256)) + (wr .u64 d12))) * 256)) + (wr .u64 d11))) * 256)) + (wr .u64 d10))) * 256)) + (wr .u64 d9))) * 256)) + (wr .u64 d8))), (wr .u64 ((wr .u64 ((wr .u64 ((wr .u64 ((wr .u64 ((wr .u64 ((wr .u64 ((wr .u64 ((wr .u64 ((wr .u64 ((wr .u64 ((wr .u64 ((wr .u64 ((wr .u64 ((wr .u64 ((wr .u64 (0 * 256)) + (wr .u64 d23))) * 256)) + (wr .u64 d22))) * 256)) + (wr .u64 d21))) * 256)) + (wr .u64 d20))) * 256)) + (wr .u64 d19))) * 256)) + (wr .u64 d18))) * 256)) + (wr .u64 d17))) * 256)) + (wr .u64 d16))), (wr .u64 ((wr .u64 ((wr .u64 ((wr .u64 ((wr .u64 ((wr .u64 ((wr .u64 ((wr .u64 ((wr .u64 ((wr .u64 ((wr .u64 ((wr .u64 ((wr .u64 ((wr .u64 ((wr .u64 ((wr .u64 (0 * 256)) + (wr .u64 d31))) * 256)) + (wr .u64 d30))) * 256)) + (wr .u64 d29))) * 256)) + (wr .u64 d28))) * 256)) + (wr .u64 d27))) * 256)) + (wr .u64 d26))) * 256)) + (wr .u64 d25))) * 256)) + (wr .u64 d24)))] := by kernel_rfl
theorem or_step (a b k : Nat) (hk : k ≤ 7) (ha : a < 2 ^ (8 * k)) (hb : b < 256) : bits .or .u64 (a : Int) (shl .u64 (wr .u64 (b : Int)) (8 * k)) = ((a + b * 2 ^ (8 * k) : Nat) : Int) := by
  have hp : 2 ^ (8 * k) * 256 = 2 ^ (8 * (k + 1)) := by rw [show 8 * (k + 1) = 8 * k + 8 by omega, Nat.pow_add]
  have hle : 2 ^ (8 * (k + 1)) ≤ 18446744073709551616 := by
    have : 2 ^ (8 * (k + 1)) ≤ 2 ^ 64 := Nat.pow_le_pow_right (by omega) (by omega)
    simpa using this
  have hm : b * 2 ^ (8 * k) ≤ 255 * 2 ^ (8 * k) := Nat.mul_le_mul_right _ (by omega)
  have hlt : b * 2 ^ (8 * k) + 2 ^ (8 * k) ≤ 18446744073709551616 := by omega
  have hpos : 0 < 2 ^ (8 * k) := Nat.two_pow_pos _
  have e1 : wr .u64 (b : Int) = (b : Int) := wr_u64_id (by omega) (by omega)
  have e2 : shl .u64 (b : Int) (8 * k) = ((b * 2 ^ (8 * k) : Nat) : Int) := by
    unfold shl
    have : (b : Int) * 2 ^ (8 * k) = ((b * 2 ^ (8 * k) : Nat) : Int) := by simp
    rw [this]
    exact wr_u64_id (by omega) (by omega)
  rw [e1, e2, bits_or_u64_nat _ _ (by omega) (by omega)]
  have e3 : a ||| b * 2 ^ (8 * k) = a + b * 2 ^ (8 * k) := by
    have := Nat.shiftLeft_add_eq_or_of_lt ha b
    rw [Nat.shiftLeft_eq] at this
    rw [Nat.or_comm, ← this, Nat.add_comm]
  rw [e3]
def num8 (b0 b1 b2 b3 b4 b5 b6 b7 : Nat) : Nat := b0 + b1 * 256 + b2 * 65536 + b3 * 16777216 + b4 * 4294967296 + b5 * 1099511627776 + b6 * 281474976710656 + b7 * 72057594037927936
theorem eightO (b0 b1 b2 b3 b4 b5 b6 b7 : Nat) (h0 : b0 < 256) (h1 : b1 < 256) (h2 : b2 < 256) (h3 : b3 < 256) (h4 : b4 < 256) (h5 : b5 < 256) (h6 : b6 < 256) (h7 : b7 < 256) :
    bits .or .u64 (bits .or .u64 (bits .or .u64 (bits .or .u64 (bits .or .u64 (bits .or .u64 (bits .or .u64 (bits .or .u64 0 (shl .u64 (wr .u64 (b0 : Int)) 0)) (shl .u64 (wr .u64 (b1 : Int)) 8)) (shl .u64 (wr .u64 (b2 : Int)) 16)) (shl .u64 (wr .u64 (b3 : Int)) 24)) (shl .u64 (wr .u64 (b4 : Int)) 32)) (shl .u64 (wr .u64 (b5 : Int)) 40)) (shl .u64 (wr .u64 (b6 : Int)) 48)) (shl .u64 (wr .u64 (b7 : Int)) 56) = ((num8 b0 b1 b2 b3 b4 b5 b6 b7 : Nat) : Int) := by
  have s0 := or_step 0 b0 0 (by omega) (by omega) h0
  have s1 := or_step b0 b1 1 (by omega) (by omega) h1
  have s2 := or_step (b0 + b1 * 256) b2 2 (by omega) (by omega) h2
  have s3 := or_step (b0 + b1 * 256 + b2 * 65536) b3 3 (by omega) (by omega) h3
  have s4 := or_step (b0 + b1 * 256 + b2 * 65536 + b3 * 16777216) b4 4 (by omega) (by omega) h4
  have s5 := or_step (b0 + b1 * 256 + b2 * 65536 + b3 * 16777216 + b4 * 4294967296) b5 5 (by omega) (by omega) h5
  have s6 := or_step (b0 + b1 * 256 + b2 * 65536 + b3 * 16777216 + b4 * 4294967296 + b5 * 1099511627776) b6 6 (by omega) (by omega) h6
  have s7 := or_step (b0 + b1 * 256 + b2 * 65536 + b3 * 16777216 + b4 * 4294967296 + b5 * 1099511627776 + b6 * 281474976710656) b7 7 (by omega) (by omega) h7
  simp only [Nat.mul_zero, Nat.pow_zero, Nat.mul_one, Nat.zero_add, Nat.reduceMul, Nat.reducePow, Int.ofNat_zero, Int.natCast_zero] at s0 s1 s2 s3 s4 s5 s6 s7
  rw [s0, s1, s2, s3, s4, s5, s6, s7]
  rfl
theorem horner (a b : Nat) (ha : a < 72057594037927936) (hb : b < 256) : wr .u64 (wr .u64 ((a : Int) * 256) + wr .u64 (wr .i64 (b : Int))) = ((a * 256 + b : Nat) : Int) := by
  rw [wr_i64_id (x := (b : Int)) (by omega) (by omega), wr_u64_id (x := (b : Int)) (by omega) (by omega), wr_u64_id (x := (a : Int) * 256) (by omega) (by omega), wr_u64_id (by omega) (by omega)]
  omega
theorem eightD (b0 b1 b2 b3 b4 b5 b6 b7 : Nat) (h0 : b0 < 256) (h1 : b1 < 256) (h2 : b2 < 256) (h3 : b3 < 256) (h4 : b4 < 256) (h5 : b5 < 256) (h6 : b6 < 256) (h7 : b7 < 256) :
    wr .u64 (wr .u64 ((wr .u64 (wr .u64 ((wr .u64 (wr .u64 ((wr .u64 (wr .u64 ((wr .u64 (wr .u64 ((wr .u64 (wr .u64 ((wr .u64 (wr .u64 ((wr .u64 (wr .u64 (0 * 256) + wr .u64 (wr .i64 (b7 : Int)))) * 256) + wr .u64 (wr .i64 (b6 : Int)))) * 256) + wr .u64 (wr .i64 (b5 : Int)))) * 256) + wr .u64 (wr .i64 (b4 : Int)))) * 256) + wr .u64 (wr .i64 (b3 : Int)))) * 256) + wr .u64 (wr .i64 (b2 : Int)))) * 256) + wr .u64 (wr .i64 (b1 : Int)))) * 256) + wr .u64 (wr .i64 (b0 : Int))) = ((num8 b0 b1 b2 b3 b4 b5 b6 b7 : Nat) : Int) := by
  have r7 := horner 0 b7 (by omega) h7
  have r6 := horner b7 b6 (by omega) h6
  have r5 := horner (b7 * 256 + b6) b5 (by omega) h5
  have r4 := horner ((b7 * 256 + b6) * 256 + b5) b4 (by omega) h4
  have r3 := horner (((b7 * 256 + b6) * 256 + b5) * 256 + b4) b3 (by omega) h3
  have r2 := horner ((((b7 * 256 + b6) * 256 + b5) * 256 + b4) * 256 + b3) b2 (by omega) h2
  have r1 := horner (((((b7 * 256 + b6) * 256 + b5) * 256 + b4) * 256 + b3) * 256 + b2) b1 (by omega) h1
  have r0 := horner ((((((b7 * 256 + b6) * 256 + b5) * 256 + b4) * 256 + b3) * 256 + b2) * 256 + b1) b0 (by omega) h0
  simp only [Nat.zero_mul, Nat.zero_add, Int.natCast_zero, Int.ofNat_zero] at r7
  rw [r7, r6, r5, r4, r3, r2, r1, r0]
  unfold num8
  exact congrArg (fun n : Nat => (n : Int)) (by omega)
def wfrom (h : List Int) : List Int := [((num8 (rd h 31).toNat (rd h 30).toNat (rd h 29).toNat (rd h 28).toNat (rd h 27).toNat (rd h 26).toNat (rd h 25).toNat (rd h 24).toNat : Nat) : Int), ((num8 (rd h 23).toNat (rd h 22).toNat (rd h 21).toNat (rd h 20).toNat (rd h 19).toNat (rd h 18).toNat (rd h 17).toNat (rd h 16).toNat : Nat) : Int), ((num8 (rd h 15).toNat (rd h 14).toNat (rd h 13).toNat (rd h 12).toNat (rd h 11).toNat (rd h 10).toNat (rd h 9).toNat (rd h 8).toNat : Nat) : Int), ((num8 (rd h 7).toNat (rd h 6).toNat (rd h 5).toNat (rd h 4).toNat (rd h 3).toNat (rd h 2).toNat (rd h 1).toNat (rd h 0).toNat : Nat) : Int)]
theorem num8_lt {b0 b1 b2 b3 b4 b5 b6 b7 : Nat} (h0 : b0 < 256) (h1 : b1 < 256) (h2 : b2 < 256) (h3 : b3 < 256) (h4 : b4 < 256) (h5 : b5 < 256) (h6 : b6 < 256) (h7 : b7 < 256) : num8 b0 b1 b2 b3 b4 b5 b6 b7 < 18446744073709551616 := by unfold num8; omega
theorem from_f (k : Nat) {h : List Int} (hl : h.length = 32) (hb : ∀ x ∈ h, 0 ≤ x ∧ x < 256) : word_From.f (k + 40) h = some (wfrom h) := by
  match h, hl with
  | [h0, h1, h2, h3, h4, h5, h6, h7, h8, h9, h10, h11, h12, h13, h14, h15, h16, h17, h18, h19, h20, h21, h22, h23, h24, h25, h26, h27, h28, h29, h30, h31], _ =>
    rw [from_lanes]
    obtain ⟨h0, rfl⟩ := Int.eq_ofNat_of_zero_le (hb h0 (by simp)).1
    obtain ⟨h1, rfl⟩ := Int.eq_ofNat_of_zero_le (hb h1 (by simp)).1
    obtain ⟨h2, rfl⟩ := Int.eq_ofNat_of_zero_le (hb h2 (by simp)).1
    obtain ⟨h3, rfl⟩ := Int.eq_ofNat_of_zero_le (hb h3 (by simp)).1
    obtain ⟨h4, rfl⟩ := Int.eq_ofNat_of_zero_le (hb h4 (by simp)).1
    obtain ⟨h5, rfl⟩ := Int.eq_ofNat_of_zero_le (hb h5 (by simp)).1
    obtain ⟨h6, rfl⟩ := Int.eq_ofNat_of_zero_le (hb h6 (by simp)).1
    obtain ⟨h7, rfl⟩ := Int.eq_ofNat_of_zero_le (hb h7 (by simp)).1
    obtain ⟨h8, rfl⟩ := Int.eq_ofNat_of_zero_le (hb h8 (by simp)).1
    obtain ⟨h9, rfl⟩ := Int.eq_ofNat_of_zero_le (hb h9 (by simp)).1
    obtain ⟨h10, rfl⟩ := Int.eq_ofNat_of_zero_le (hb h10 (by simp)).1
    obtain ⟨h11, rfl⟩ := Int.eq_ofNat_of_zero_le (hb h11 (by simp)).1
    obtain ⟨h12, rfl⟩ := Int.eq_ofNat_of_zero_le (hb h12 (by simp)).1
    obtain ⟨h13, rfl⟩ := Int.eq_ofNat_of_zero_le (hb h13 (by simp)).1
    obtain ⟨h14, rfl⟩ := Int.eq_ofNat_of_zero_le (hb h14 (by simp)).1
    obtain ⟨h15, rfl⟩ := Int.eq_ofNat_of_zero_le (hb h15 (by simp)).1
    obtain ⟨h16, rfl⟩ := Int.eq_ofNat_of_zero_le (hb h16 (by simp)).1
    obtain ⟨h17, rfl⟩ := Int.eq_ofNat_of_zero_le (hb h17 (by simp)).1
    obtain ⟨h18, rfl⟩ := Int.eq_ofNat_of_zero_le (hb h18 (by simp)).1
    obtain ⟨h19, rfl⟩ := Int.eq_ofNat_of_zero_le (hb h19 (by simp)).1
    obtain ⟨h20, rfl⟩ := Int.eq_ofNat_of_zero_le (hb h20 (by simp)).1
    obtain ⟨h21, rfl⟩ := Int.eq_ofNat_of_zero_le (hb h21 (by simp)).1
    obtain ⟨h22, rfl⟩ := Int.eq_ofNat_of_zero_le (hb h22 (by simp)).1
    obtain ⟨h23, rfl⟩ := Int.eq_ofNat_of_zero_le (hb h23 (by simp)).1
    obtain ⟨h24, rfl⟩ := Int.eq_ofNat_of_zero_le (hb h24 (by simp)).1
    obtain ⟨h25, rfl⟩ := Int.eq_ofNat_of_zero_le (hb h25 (by simp)).1
    obtain ⟨h26, rfl⟩ := Int.eq_ofNat_of_zero_le (hb h26 (by simp)).1
    obtain ⟨h27, rfl⟩ := Int.eq_ofNat_of_zero_le (hb h27 (by simp)).1
    obtain ⟨h28, rfl⟩ := Int.eq_ofNat_of_zero_le (hb h28 (by simp)).1
    obtain ⟨h29, rfl⟩ := Int.eq_ofNat_of_zero_le (hb h29 (by simp)).1
    obtain ⟨h30, rfl⟩ := Int.eq_ofNat_of_zero_le (hb h30 (by simp)).1
    obtain ⟨h31, rfl⟩ := Int.eq_ofNat_of_zero_le (hb h31 (by simp)).1
    have e0 := eightO h31 h30 h29 h28 h27 h26 h25 h24 (by have := (hb h31 (by simp)).2; omega) (by have := (hb h30 (by simp)).2; omega) (by have := (hb h29 (by simp)).2; omega) (by have := (hb h28 (by simp)).2; omega) (by have := (hb h27 (by simp)).2; omega) (by have := (hb h26 (by simp)).2; omega) (by have := (hb h25 (by simp)).2; omega) (by have := (hb h24 (by simp)).2; omega)
    have e1 := eightO h23 h22 h21 h20 h19 h18 h17 h16 (by have := (hb h23 (by simp)).2; omega) (by have := (hb h22 (by simp)).2; omega) (by have := (hb h21 (by simp)).2; omega) (by have := (hb h20 (by simp)).2; omega) (by have := (hb h19 (by simp)).2; omega) (by have := (hb h18 (by simp)).2; omega) (by have := (hb h17 (by simp)).2; omega) (by have := (hb h16 (by simp)).2; omega)
    have e2 := eightO h15 h14 h13 h12 h11 h10 h9 h8 (by have := (hb h15 (by simp)).2; omega) (by have := (hb h14 (by simp)).2; omega) (by have := (hb h13 (by simp)).2; omega) (by have := (hb h12 (by simp)).2; omega) (by have := (hb h11 (by simp)).2; omega) (by have := (hb h10 (by simp)).2; omega) (by have := (hb h9 (by simp)).2; omega) (by have := (hb h8 (by simp)).2; omega)
    have e3 := eightO h7 h6 h5 h4 h3 h2 h1 h0 (by have := (hb h7 (by simp)).2; omega) (by have := (hb h6 (by simp)).2; omega) (by have := (hb h5 (by simp)).2; omega) (by have := (hb h4 (by simp)).2; omega) (by have := (hb h3 (by simp)).2; omega) (by have := (hb h2 (by simp)).2; omega) (by have := (hb h1 (by simp)).2; omega) (by have := (hb h0 (by simp)).2; omega)
    rw [e0, e1, e2, e3]
    rfl
def dfrom (h : List Int) : List Int := [wr .i64 (rd h 31), wr .i64 (rd h 30), wr .i64 (rd h 29), wr .i64 (rd h 28), wr .i64 (rd h 27), wr .i64 (rd h 26), wr .i64 (rd h 25), wr .i64 (rd h 24), wr .i64 (rd h 23), wr .i64 (rd h 22), wr .i64 (rd h 21), wr .i64 (rd h 20), wr .i64 (rd h 19), wr .i64 (rd h 18), wr .i64 (rd h 17), wr .i64 (rd h 16), wr .i64 (rd h 15), wr .i64 (rd h 14), wr .i64 (rd h 13), wr .i64 (rd h 12), wr .i64 (rd h 11), wr .i64 (rd h 10), wr .i64 (rd h 9), wr .i64 (rd h 8), wr .i64 (rd h 7), wr .i64 (rd h 6), wr .i64 (rd h 5), wr .i64 (rd h 4), wr .i64 (rd h 3), wr .i64 (rd h 2), wr .i64 (rd h 1), wr .i64 (rd h 0)]
theorem dfrom_f (k : Nat) {h : List Int} (hl : h.length = 32) : smithyref01_From.f (k + 40) h = some (dfrom h) := by
  match h, hl with
  | [h0, h1, h2, h3, h4, h5, h6, h7, h8, h9, h10, h11, h12, h13, h14, h15, h16, h17, h18, h19, h20, h21, h22, h23, h24, h25, h26, h27, h28, h29, h30, h31], _ => exact dfrom_lanes k h0 h1 h2 h3 h4 h5 h6 h7 h8 h9 h10 h11 h12 h13 h14 h15 h16 h17 h18 h19 h20 h21 h22 h23 h24 h25 h26 h27 h28 h29 h30 h31
theorem dword_f (k : Nat) {h : List Int} (hl : h.length = 32) (hb : ∀ x ∈ h, 0 ≤ x ∧ x < 256) : smithyref01_D_Word.f (k + 40) (dfrom h) = some (wfrom h) := by
  match h, hl with
  | [h0, h1, h2, h3, h4, h5, h6, h7, h8, h9, h10, h11, h12, h13, h14, h15, h16, h17, h18, h19, h20, h21, h22, h23, h24, h25, h26, h27, h28, h29, h30, h31], _ =>
    obtain ⟨h0, rfl⟩ := Int.eq_ofNat_of_zero_le (hb h0 (by simp)).1
    obtain ⟨h1, rfl⟩ := Int.eq_ofNat_of_zero_le (hb h1 (by simp)).1
    obtain ⟨h2, rfl⟩ := Int.eq_ofNat_of_zero_le (hb h2 (by simp)).1
    obtain ⟨h3, rfl⟩ := Int.eq_ofNat_of_zero_le (hb h3 (by simp)).1
    obtain ⟨h4, rfl⟩ := Int.eq_ofNat_of_zero_le (hb h4 (by simp)).1
    obtain ⟨h5, rfl⟩ := Int.eq_ofNat_of_zero_le (hb h5 (by simp)).1
    obtain ⟨h6, rfl⟩ := Int.eq_ofNat_of_zero_le (hb h6 (by simp)).1
    obtain ⟨h7, rfl⟩ := Int.eq_ofNat_of_zero_le (hb h7 (by simp)).1
    obtain ⟨h8, rfl⟩ := Int.eq_ofNat_of_zero_le (hb h8 (by simp)).1
    obtain ⟨h9, rfl⟩ := Int.eq_ofNat_of_zero_le (hb h9 (by simp)).1
    obtain ⟨h10, rfl⟩ := Int.eq_ofNat_of_zero_le (hb h10 (by simp)).1
    obtain ⟨h11, rfl⟩ := Int.eq_ofNat_of_zero_le (hb h11 (by simp)).1
    obtain ⟨h12, rfl⟩ := Int.eq_ofNat_of_zero_le (hb h12 (by simp)).1
    obtain ⟨h13, rfl⟩ := Int.eq_ofNat_of_zero_le (hb h13 (by simp)).1
    obtain ⟨h14, rfl⟩ := Int.eq_ofNat_of_zero_le (hb h14 (by simp)).1
    obtain ⟨h15, rfl⟩ := Int.eq_ofNat_of_zero_le (hb h15 (by simp)).1
    obtain ⟨h16, rfl⟩ := Int.eq_ofNat_of_zero_le (hb h16 (by simp)).1
    obtain ⟨h17, rfl⟩ := Int.eq_ofNat_of_zero_le (hb h17 (by simp)).1
    obtain ⟨h18, rfl⟩ := Int.eq_ofNat_of_zero_le (hb h18 (by simp)).1
    obtain ⟨h19, rfl⟩ := Int.eq_ofNat_of_zero_le (hb h19 (by simp)).1
    obtain ⟨h20, rfl⟩ := Int.eq_ofNat_of_zero_le (hb h20 (by simp)).1
    obtain ⟨h21, rfl⟩ := Int.eq_ofNat_of_zero_le (hb h21 (by simp)).1
    obtain ⟨h22, rfl⟩ := Int.eq_ofNat_of_zero_le (hb h22 (by simp)).1
    obtain ⟨h23, rfl⟩ := Int.eq_ofNat_of_zero_le (hb h23 (by simp)).1
    obtain ⟨h24, rfl⟩ := Int.eq_ofNat_of_zero_le (hb h24 (by simp)).1
    obtain ⟨h25, rfl⟩ := Int.eq_ofNat_of_zero_le (hb h25 (by simp)).1
    obtain ⟨h26, rfl⟩ := Int.eq_ofNat_of_zero_le (hb h26 (by simp)).1
    obtain ⟨h27, rfl⟩ := Int.eq_ofNat_of_zero_le (hb h27 (by simp)).1
    obtain ⟨h28, rfl⟩ := Int.eq_ofNat_of_zero_le (hb h28 (by simp)).1
    obtain ⟨h29, rfl⟩ := Int.eq_ofNat_of_zero_le (hb h29 (by simp)).1
    obtain ⟨h30, rfl⟩ := Int.eq_ofNat_of_zero_le (hb h30 (by simp)).1
    obtain ⟨h31, rfl⟩ := Int.eq_ofNat_of_zero_le (hb h31 (by simp)).1
    have e0 := eightD h31 h30 h29 h28 h27 h26 h25 h24 (by have := (hb h31 (by simp)).2; omega) (by have := (hb h30 (by simp)).2; omega) (by have := (hb h29 (by simp)).2; omega) (by have := (hb h28 (by simp)).2; omega) (by have := (hb h27 (by simp)).2; omega) (by have := (hb h26 (by simp)).2; omega) (by have := (hb h25 (by simp)).2; omega) (by have := (hb h24 (by simp)).2; omega)
    have e1 := eightD h23 h22 h21 h20 h19 h18 h17 h16 (by have := (hb h23 (by simp)).2; omega) (by have := (hb h22 (by simp)).2; omega) (by have := (hb h21 (by simp)).2; omega) (by have := (hb h20 (by simp)).2; omega) (by have := (hb h19 (by simp)).2; omega) (by have := (hb h18 (by simp)).2; omega) (by have := (hb h17 (by simp)).2; omega) (by have := (hb h16 (by simp)).2; omega)
    have e2 := eightD h15 h14 h13 h12 h11 h10 h9 h8 (by have := (hb h15 (by simp)).2; omega) (by have := (hb h14 (by simp)).2; omega) (by have := (hb h13 (by simp)).2; omega) (by have := (hb h12 (by simp)).2; omega) (by have := (hb h11 (by simp)).2; omega) (by have := (hb h10 (by simp)).2; omega) (by have := (hb h9 (by simp)).2; omega) (by have := (hb h8 (by simp)).2; omega)
    have e3 := eightD h7 h6 h5 h4 h3 h2 h1 h0 (by have := (hb h7 (by simp)).2; omega) (by have := (hb h6 (by simp)).2; omega) (by have := (hb h5 (by simp)).2; omega) (by have := (hb h4 (by simp)).2; omega) (by have := (hb h3 (by simp)).2; omega) (by have := (hb h2 (by simp)).2; omega) (by have := (hb h1 (by simp)).2; omega) (by have := (hb h0 (by simp)).2; omega)
    show smithyref01_D_Word.f (k + 40) [wr .i64 (h31 : Int), wr .i64 (h30 : Int), wr .i64 (h29 : Int), wr .i64 (h28 : Int), wr .i64 (h27 : Int), wr .i64 (h26 : Int), wr .i64 (h25 : Int), wr .i64 (h24 : Int), wr .i64 (h23 : Int), wr .i64 (h22 : Int), wr .i64 (h21 : Int), wr .i64 (h20 : Int), wr .i64 (h19 : Int), wr .i64 (h18 : Int), wr .i64 (h17 : Int), wr .i64 (h16 : Int), wr .i64 (h15 : Int), wr .i64 (h14 : Int), wr .i64 (h13 : Int), wr .i64 (h12 : Int), wr .i64 (h11 : Int), wr .i64 (h10 : Int), wr .i64 (h9 : Int), wr .i64 (h8 : Int), wr .i64 (h7 : Int), wr .i64 (h6 : Int), wr .i64 (h5 : Int), wr .i64 (h4 : Int), wr .i64 (h3 : Int), wr .i64 (h2 : Int), wr .i64 (h1 : Int), wr .i64 (h0 : Int)] = _
    rw [dword_lanes, e0, e1, e2, e3]
    rfl
end GW
