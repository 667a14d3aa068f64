/-
  How long a word is, in bits: the program's table and the document's digits, both against the number itself.
-/
import Derived.Test.YtfebengelehglaaPureTables
set_option linter.unusedVariables false
set_option linter.unusedSimpArgs false
namespace GW
open Go Go.RowKit
/-- n is the length of v in bits. -/
def LenIs (v n : Nat) : Prop := v < 2 ^ n ∧ (n = 0 ∨ 2 ^ (n - 1) ≤ v)
theorem LenIs.unique {v n m : Nat} (h : LenIs v n) (g : LenIs v m) : n = m := by
  have key : ∀ {a b : Nat}, LenIs v a → LenIs v b → a ≤ b := by
    intro a b ha hb
    rcases ha.2 with h0 | h1
    · omega
    · rcases Nat.lt_or_ge b a with hlt | hge
      · have : 2 ^ b ≤ 2 ^ (a - 1) := Nat.pow_le_pow_right (by omega) (by omega)
        have := hb.1
        omega
      · exact hge
  exact Nat.le_antisymm (key h g) (key g h)
theorem LenIs.zero : LenIs 0 0 := ⟨by simp, Or.inl rfl⟩
theorem LenIs.up {v n k : Nat} (r : Nat) (hr : r < 2 ^ k) (hv : 0 < v) (h : LenIs v n) : LenIs (v * 2 ^ k + r) (n + k) := by
  have hn : n ≠ 0 := by
    intro h0; subst h0; have := h.1; simp at this; omega
  refine ⟨?_, Or.inr ?_⟩
  · have : v + 1 ≤ 2 ^ n := h.1
    have h2 := Nat.mul_le_mul_right (2 ^ k) this
    rw [← Nat.pow_add] at h2
    rw [Nat.add_mul, Nat.one_mul] at h2
    omega
  · rcases h.2 with h0 | h1
    · exact absurd h0 hn
    · have h2 := Nat.mul_le_mul_right (2 ^ k) h1
      rw [← Nat.pow_add] at h2
      have : n + k - 1 = n - 1 + k := by omega
      rw [this]
      omega
theorem shr_nat (v k : Nat) : shr (v : Int) k = ((v / 2 ^ k : Nat) : Int) := by
  unfold shr
  rw [Int.fdiv_eq_ediv_of_nonneg _ (by exact Int.le_of_lt (Int.pow_pos (by omega)))]
  simp
theorem table_len : ∀ i : Nat, i < 256 → ∃ n : Nat, bt txt0 (i : Int) = (n : Int) ∧ n ≤ 8 ∧ LenIs i n := by
  have h : (List.range 256).all (fun i => (bt txt0 (i : Int) == ((bt txt0 (i : Int)).toNat : Int)) && decide ((bt txt0 (i : Int)).toNat ≤ 8) && decide (i < 2 ^ (bt txt0 (i : Int)).toNat) && (((bt txt0 (i : Int)).toNat == 0) || decide (2 ^ ((bt txt0 (i : Int)).toNat - 1) ≤ i))) = true := by kernel_rfl
  intro i hi
  have := List.all_eq_true.mp h i (List.mem_range.mpr hi)
  simp only [Bool.and_eq_true, beq_iff_eq, decide_eq_true_eq, Bool.or_eq_true] at this
  exact ⟨_, this.1.1.1, this.1.1.2, this.1.2, this.2⟩
theorem len_j3 (y v : Nat) (hy : y ≤ 56) (hv : v < 256) : ∃ n : Nat, n ≤ 8 ∧ LenIs v n ∧ bits_Len64.j3 (y : Int) (v : Int) = some ((y + n : Nat) : Int) := by
  obtain ⟨n, e, hn, h⟩ := table_len v hv
  refine ⟨n, hn, h, ?_⟩
  unfold bits_Len64.j3
  have e1 : wr .u8 (v : Int) = (v : Int) := wr_u8_id (by omega) (by omega)
  have hs : (txt0.size : Int) = 256 := by kernel_rfl
  rw [e1, if_pos ⟨by omega, by omega⟩, e, wr_i64_id (x := (n : Int)) (by omega) (by omega), wr_i64_id (by omega) (by omega)]
  rfl
theorem len_up {v n y : Nat} (k : Nat) (hv : 2 ^ k ≤ v) (h : LenIs (v / 2 ^ k) n) : LenIs v (n + k) := by
  have h0 : 0 < v / 2 ^ k := Nat.div_pos hv (Nat.two_pow_pos k)
  have := LenIs.up (v % 2 ^ k) (Nat.mod_lt _ (Nat.two_pow_pos k)) h0 h
  rwa [Nat.mul_comm, Nat.div_add_mod] at this
theorem len_j2 (y v : Nat) (hy : y ≤ 48) (hv : v < 65536) : ∃ n : Nat, n ≤ 16 ∧ LenIs v n ∧ bits_Len64.j2 (y : Int) (v : Int) = some ((y + n : Nat) : Int) := by
  unfold bits_Len64.j2
  by_cases h : 256 ≤ v
  · have e1 : wr .i64 ((y : Int) + 8) = ((y + 8 : Nat) : Int) := by rw [wr_i64_id (by omega) (by omega)]; omega
    obtain ⟨n, hn, hl, e⟩ := len_j3 (y + 8) (v / 2 ^ 8) (by omega) (by omega)
    refine ⟨n + 8, by omega, len_up (y := 0) 8 (by omega) hl, ?_⟩
    rw [if_pos (by simp; omega), e1, shr_nat, e]
    exact congrArg some (by omega)
  · obtain ⟨n, hn, hl, e⟩ := len_j3 y v (by omega) (by omega)
    refine ⟨n, by omega, hl, ?_⟩
    rw [if_neg (by simp; omega), e]
theorem len_j1 (y v : Nat) (hy : y ≤ 32) (hv : v < 4294967296) : ∃ n : Nat, n ≤ 32 ∧ LenIs v n ∧ bits_Len64.j1 (y : Int) (v : Int) = some ((y + n : Nat) : Int) := by
  unfold bits_Len64.j1
  by_cases h : 65536 ≤ v
  · have e1 : wr .i64 ((y : Int) + 16) = ((y + 16 : Nat) : Int) := by rw [wr_i64_id (by omega) (by omega)]; omega
    obtain ⟨n, hn, hl, e⟩ := len_j2 (y + 16) (v / 2 ^ 16) (by omega) (by omega)
    refine ⟨n + 16, by omega, len_up (y := 0) 16 (by omega) hl, ?_⟩
    rw [if_pos (by simp; omega), e1, shr_nat, e]
    exact congrArg some (by omega)
  · obtain ⟨n, hn, hl, e⟩ := len_j2 y v (by omega) (by omega)
    refine ⟨n, by omega, hl, ?_⟩
    rw [if_neg (by simp; omega), e]
theorem len64_eq (v : Nat) (hv : v < 18446744073709551616) : ∃ n : Nat, n ≤ 64 ∧ LenIs v n ∧ bits_Len64.f (v : Int) = some (n : Int) := by
  unfold bits_Len64.f
  by_cases h : 4294967296 ≤ v
  · obtain ⟨n, hn, hl, e⟩ := len_j1 32 (v / 2 ^ 32) (by omega) (by omega)
    refine ⟨n + 32, by omega, len_up (y := 0) 32 (by omega) hl, ?_⟩
    rw [if_pos (by simp; omega), shr_nat]
    refine Eq.trans e ?_
    exact congrArg some (by omega)
  · obtain ⟨n, hn, hl, e⟩ := len_j1 0 v (by omega) (by omega)
    refine ⟨n, by omega, hl, ?_⟩
    rw [if_neg (by simp; omega)]
    refine Eq.trans e ?_
    exact congrArg some (by omega)
theorem z0_ : (((0 : Nat) : Int) != 0) = false := rfl
/-- The number that a word's four parts are. -/
def num4 (a b c d : Nat) : Nat := a + 18446744073709551616 * b + 18446744073709551616 * 18446744073709551616 * c + 18446744073709551616 * 18446744073709551616 * 18446744073709551616 * d
theorem wordLen_eq (a b c d : Nat) (ha : a < 18446744073709551616) (hb : b < 18446744073709551616) (hc : c < 18446744073709551616) (hd : d < 18446744073709551616) (k : Nat) :
    ∃ n : Nat, n ≤ 256 ∧ LenIs (num4 a b c d) n ∧ word_Len.f (k + 5) [(a : Int), b, c, d] = some (n : Int) := by
  obtain ⟨na, la, La, ea⟩ := len64_eq a ha
  obtain ⟨nb, lb, Lb, eb⟩ := len64_eq b hb
  obtain ⟨nc, lc, Lc, ec⟩ := len64_eq c hc
  obtain ⟨nd, ld, Ld, ed⟩ := len64_eq d hd
  have st : word_Len.f (k + 5) [(a : Int), b, c, d] = if ((d : Int) != 0) = true then (bits_Len64.f d).bind (fun t => some (wr .i64 (192 + t))) else if ((c : Int) != 0) = true then (bits_Len64.f c).bind (fun t => some (wr .i64 (128 + t))) else if ((b : Int) != 0) = true then (bits_Len64.f b).bind (fun t => some (wr .i64 (64 + t))) else if ((a : Int) != 0) = true then (bits_Len64.f a).bind (fun t => some (wr .i64 (0 + t))) else some 0 := by rfl
  rw [st, ea, eb, ec, ed]
  simp only [Option.bind_some]
  by_cases h3 : d = 0
  · subst h3
    by_cases h2 : c = 0
    · subst h2
      by_cases h1 : b = 0
      · subst h1
        by_cases h0 : a = 0
        · subst h0
          exact ⟨0, by omega, LenIs.zero, by simp⟩
        · refine ⟨na, by omega, by simpa [num4] using La, ?_⟩
          have : ((a : Int) != 0) = true := by simp; omega
          simp only [z0_, Bool.false_eq_true, if_false, this, if_true]
          rw [wr_i64_id (by omega) (by omega)]
          exact congrArg some (by omega)
      · refine ⟨nb + 64, by omega, ?_, ?_⟩
        · have := Lb.up (k := 64) a (by omega) (by omega)
          have e : num4 a b 0 0 = b * 2 ^ 64 + a := by unfold num4; omega
          rw [e]; exact this
        · have : ((b : Int) != 0) = true := by simp; omega
          simp only [z0_, Bool.false_eq_true, if_false, this, if_true]
          rw [wr_i64_id (by omega) (by omega)]
          exact congrArg some (by omega)
    · refine ⟨nc + 128, by omega, ?_, ?_⟩
      · have := Lc.up (k := 128) (a + 18446744073709551616 * b) (by omega) (by omega)
        have e : num4 a b c 0 = c * 2 ^ 128 + (a + 18446744073709551616 * b) := by unfold num4; omega
        rw [e]; exact this
      · have : ((c : Int) != 0) = true := by simp; omega
        simp only [z0_, Bool.false_eq_true, if_false, this, if_true]
        rw [wr_i64_id (by omega) (by omega)]
        exact congrArg some (by omega)
  · refine ⟨nd + 192, by omega, ?_, ?_⟩
    · have := Ld.up (k := 192) (a + 18446744073709551616 * b + 18446744073709551616 * 18446744073709551616 * c) (by omega) (by omega)
      have e : num4 a b c d = d * 2 ^ 192 + (a + 18446744073709551616 * b + 18446744073709551616 * 18446744073709551616 * c) := by unfold num4; omega
      rw [e]; exact this
    · have : ((d : Int) != 0) = true := by simp; omega
      simp only [z0_, Bool.false_eq_true, if_false, this, if_true]
      rw [wr_i64_id (by omega) (by omega)]
      exact congrArg some (by omega)
end GW
