/-
  What the law 'GasLengths' says of plain values: no sum goes round, and a word's length in bytes is the same by both ways.
-/
import Derived.Test.YtfebengelehglaaPureDigits
set_option linter.unusedVariables false
set_option linter.unusedSimpArgs false
namespace GW
open Go Go.RowKit
theorem words_far (n : Nat) (h : n ≤ 4294967296) : mem_Words.f (n : Int) = some (((n + 31) / 32 : Nat) : Int) ∧ smithyref10_Words.f (n : Int) = some (((n + 31) / 32 : Nat) : Int) := by
  unfold mem_Words.f mem_Words.j1 smithyref10_Words.f
  rw [tdiv_pos (by omega), tmod_pos (by omega), wr_u64_id (x := (n : Int) / 32) (by omega) (by omega), wr_u64_id (x := (n : Int) / 32 + 1) (by omega) (by omega)]
  by_cases h0 : (n : Int) % 32 = 0
  · have h1 : ¬ 0 < (n : Int) % 32 := by omega
    simp [h0]
    omega
  · have h1 : 0 < (n : Int) % 32 := by omega
    simp [h0, h1]
    omega
theorem exp_eq (x : List Int) (hx : x.length = 4) (hw : ∀ y ∈ x, inK .u64 y) : ∃ e : Int, gas_Exp.f 300 x = some e ∧ smithyref12_Exp.f 300 x = some e := by
  match x, hx with
  | [a, b, c, d], _ =>
    have ha := inK_u64 (hw a (by simp))
    have hb := inK_u64 (hw b (by simp))
    have hc := inK_u64 (hw c (by simp))
    have hd := inK_u64 (hw d (by simp))
    obtain ⟨a, rfl⟩ := Int.eq_ofNat_of_zero_le ha.1
    obtain ⟨b, rfl⟩ := Int.eq_ofNat_of_zero_le hb.1
    obtain ⟨c, rfl⟩ := Int.eq_ofNat_of_zero_le hc.1
    obtain ⟨d, rfl⟩ := Int.eq_ofNat_of_zero_le hd.1
    obtain ⟨n, hn, hl, e⟩ := wordLen_eq a b c d (by omega) (by omega) (by omega) (by omega) 295
    obtain ⟨m, hm, hr, g⟩ := reflen_eq a b c d (by omega) (by omega) (by omega) (by omega) 300 (by omega)
    obtain rfl := hl.unique hr
    refine ⟨wr .u64 (10 + wr .u64 (50 * wr .u64 (wr .i64 (Int.tdiv (wr .i64 ((n : Int) + 7)) 8)))), ?_, ?_⟩
    · unfold gas_Exp.f word_Size.f
      show (Option.bind (Option.bind (word_Len.f (295 + 5) _) _) _) = _
      rw [e]
      rfl
    · unfold smithyref12_Exp.f
      cases h : smithyref01_Of.f 300 [(a : Int), b, c, d] with
      | none => rw [h] at g; cases g
      | some z =>
        rw [h] at g
        simp only [Option.bind_some] at g ⊢
        rw [g, Option.bind_some]
theorem smithylaw12_GasLengths_true (a0 : Int) (a1 : Int) (a2 : List Int) (a3 : Bool) (w0 : inK .u64 a0) (w1 : inK .u8 a1) (l2 : a2.length = 4) (w2 : ∀ y ∈ a2, inK .u64 y) : ∃ k : Nat, smithylaw12_GasLengths.f k a0 a1 a2 a3 = some true := by
  refine ⟨300, ?_⟩
  have h0 := inK_u64 w0
  unfold smithylaw12_GasLengths.f smithylaw12_GasLengths.j1
  rw [tmod_pos h0.1]
  have hb : 0 ≤ a0 % 4294967297 ∧ a0 % 4294967297 ≤ 4294967296 := by omega
  generalize a0 % 4294967297 = p at *
  obtain ⟨n, rfl⟩ := Int.eq_ofNat_of_zero_le hb.1
  obtain ⟨u1, u2⟩ := words_far n (by omega)
  obtain ⟨e, g1, g2⟩ := exp_eq a2 l2 w2
  unfold gas_Copy.f gas_Keccak.f gas_Log.f gas_Deposit.f gas_Create.f
  rw [u1, u2, fixed_eq, g1, g2]
  have hw : (((n + 31) / 32 : Nat) : Int) ≤ 134217728 := by omega
  have hw0 : (0 : Int) ≤ (((n + 31) / 32 : Nat) : Int) := by omega
  generalize (((n + 31) / 32 : Nat) : Int) = w at *
  simp only [Option.bind_some, either_eq, beq_self_eq_true, if_true]
  cases a3
  · simp only [Bool.false_eq_true, if_false, Option.bind_some]
    rw [wr_u64_id (x := 2 * w) (by omega) (by omega), wr_u64_id (x := w * 2) (by omega) (by omega)]
    simp [Int.mul_comm]
  · simp only [if_true, Option.bind_some]
    rw [wr_u64_id (x := 2 * w) (by omega) (by omega), wr_u64_id (x := 6 * w) (by omega) (by omega), wr_u64_id (x := w * 8) (by omega) (by omega), wr_u64_id (x := 32000 + 2 * w) (by omega) (by omega), wr_u64_id (x := 32000 + 2 * w + 6 * w) (by omega) (by omega), wr_u64_id (x := 32000 + w * 8) (by omega) (by omega)]
    simp
    omega
end GW
