/-
  32 bytes as a word and back; the law of salts.
-/
import Derived.Test.YtomjijlopdcojaaDoorPureAddr
set_option linter.unusedVariables false
set_option linter.unusedSimpArgs false
set_option maxRecDepth 100000
namespace GW
open Go Go.RowKit
theorem back32 (x : List Int) (hl : x.length = 32) (ha : ∀ y ∈ x, 0 ≤ y ∧ y < 256) : ∃ z l : List Int, word_From.f 4000 x = some z ∧ addr_Of.f 4000 z = some l ∧ smithyref08_last.f 4000 x = some l := by
  match x, hl with
  | [c0, c1, c2, c3, c4, c5, c6, c7, c8, c9, c10, c11, c12, c13, c14, c15, c16, c17, c18, c19, c20, c21, c22, c23, c24, c25, c26, c27, c28, c29, c30, c31], _ =>
    obtain ⟨c0, rfl⟩ := Int.eq_ofNat_of_zero_le (ha c0 (by simp)).1
    obtain ⟨c1, rfl⟩ := Int.eq_ofNat_of_zero_le (ha c1 (by simp)).1
    obtain ⟨c2, rfl⟩ := Int.eq_ofNat_of_zero_le (ha c2 (by simp)).1
    obtain ⟨c3, rfl⟩ := Int.eq_ofNat_of_zero_le (ha c3 (by simp)).1
    obtain ⟨c4, rfl⟩ := Int.eq_ofNat_of_zero_le (ha c4 (by simp)).1
    obtain ⟨c5, rfl⟩ := Int.eq_ofNat_of_zero_le (ha c5 (by simp)).1
    obtain ⟨c6, rfl⟩ := Int.eq_ofNat_of_zero_le (ha c6 (by simp)).1
    obtain ⟨c7, rfl⟩ := Int.eq_ofNat_of_zero_le (ha c7 (by simp)).1
    obtain ⟨c8, rfl⟩ := Int.eq_ofNat_of_zero_le (ha c8 (by simp)).1
    obtain ⟨c9, rfl⟩ := Int.eq_ofNat_of_zero_le (ha c9 (by simp)).1
    obtain ⟨c10, rfl⟩ := Int.eq_ofNat_of_zero_le (ha c10 (by simp)).1
    obtain ⟨c11, rfl⟩ := Int.eq_ofNat_of_zero_le (ha c11 (by simp)).1
    obtain ⟨c12, rfl⟩ := Int.eq_ofNat_of_zero_le (ha c12 (by simp)).1
    obtain ⟨c13, rfl⟩ := Int.eq_ofNat_of_zero_le (ha c13 (by simp)).1
    obtain ⟨c14, rfl⟩ := Int.eq_ofNat_of_zero_le (ha c14 (by simp)).1
    obtain ⟨c15, rfl⟩ := Int.eq_ofNat_of_zero_le (ha c15 (by simp)).1
    obtain ⟨c16, rfl⟩ := Int.eq_ofNat_of_zero_le (ha c16 (by simp)).1
    obtain ⟨c17, rfl⟩ := Int.eq_ofNat_of_zero_le (ha c17 (by simp)).1
    obtain ⟨c18, rfl⟩ := Int.eq_ofNat_of_zero_le (ha c18 (by simp)).1
    obtain ⟨c19, rfl⟩ := Int.eq_ofNat_of_zero_le (ha c19 (by simp)).1
    obtain ⟨c20, rfl⟩ := Int.eq_ofNat_of_zero_le (ha c20 (by simp)).1
    obtain ⟨c21, rfl⟩ := Int.eq_ofNat_of_zero_le (ha c21 (by simp)).1
    obtain ⟨c22, rfl⟩ := Int.eq_ofNat_of_zero_le (ha c22 (by simp)).1
    obtain ⟨c23, rfl⟩ := Int.eq_ofNat_of_zero_le (ha c23 (by simp)).1
    obtain ⟨c24, rfl⟩ := Int.eq_ofNat_of_zero_le (ha c24 (by simp)).1
    obtain ⟨c25, rfl⟩ := Int.eq_ofNat_of_zero_le (ha c25 (by simp)).1
    obtain ⟨c26, rfl⟩ := Int.eq_ofNat_of_zero_le (ha c26 (by simp)).1
    obtain ⟨c27, rfl⟩ := Int.eq_ofNat_of_zero_le (ha c27 (by simp)).1
    obtain ⟨c28, rfl⟩ := Int.eq_ofNat_of_zero_le (ha c28 (by simp)).1
    obtain ⟨c29, rfl⟩ := Int.eq_ofNat_of_zero_le (ha c29 (by simp)).1
    obtain ⟨c30, rfl⟩ := Int.eq_ofNat_of_zero_le (ha c30 (by simp)).1
    obtain ⟨c31, rfl⟩ := Int.eq_ofNat_of_zero_le (ha c31 (by simp)).1
    have e0 := eightN c31 c30 c29 c28 c27 c26 c25 c24 (by have := (ha c31 (by simp)).2; omega) (by have := (ha c30 (by simp)).2; omega) (by have := (ha c29 (by simp)).2; omega) (by have := (ha c28 (by simp)).2; omega) (by have := (ha c27 (by simp)).2; omega) (by have := (ha c26 (by simp)).2; omega) (by have := (ha c25 (by simp)).2; omega) (by have := (ha c24 (by simp)).2; omega)
    have e1 := eightN c23 c22 c21 c20 c19 c18 c17 c16 (by have := (ha c23 (by simp)).2; omega) (by have := (ha c22 (by simp)).2; omega) (by have := (ha c21 (by simp)).2; omega) (by have := (ha c20 (by simp)).2; omega) (by have := (ha c19 (by simp)).2; omega) (by have := (ha c18 (by simp)).2; omega) (by have := (ha c17 (by simp)).2; omega) (by have := (ha c16 (by simp)).2; omega)
    have e2 := eightN c15 c14 c13 c12 c11 c10 c9 c8 (by have := (ha c15 (by simp)).2; omega) (by have := (ha c14 (by simp)).2; omega) (by have := (ha c13 (by simp)).2; omega) (by have := (ha c12 (by simp)).2; omega) (by have := (ha c11 (by simp)).2; omega) (by have := (ha c10 (by simp)).2; omega) (by have := (ha c9 (by simp)).2; omega) (by have := (ha c8 (by simp)).2; omega)
    rw [from_lanes, last_lanes]
    refine ⟨_, _, rfl, ?_, rfl⟩
    unfold addr_Of.f
    rw [bytes_lanes, Option.bind_some, e0, e1, e2]
    simp only [shr_nat8, wr_u8, List.drop_succ_cons, List.drop_zero, List.take_succ_cons, List.take_zero]
    have l0 := (ha c0 (by simp)).2
    have l1 := (ha c1 (by simp)).2
    have l2 := (ha c2 (by simp)).2
    have l3 := (ha c3 (by simp)).2
    have l4 := (ha c4 (by simp)).2
    have l5 := (ha c5 (by simp)).2
    have l6 := (ha c6 (by simp)).2
    have l7 := (ha c7 (by simp)).2
    have l8 := (ha c8 (by simp)).2
    have l9 := (ha c9 (by simp)).2
    have l10 := (ha c10 (by simp)).2
    have l11 := (ha c11 (by simp)).2
    have l12 := (ha c12 (by simp)).2
    have l13 := (ha c13 (by simp)).2
    have l14 := (ha c14 (by simp)).2
    have l15 := (ha c15 (by simp)).2
    have l16 := (ha c16 (by simp)).2
    have l17 := (ha c17 (by simp)).2
    have l18 := (ha c18 (by simp)).2
    have l19 := (ha c19 (by simp)).2
    have l20 := (ha c20 (by simp)).2
    have l21 := (ha c21 (by simp)).2
    have l22 := (ha c22 (by simp)).2
    have l23 := (ha c23 (by simp)).2
    have l24 := (ha c24 (by simp)).2
    have l25 := (ha c25 (by simp)).2
    have l26 := (ha c26 (by simp)).2
    have l27 := (ha c27 (by simp)).2
    have l28 := (ha c28 (by simp)).2
    have l29 := (ha c29 (by simp)).2
    have l30 := (ha c30 (by simp)).2
    have l31 := (ha c31 (by simp)).2
    refine congrArg some ?_
    simp only [List.cons.injEq, and_true]
    refine ⟨?_, ?_, ?_, ?_, ?_, ?_, ?_, ?_, ?_, ?_, ?_, ?_, ?_, ?_, ?_, ?_, ?_, ?_, ?_, ?_⟩ <;> omega
theorem salt_eq (x : List Int) (hl : x.length = 4) (hx : ∀ y ∈ x, 0 ≤ y) : ∃ z : List Int, word_Bytes.f 4000 x = some z ∧ (smithyref01_Of.f 4000 x).bind (smithyref01_D_Bytes.f 4000) = some z ∧ z.length = 32 := by
  match x, hl with
  | [x0, x1, x2, x3], _ =>
    have h0 := hx x0 (by simp)
    have h1 := hx x1 (by simp)
    have h2 := hx x2 (by simp)
    have h3 := hx x3 (by simp)
    rw [bytes_lanes, of_lanes, Option.bind_some, dbytes_lanes]
    refine ⟨_, rfl, ?_, rfl⟩
    simp only [byte_eq _ _ h0, byte_eq _ _ h1, byte_eq _ _ h2, byte_eq _ _ h3]
theorem create2_eq (a s c : List Int) (ha : a.length = 20) (hs : s.length = 4) (hsx : ∀ y ∈ s, 0 ≤ y) (hc : c.length ≤ 3000) : ∃ z : List Int, addr_Create2.f 4000 a s c = some z ∧ smithyref08_Create2.f 4000 a s c = some z := by
  obtain ⟨h, h1, h2, h3, h4⟩ := sums_eq c (by omega)
  obtain ⟨q, q1, q2, q3⟩ := salt_eq s hs hsx
  have da : (a.drop 0).take 20 = a := by rw [List.drop_zero, List.take_of_length_le (by omega)]
  have dq : (q.drop 0).take 32 = q := by rw [List.drop_zero, List.take_of_length_le (by omega)]
  have dh : (h.drop 0).take 32 = h := by rw [List.drop_zero, List.take_of_length_le (by omega)]
  obtain ⟨g, g1, g2, g3, g4⟩ := sums_eq ((([255] ++ a) ++ q) ++ h) (by simp; omega)
  have dg : (g.drop 0).take 32 = g := by rw [List.drop_zero, List.take_of_length_le (by omega)]
  obtain ⟨w, l, w1, w2, w3⟩ := back32 g g3 g4
  refine ⟨l, ?_, ?_⟩
  · unfold addr_Create2.f addr_Create2.j1 keccak_Word.f
    rw [h1, Option.bind_some, q1, Option.bind_some, da, dq, dh, if_pos (by simp; omega), if_pos (by simp; omega), if_pos (by simp; omega), g1, Option.bind_some, dg, w1, Option.bind_some, Option.bind_some, w2, Option.bind_some]
  · unfold smithyref08_Create2.f
    cases hf : smithyref01_Of.f 4000 s with
    | none => rw [hf] at q2; cases q2
    | some u =>
      rw [hf] at q2
      rw [Option.bind_some] at q2
      rw [h2, Option.bind_some, Option.bind_some, q2, Option.bind_some, da, dq, dh, if_pos (by simp; omega), if_pos (by simp; omega), if_pos (by simp; omega), g2, Option.bind_some, w3, Option.bind_some]

end GW
