/-
  How addresses stand to each other, and which are built-in contracts'.
-/
import Derived.Test.YtomjijlopdcojaaDoorPureAddr
set_option linter.unusedVariables false
set_option linter.unusedSimpArgs false
set_option maxRecDepth 100000
namespace GW
open Go Go.RowKit
theorem u8_lt {x y : Int} (hx : 0 ≤ x ∧ x < 256) (hy : 0 ≤ y ∧ y < 256) : (UInt8.ofNat x.toNat < UInt8.ofNat y.toNat) ↔ x < y := by
  rw [UInt8.lt_iff_toNat_lt, UInt8.toNat_ofNat', UInt8.toNat_ofNat', Nat.mod_eq_of_lt (by omega), Nat.mod_eq_of_lt (by omega)]
  omega
def cmpI : List Int → List Int → Int
  | [], [] => 0
  | [], _ :: _ => -1
  | _ :: _, [] => 1
  | a :: u, b :: v => if a < b then -1 else if b < a then 1 else cmpI u v
theorem cmp_I : ∀ (a b : List Int), (∀ x ∈ a, 0 ≤ x ∧ x < 256) → (∀ x ∈ b, 0 ≤ x ∧ x < 256) → Lib.compareBytes (u8s a) (u8s b) = cmpI a b
  | [], [], _, _ => rfl
  | [], _ :: _, _, _ => rfl
  | _ :: _, [], _, _ => rfl
  | a :: u, b :: v, ha, hb => by
    have h1 := u8_lt (ha a (by simp)) (hb b (by simp))
    have h2 := u8_lt (hb b (by simp)) (ha a (by simp))
    have ih := cmp_I u v (fun x hx => ha x (by simp [hx])) (fun x hx => hb x (by simp [hx]))
    show (if UInt8.ofNat a.toNat < UInt8.ofNat b.toNat then (-1 : Int) else if UInt8.ofNat b.toNat < UInt8.ofNat a.toNat then 1 else Lib.compareBytes (u8s u) (u8s v)) = if a < b then -1 else if b < a then 1 else cmpI u v
    rw [ih]
    simp only [h1, h2]
theorem cmpI_neg : ∀ (a b : List Int), cmpI b a = - cmpI a b ∧ (cmpI a b = -1 ∨ cmpI a b = 0 ∨ cmpI a b = 1)
  | [], [] => ⟨rfl, .inr (.inl rfl)⟩
  | [], _ :: _ => ⟨rfl, .inl rfl⟩
  | _ :: _, [] => ⟨rfl, .inr (.inr rfl)⟩
  | a :: u, b :: v => by
    obtain ⟨h1, h2⟩ := cmpI_neg u v
    unfold cmpI
    by_cases c1 : a < b
    · rw [if_pos c1, if_neg (show ¬ b < a by omega), if_pos c1]; exact ⟨rfl, .inl rfl⟩
    · by_cases c2 : b < a
      · rw [if_pos c2, if_neg c1, if_pos c2]; exact ⟨rfl, .inr (.inr rfl)⟩
      · rw [if_neg c1, if_neg c2, if_neg c2, if_neg c1]; exact ⟨h1, h2⟩
theorem less_loop (a b : List Int) (ha : a.length = 20) (hb : b.length = 20) : ∀ (d q i : Nat), d < q → i + d = 20 → smithyref08_Less.l1 a b q (i : Int) = some (decide (cmpI (a.drop i) (b.drop i) = -1)) := by
  intro d
  induction d with
  | zero =>
    intro q i hq hi
    obtain ⟨q, rfl⟩ : ∃ m, q = m + 1 := ⟨q - 1, by omega⟩
    show smithyref08_Less.b1 a b _ _ = _
    unfold smithyref08_Less.b1 smithyref08_Less.j1
    rw [if_neg (by simp; omega), List.drop_of_length_le (by omega), List.drop_of_length_le (by omega)]
    rfl
  | succ d ih =>
    intro q i hq hi
    obtain ⟨q, rfl⟩ : ∃ m, q = m + 1 := ⟨q - 1, by omega⟩
    show smithyref08_Less.b1 a b _ _ = _
    unfold smithyref08_Less.b1
    have e1 : rd a (i : Int) = a[i]'(by omega) := by simp [rd, List.getD_eq_getElem?_getD, List.getElem?_eq_getElem (show i < a.length by omega)]
    have e2 : rd b (i : Int) = b[i]'(by omega) := by simp [rd, List.getD_eq_getElem?_getD, List.getElem?_eq_getElem (show i < b.length by omega)]
    rw [if_pos (by simp; omega), if_pos ⟨by omega, by omega⟩, wr_i64_id (by omega) (by omega), e1, e2, List.drop_eq_getElem_cons (show i < a.length by omega), List.drop_eq_getElem_cons (show i < b.length by omega)]
    have hih := ih q (i + 1) (by omega) (by omega)
    rw [show ((i + 1 : Nat) : Int) = (i : Int) + 1 by omega] at hih
    unfold cmpI
    generalize a[i]'(by omega) = x
    generalize b[i]'(by omega) = y
    by_cases c : x = y
    · subst c
      rw [if_neg (by simp), if_neg (show ¬ x < x by omega), if_neg (show ¬ x < x by omega)]
      exact hih
    · rw [if_pos (by simpa using c)]
      by_cases c1 : x < y
      · simp [c1]
      · have c2 : y < x := by omega
        simp [c1, c2]
theorem less_eq (a b : List Int) (ha : a.length = 20) (hb : b.length = 20) : smithyref08_Less.f 4000 a b = some (decide (cmpI a b = -1)) := by
  have := less_loop a b ha hb 20 4000 0 (by omega) (by omega)
  exact this
theorem compare_eq (a b : List Int) (ha : a.length = 20) (hb : b.length = 20) (ha' : ∀ x ∈ a, 0 ≤ x ∧ x < 256) (hb' : ∀ x ∈ b, 0 ≤ x ∧ x < 256) : addr_Compare.f a b = some (cmpI a b) := by
  have da : (a.drop 0).take 20 = a := by rw [List.drop_zero, List.take_of_length_le (by omega)]
  have db : (b.drop 0).take 20 = b := by rw [List.drop_zero, List.take_of_length_le (by omega)]
  unfold addr_Compare.f bytes_Compare.f
  rw [da, db, cmp_I a b ha' hb']
  rfl
theorem pref_lanes (a0 a1 a2 a3 a4 a5 a6 a7 a8 a9 a10 a11 a12 a13 a14 a15 a16 a17 a18 a19 : Int) : smithyref08_Precompile.f 4000 [a0, a1, a2, a3, a4, a5, a6, a7, a8, a9, a10, a11, a12, a13, a14, a15, a16, a17, a18, a19] = if ((a0 : Int) != 0) = true then some 0 else if ((a1 : Int) != 0) = true then some 0 else if ((a2 : Int) != 0) = true then some 0 else if ((a3 : Int) != 0) = true then some 0 else if ((a4 : Int) != 0) = true then some 0 else if ((a5 : Int) != 0) = true then some 0 else if ((a6 : Int) != 0) = true then some 0 else if ((a7 : Int) != 0) = true then some 0 else if ((a8 : Int) != 0) = true then some 0 else if ((a9 : Int) != 0) = true then some 0 else if ((a10 : Int) != 0) = true then some 0 else if ((a11 : Int) != 0) = true then some 0 else if ((a12 : Int) != 0) = true then some 0 else if ((a13 : Int) != 0) = true then some 0 else if ((a14 : Int) != 0) = true then some 0 else if ((a15 : Int) != 0) = true then some 0 else if ((a16 : Int) != 0) = true then some 0 else if ((a17 : Int) != 0) = true then some 0 else if ((a18 : Int) != 0) = true then some 0 else if (decide (9 < (a19 : Int))) = true then some 0 else some (wr .i64 (a19 : Int)) := by kernel_rfl
theorem aword_nat (x : List Int) (hl : x.length = 20) (ha : ∀ y ∈ x, 0 ≤ y ∧ y < 256) : ∃ a0 a1 a2 a3 a4 a5 a6 a7 a8 a9 a10 a11 a12 a13 a14 a15 a16 a17 a18 a19 : Nat, x = [(a0 : Int), (a1 : Int), (a2 : Int), (a3 : Int), (a4 : Int), (a5 : Int), (a6 : Int), (a7 : Int), (a8 : Int), (a9 : Int), (a10 : Int), (a11 : Int), (a12 : Int), (a13 : Int), (a14 : Int), (a15 : Int), (a16 : Int), (a17 : Int), (a18 : Int), (a19 : Int)] ∧ addr_Word.f 4000 x = some [((a19 + a18 * 256 + a17 * 65536 + a16 * 16777216 + a15 * 4294967296 + a14 * 1099511627776 + a13 * 281474976710656 + a12 * 72057594037927936 : Nat) : Int), ((a11 + a10 * 256 + a9 * 65536 + a8 * 16777216 + a7 * 4294967296 + a6 * 1099511627776 + a5 * 281474976710656 + a4 * 72057594037927936 : Nat) : Int), ((a3 + a2 * 256 + a1 * 65536 + a0 * 16777216 + 0 * 4294967296 + 0 * 1099511627776 + 0 * 281474976710656 + 0 * 72057594037927936 : Nat) : Int), 0] ∧ (a0 < 256 ∧ a1 < 256 ∧ a2 < 256 ∧ a3 < 256 ∧ a4 < 256 ∧ a5 < 256 ∧ a6 < 256 ∧ a7 < 256 ∧ a8 < 256 ∧ a9 < 256 ∧ a10 < 256 ∧ a11 < 256 ∧ a12 < 256 ∧ a13 < 256 ∧ a14 < 256 ∧ a15 < 256 ∧ a16 < 256 ∧ a17 < 256 ∧ a18 < 256 ∧ a19 < 256) := by
  match x, hl with
  | [a0, a1, a2, a3, a4, a5, a6, a7, a8, a9, a10, a11, a12, a13, a14, a15, a16, a17, a18, a19], _ =>
    obtain ⟨a0, rfl⟩ := Int.eq_ofNat_of_zero_le (ha a0 (by simp)).1
    obtain ⟨a1, rfl⟩ := Int.eq_ofNat_of_zero_le (ha a1 (by simp)).1
    obtain ⟨a2, rfl⟩ := Int.eq_ofNat_of_zero_le (ha a2 (by simp)).1
    obtain ⟨a3, rfl⟩ := Int.eq_ofNat_of_zero_le (ha a3 (by simp)).1
    obtain ⟨a4, rfl⟩ := Int.eq_ofNat_of_zero_le (ha a4 (by simp)).1
    obtain ⟨a5, rfl⟩ := Int.eq_ofNat_of_zero_le (ha a5 (by simp)).1
    obtain ⟨a6, rfl⟩ := Int.eq_ofNat_of_zero_le (ha a6 (by simp)).1
    obtain ⟨a7, rfl⟩ := Int.eq_ofNat_of_zero_le (ha a7 (by simp)).1
    obtain ⟨a8, rfl⟩ := Int.eq_ofNat_of_zero_le (ha a8 (by simp)).1
    obtain ⟨a9, rfl⟩ := Int.eq_ofNat_of_zero_le (ha a9 (by simp)).1
    obtain ⟨a10, rfl⟩ := Int.eq_ofNat_of_zero_le (ha a10 (by simp)).1
    obtain ⟨a11, rfl⟩ := Int.eq_ofNat_of_zero_le (ha a11 (by simp)).1
    obtain ⟨a12, rfl⟩ := Int.eq_ofNat_of_zero_le (ha a12 (by simp)).1
    obtain ⟨a13, rfl⟩ := Int.eq_ofNat_of_zero_le (ha a13 (by simp)).1
    obtain ⟨a14, rfl⟩ := Int.eq_ofNat_of_zero_le (ha a14 (by simp)).1
    obtain ⟨a15, rfl⟩ := Int.eq_ofNat_of_zero_le (ha a15 (by simp)).1
    obtain ⟨a16, rfl⟩ := Int.eq_ofNat_of_zero_le (ha a16 (by simp)).1
    obtain ⟨a17, rfl⟩ := Int.eq_ofNat_of_zero_le (ha a17 (by simp)).1
    obtain ⟨a18, rfl⟩ := Int.eq_ofNat_of_zero_le (ha a18 (by simp)).1
    obtain ⟨a19, rfl⟩ := Int.eq_ofNat_of_zero_le (ha a19 (by simp)).1
    have l0 := (ha a0 (by simp)).2
    have l1 := (ha a1 (by simp)).2
    have l2 := (ha a2 (by simp)).2
    have l3 := (ha a3 (by simp)).2
    have l4 := (ha a4 (by simp)).2
    have l5 := (ha a5 (by simp)).2
    have l6 := (ha a6 (by simp)).2
    have l7 := (ha a7 (by simp)).2
    have l8 := (ha a8 (by simp)).2
    have l9 := (ha a9 (by simp)).2
    have l10 := (ha a10 (by simp)).2
    have l11 := (ha a11 (by simp)).2
    have l12 := (ha a12 (by simp)).2
    have l13 := (ha a13 (by simp)).2
    have l14 := (ha a14 (by simp)).2
    have l15 := (ha a15 (by simp)).2
    have l16 := (ha a16 (by simp)).2
    have l17 := (ha a17 (by simp)).2
    have l18 := (ha a18 (by simp)).2
    have l19 := (ha a19 (by simp)).2
    have e0 := eightN a19 a18 a17 a16 a15 a14 a13 a12 (by have := (ha a19 (by simp)).2; omega) (by have := (ha a18 (by simp)).2; omega) (by have := (ha a17 (by simp)).2; omega) (by have := (ha a16 (by simp)).2; omega) (by have := (ha a15 (by simp)).2; omega) (by have := (ha a14 (by simp)).2; omega) (by have := (ha a13 (by simp)).2; omega) (by have := (ha a12 (by simp)).2; omega)
    have e1 := eightN a11 a10 a9 a8 a7 a6 a5 a4 (by have := (ha a11 (by simp)).2; omega) (by have := (ha a10 (by simp)).2; omega) (by have := (ha a9 (by simp)).2; omega) (by have := (ha a8 (by simp)).2; omega) (by have := (ha a7 (by simp)).2; omega) (by have := (ha a6 (by simp)).2; omega) (by have := (ha a5 (by simp)).2; omega) (by have := (ha a4 (by simp)).2; omega)
    have e2 := eightN a3 a2 a1 a0 0 0 0 0 (by have := (ha a3 (by simp)).2; omega) (by have := (ha a2 (by simp)).2; omega) (by have := (ha a1 (by simp)).2; omega) (by have := (ha a0 (by simp)).2; omega) (by omega) (by omega) (by omega) (by omega)
    simp only [Int.natCast_zero, Int.ofNat_zero] at e0 e1 e2
    have hd : (([(a0 : Int), (a1 : Int), (a2 : Int), (a3 : Int), (a4 : Int), (a5 : Int), (a6 : Int), (a7 : Int), (a8 : Int), (a9 : Int), (a10 : Int), (a11 : Int), (a12 : Int), (a13 : Int), (a14 : Int), (a15 : Int), (a16 : Int), (a17 : Int), (a18 : Int), (a19 : Int)] : List Int).drop 0).take 20 = [(a0 : Int), (a1 : Int), (a2 : Int), (a3 : Int), (a4 : Int), (a5 : Int), (a6 : Int), (a7 : Int), (a8 : Int), (a9 : Int), (a10 : Int), (a11 : Int), (a12 : Int), (a13 : Int), (a14 : Int), (a15 : Int), (a16 : Int), (a17 : Int), (a18 : Int), (a19 : Int)] := rfl
    refine ⟨a0, a1, a2, a3, a4, a5, a6, a7, a8, a9, a10, a11, a12, a13, a14, a15, a16, a17, a18, a19, rfl, ?_, by omega, by omega, by omega, by omega, by omega, by omega, by omega, by omega, by omega, by omega, by omega, by omega, by omega, by omega, by omega, by omega, by omega, by omega, by omega, by omega⟩
    unfold addr_Word.f
    rw [hd, afrom_lanes, e0, e1, e2]
    rfl
theorem prec_eq (x : List Int) (hl : x.length = 20) (ha : ∀ y ∈ x, 0 ≤ y ∧ y < 256) : ∃ z : Int, addr_Precompile.f 4000 x = some z ∧ smithyref08_Precompile.f 4000 x = some z := by
  obtain ⟨a0, a1, a2, a3, a4, a5, a6, a7, a8, a9, a10, a11, a12, a13, a14, a15, a16, a17, a18, a19, rfl, hw, l0, l1, l2, l3, l4, l5, l6, l7, l8, l9, l10, l11, l12, l13, l14, l15, l16, l17, l18, l19⟩ := aword_nat x hl ha
  rw [pref_lanes]
  unfold addr_Precompile.f
  rw [hw, Option.bind_some]
  generalize hN0 : (a19 + a18 * 256 + a17 * 65536 + a16 * 16777216 + a15 * 4294967296 + a14 * 1099511627776 + a13 * 281474976710656 + a12 * 72057594037927936 : Nat) = N0
  generalize hN1 : (a11 + a10 * 256 + a9 * 65536 + a8 * 16777216 + a7 * 4294967296 + a6 * 1099511627776 + a5 * 281474976710656 + a4 * 72057594037927936 : Nat) = N1
  generalize hN2 : (a3 + a2 * 256 + a1 * 65536 + a0 * 16777216 + 0 * 4294967296 + 0 * 1099511627776 + 0 * 281474976710656 + 0 * 72057594037927936 : Nat) = N2
  have b0 : N0 < 18446744073709551616 := by omega
  have b1 : N1 < 18446744073709551616 := by omega
  have b2 : N2 < 18446744073709551616 := by omega
  clear hw ha hl
  have hs : word_Small.f [(N0 : Int), (N1 : Int), (N2 : Int), 0] = some (if N1 = 0 ∧ N2 = 0 then ((N0 : Int), true) else (0, false)) := by
    unfold word_Small.f
    have r0 : rd [(N0 : Int), (N1 : Int), (N2 : Int), 0] 0 = (N0 : Int) := rfl
    have r1 : rd [(N0 : Int), (N1 : Int), (N2 : Int), 0] 1 = (N1 : Int) := rfl
    have r2 : rd [(N0 : Int), (N1 : Int), (N2 : Int), 0] 2 = (N2 : Int) := rfl
    have r3 : rd [(N0 : Int), (N1 : Int), (N2 : Int), 0] 3 = ((0 : Nat) : Int) := rfl
    rw [r0, r1, r2, r3, bits_or_u64_nat _ _ b1 b2, bits_or_u64_nat _ _ (Nat.or_lt_two_pow (n := 64) (by simpa using b1) (by simpa using b2)) (by omega), Nat.or_zero]
    by_cases c : N1 = 0 ∧ N2 = 0
    · obtain ⟨rfl, rfl⟩ := c
      simp
    · have : ¬ (N1 ||| N2 = 0) := fun h => c (Nat.or_eq_zero_iff.1 h)
      rw [if_neg c, if_pos (by simpa using this)]
  rw [hs, Option.bind_some]
  unfold addr_Precompile.j1
  by_cases hz : a0 = 0 ∧ a1 = 0 ∧ a2 = 0 ∧ a3 = 0 ∧ a4 = 0 ∧ a5 = 0 ∧ a6 = 0 ∧ a7 = 0 ∧ a8 = 0 ∧ a9 = 0 ∧ a10 = 0 ∧ a11 = 0 ∧ a12 = 0 ∧ a13 = 0 ∧ a14 = 0 ∧ a15 = 0 ∧ a16 = 0 ∧ a17 = 0 ∧ a18 = 0
  · obtain ⟨rfl, rfl, rfl, rfl, rfl, rfl, rfl, rfl, rfl, rfl, rfl, rfl, rfl, rfl, rfl, rfl, rfl, rfl, rfl⟩ := hz
    have n0 : N0 = a19 := by omega
    have n1 : N1 = 0 := by omega
    have n2 : N2 = 0 := by omega
    subst n0 n1 n2
    by_cases c : N0 ≤ 9
    · refine ⟨wr .i64 (N0 : Int), ?_, ?_⟩
      · have : ¬ (9 < (N0 : Int)) := by omega
        simp [this]
      · have : ¬ (9 < (N0 : Int)) := by omega
        simp [this]
    · have : 9 < (N0 : Int) := by omega
      exact ⟨0, by simp [this], by simp [this]⟩
  · refine ⟨0, ?_, ?_⟩
    · by_cases c : N1 = 0 ∧ N2 = 0
      · have : 9 < (N0 : Int) := by omega
        rw [if_pos c]
        simp [this]
      · rw [if_neg c]
        simp
    · iterate 19
        rw [ite_eq_left_iff]
        intro hh
        replace hh := Classical.not_not.1 (fun h => hh (bne_iff_ne.2 h))
      exfalso
      exact hz ⟨by omega, by omega, by omega, by omega, by omega, by omega, by omega, by omega, by omega, by omega, by omega, by omega, by omega, by omega, by omega, by omega, by omega, by omega, by omega⟩
end GW
