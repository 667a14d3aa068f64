/-
  What the law 'MemBack' says of plain Lean values.
-/
import Derived.Test.YtcpinokfhfmilaaPureStack
set_option linter.unusedVariables false
set_option linter.unusedSimpArgs false
namespace GW
open Go Go.RowKit
theorem back_pops (l : List (List Int)) (hl : l.length ≤ 1000) : ∀ (d q : Nat), d < q → d ≤ l.length → smithylaw10_MemBack.l1 l q ((d : Int) - 1) (l.take d) = some true := by
  intro d
  induction d with
  | zero =>
    intro q hq _
    obtain ⟨q, rfl⟩ : ∃ m, q = m + 1 := ⟨q - 1, by omega⟩
    show smithylaw10_MemBack.b1 l _ _ _ = _
    unfold smithylaw10_MemBack.b1 smithylaw10_MemBack.j4
    rw [if_neg (by simp), fixed10]
    rfl
  | succ d ih =>
    intro q hq hd
    obtain ⟨q, rfl⟩ : ∃ m, q = m + 1 := ⟨q - 1, by omega⟩
    show smithylaw10_MemBack.b1 l _ _ _ = _
    have ed : (((d + 1 : Nat) : Int) - 1) = (d : Int) := by omega
    rw [ed]
    unfold smithylaw10_MemBack.b1 smithylaw10_MemBack.j5
    have hlen : (l.take (d + 1)).length = d + 1 := by simp; omega
    rw [if_pos (by simp), pop_yes (by omega) (by omega), Option.bind_some]
    have ew : wr .i64 ((d : Int) - 1) = (d : Int) - 1 := wr_i64_id (by omega) (by omega)
    have et : (l.take (d + 1)).take ((l.take (d + 1)).length - 1) = l.take d := by rw [hlen, List.take_take, Nat.add_sub_cancel, Nat.min_eq_left (by omega)]
    have eg : gt (l.take (d + 1)) (((l.take (d + 1)).length : Int) - 1) = gt l (d : Int) := by
      rw [hlen, ed, gt_nat (by omega), gt_nat (by omega), List.getElem_take]
    have c : 0 ≤ (d : Int) ∧ (d : Int) < (l.length : Int) := ⟨by omega, by omega⟩
    simp only [et, eg, ew, if_pos c, Bool.not_true, Bool.false_eq_true, if_false, decide_true]
    exact ih q (by omega) (by omega)
theorem back_rest (l : List (List Int)) (hl : l.length ≤ 1000) (n : Int) (hn : inK .i64 n) (k : Nat) (hk : l.length < k) : smithylaw10_MemBack.j1 k l n l = some true := by
  have hpop := back_pops l hl l.length k hk (Nat.le_refl _)
  rw [List.take_length] at hpop
  have hj3 : smithylaw10_MemBack.j3 k l false l = some true := by
    unfold smithylaw10_MemBack.j3
    rw [if_neg (by simp), wr_i64_id (by omega) (by omega)]
    exact hpop
  have hj2 : smithylaw10_MemBack.j2 k l n l = some true := by
    unfold smithylaw10_MemBack.j2
    rw [swap_eq (by omega) hn, Option.bind_some]
    by_cases c : 1 ≤ n ∧ n < l.length
    · rw [if_pos c, if_pos rfl, swap_eq (by rw [swapped_len]; omega) hn, Option.bind_some, if_pos (by rw [swapped_len]; exact c), swapped_twice l n.toNat (by omega) (by omega)]
      exact hj3
    · rw [if_neg c, if_neg (by simp)]
      exact hj3
  unfold smithylaw10_MemBack.j1
  by_cases c : 1 ≤ n ∧ n ≤ l.length ∧ l.length ≠ 1024
  · rw [dup_yes (by omega) hn c, Option.bind_some]
    obtain ⟨c1, c2, c3⟩ := c
    have hlen : (l ++ [gt l ((l.length : Int) - n)]).length = l.length + 1 := by simp
    rw [if_pos rfl, pop_yes (x := l ++ [gt l ((l.length : Int) - n)]) (by omega) (by omega), Option.bind_some]
    have hn' := inK_i64 hn
    have ew := wr_i64_id (x := (l.length : Int) - n) (by omega) (by omega)
    have eg : gt (l ++ [gt l ((l.length : Int) - n)]) (((l ++ [gt l ((l.length : Int) - n)]).length : Int) - 1) = gt l ((l.length : Int) - n) := by
      have : (((l ++ [gt l ((l.length : Int) - n)]).length : Int) - 1) = (l.length : Int) := by rw [hlen]; omega
      rw [this, gt_nat (by omega)]
      simp
    have et : (l ++ [gt l ((l.length : Int) - n)]).take ((l ++ [gt l ((l.length : Int) - n)]).length - 1) = l := by
      rw [hlen, Nat.add_sub_cancel]; exact List.take_left
    have cc : 0 ≤ (l.length : Int) - n ∧ (l.length : Int) - n < (l.length : Int) := ⟨by omega, by omega⟩
    simp only [et, eg, ew, if_pos cc, Bool.not_true, Bool.false_eq_true, if_false, decide_true, smithylaw10_MemBack.j6]
    exact hj2
  · rw [dup_no (by omega) hn c, Option.bind_some, if_neg (by simp)]
    exact hj2
theorem back_push (l : List (List Int)) (hl : l.length ≤ 1000) (n : Int) (hn : inK .i64 n) (k : Nat) (hk : l.length < k) : ∀ (d q i : Nat), d < q → i + d = l.length → smithylaw10_MemBack.l2 k l n q (i : Int) (l.take i) = some true := by
  intro d
  induction d with
  | zero =>
    intro q i hq hi
    obtain ⟨q, rfl⟩ : ∃ m, q = m + 1 := ⟨q - 1, by omega⟩
    show smithylaw10_MemBack.b2 k l n _ _ _ = _
    unfold smithylaw10_MemBack.b2
    rw [if_neg (by simp; omega), List.take_of_length_le (by omega)]
    exact back_rest l hl n hn k hk
  | succ d ih =>
    intro q i hq hi
    obtain ⟨q, rfl⟩ : ∃ m, q = m + 1 := ⟨q - 1, by omega⟩
    show smithylaw10_MemBack.b2 k l n _ _ _ = _
    unfold smithylaw10_MemBack.b2
    have hlen : (l.take i).length = i := by simp; omega
    rw [if_pos (by simp; omega), if_pos ⟨by omega, by omega⟩, push_yes (by omega), Option.bind_some, wr_i64_id (by omega) (by omega)]
    have et : l.take i ++ [gt l (i : Int)] = l.take (i + 1) := by
      rw [gt_nat (by omega), List.take_succ_eq_append_getElem (by omega)]
    simp only [et]
    exact ih q (i + 1) (by omega) (by omega)
theorem smithylaw10_MemBack_true (a0 : List (List Int)) (a1 : Int) (w0 : Gd42 a0) (w1 : inK .i64 a1) : ∃ k : Nat, smithylaw10_MemBack.f k a0 a1 = some true := by
  refine ⟨a0.length + 1, ?_⟩
  unfold smithylaw10_MemBack.f
  have e0 : mem_NewStack.f = some [] := rfl
  rw [e0, Option.bind_some]
  by_cases h : (1000 : Int) < (a0.length : Int)
  · rw [if_pos (by simpa using h), fixed10]; rfl
  · rw [if_neg (by simpa using h)]
    have := back_push a0 (by omega) a1 w1 (a0.length + 1) (by omega) a0.length (a0.length + 1) 0 (by omega) (by omega)
    simpa using this
end GW
