/-
  A stack's calls, as plain lists.
-/
import Derived.Test.YtcpinokfhfmilaaPureMem
set_option linter.unusedVariables false
set_option linter.unusedSimpArgs false
namespace GW
open Go Go.RowKit
theorem push_eq {x : List (List Int)} (h : x.length ≤ 1024) (a : List Int) : mem_Stack_Push.f x a = some (if x.length = 1024 then (false, x) else (true, x ++ [a])) := by
  unfold mem_Stack_Push.f
  by_cases h1 : x.length = 1024
  · rw [if_pos (by simp [h1]), if_pos h1]
  · have h2 : ¬ ((x.length : Int) = 1024) := by omega
    rw [if_neg (by simpa using h2), if_neg h1, if_pos (by simp; omega)]
theorem len_eq (x : List (List Int)) : mem_Stack_Len.f x = some (x.length : Int) := rfl
theorem pop_eq {x : List (List Int)} (h : x.length ≤ 1024) : mem_Stack_Pop.f x = some (if x.length = 0 then ([0, 0, 0, 0], false, x) else (gt x ((x.length : Int) - 1), true, x.take (x.length - 1))) := by
  unfold mem_Stack_Pop.f
  rw [len_eq, Option.bind_some]
  by_cases h1 : x.length = 0
  · rw [if_pos (by simp [h1]), if_pos h1]
  · have h2 : ¬ ((x.length : Int) = 0) := by omega
    have e := wr_i64_id (x := (x.length : Int) - 1) (by omega) (by omega)
    rw [if_neg (by simpa using h2), if_neg h1]
    simp only [e]
    rw [if_pos ⟨by omega, by omega⟩, if_pos ⟨by omega, by omega⟩]
    congr 3
    congr 1
    omega
theorem dup_eq {x : List (List Int)} (h : x.length ≤ 1024) {n : Int} (hn : inK .i64 n) : mem_Stack_Dup.f x n = some (if 1 ≤ n ∧ n ≤ x.length ∧ x.length ≠ 1024 then (true, x ++ [gt x ((x.length : Int) - n)]) else (false, x)) := by
  have hn := inK_i64 hn
  unfold mem_Stack_Dup.f mem_Stack_Dup.j1 mem_Stack_Dup.j2
  rw [len_eq, Option.bind_some]
  by_cases h1 : n < 1
  · rw [if_pos (by simpa using h1), if_pos rfl, if_neg (by omega)]
  · rw [if_neg (by simpa using h1)]
    by_cases h2 : (x.length : Int) < n
    · rw [if_pos (by simpa using h2), if_neg (by omega)]
    · have e := wr_i64_id (x := (x.length : Int) - n) (by omega) (by omega)
      rw [if_neg (by simpa using h2)]
      simp only [e]
      rw [if_pos ⟨by omega, by omega⟩, push_eq h, Option.bind_some]
      by_cases h3 : x.length = 1024
      · rw [if_pos h3, if_neg (by omega)]
      · rw [if_neg h3, if_pos ⟨by omega, by omega, h3⟩]
def swapped (x : List (List Int)) (n : Nat) : List (List Int) := (x.set (x.length - 1) (gt x ((x.length - 1 - n : Nat) : Int))).set (x.length - 1 - n) (gt x ((x.length - 1 : Nat) : Int))
theorem swap_eq {x : List (List Int)} (h : x.length ≤ 1024) {n : Int} (hn : inK .i64 n) : mem_Stack_Swap.f x n = some (if 1 ≤ n ∧ n < x.length then (true, swapped x n.toNat) else (false, x)) := by
  have hn := inK_i64 hn
  unfold mem_Stack_Swap.f mem_Stack_Swap.j1 mem_Stack_Swap.j2
  have e0 := wr_i64_id (x := (x.length : Int) - 1) (by omega) (by omega)
  rw [len_eq, Option.bind_some]
  simp only [e0]
  by_cases h1 : n < 1
  · rw [if_pos (by simpa using h1), if_pos trivial, if_neg (by omega)]
  · rw [if_neg (by simpa using h1)]
    by_cases h2 : (x.length : Int) - 1 < n
    · rw [if_pos (by simpa using h2), if_neg (by omega)]
    · have e := wr_i64_id (x := (x.length : Int) - 1 - n) (by omega) (by omega)
      rw [if_neg (by simpa using h2)]
      simp only [e]
      rw [if_pos ⟨by omega, by omega⟩, if_pos ⟨by omega, by omega⟩, if_pos ⟨by omega, by rw [List.length_set]; omega⟩, if_pos ⟨by omega, by omega⟩]
      unfold swapped
      have f1 : ((x.length : Int) - 1).toNat = x.length - 1 := by omega
      have f2 : ((x.length : Int) - 1 - n).toNat = x.length - 1 - n.toNat := by omega
      have f3 : ((x.length - 1 : Nat) : Int) = (x.length : Int) - 1 := by omega
      have f4 : ((x.length - 1 - n.toNat : Nat) : Int) = (x.length : Int) - 1 - n := by omega
      rw [f1, f2, f3, f4]
theorem push_yes {x : List (List Int)} (h : x.length < 1024) (a : List Int) : mem_Stack_Push.f x a = some (true, x ++ [a]) := by rw [push_eq (by omega), if_neg (by omega)]
theorem push_no {x : List (List Int)} (h : x.length = 1024) (a : List Int) : mem_Stack_Push.f x a = some (false, x) := by rw [push_eq (by omega), if_pos h]
theorem pop_yes {x : List (List Int)} (h : x.length ≤ 1024) (h1 : x.length ≠ 0) : mem_Stack_Pop.f x = some (gt x ((x.length : Int) - 1), true, x.take (x.length - 1)) := by rw [pop_eq h, if_neg h1]
theorem pop_no {x : List (List Int)} (h1 : x.length = 0) : mem_Stack_Pop.f x = some ([0, 0, 0, 0], false, x) := by rw [pop_eq (by omega), if_pos h1]
theorem dup_yes {x : List (List Int)} (h : x.length ≤ 1024) {n : Int} (hn : inK .i64 n) (c : 1 ≤ n ∧ n ≤ x.length ∧ x.length ≠ 1024) : mem_Stack_Dup.f x n = some (true, x ++ [gt x ((x.length : Int) - n)]) := by rw [dup_eq h hn, if_pos c]
theorem dup_no {x : List (List Int)} (h : x.length ≤ 1024) {n : Int} (hn : inK .i64 n) (c : ¬ (1 ≤ n ∧ n ≤ x.length ∧ x.length ≠ 1024)) : mem_Stack_Dup.f x n = some (false, x) := by rw [dup_eq h hn, if_neg c]
theorem swap_yes {x : List (List Int)} (h : x.length ≤ 1024) {n : Int} (hn : inK .i64 n) (c : 1 ≤ n ∧ n < x.length) : mem_Stack_Swap.f x n = some (true, swapped x n.toNat) := by rw [swap_eq h hn, if_pos c]
theorem swap_no {x : List (List Int)} (h : x.length ≤ 1024) {n : Int} (hn : inK .i64 n) (c : ¬ (1 ≤ n ∧ n < x.length)) : mem_Stack_Swap.f x n = some (false, x) := by rw [swap_eq h hn, if_neg c]
theorem gt_nat {α : Type} [Inhabited α] {xs : List α} {i : Nat} (h : i < xs.length) : gt xs (i : Int) = xs[i] := by
  rw [gt_get xs (i : Int) (by simpa using h)]; simp
theorem swapped_len (x : List (List Int)) (n : Nat) : (swapped x n).length = x.length := by simp [swapped]
theorem swapped_twice (x : List (List Int)) (n : Nat) (h1 : 1 ≤ n) (h2 : n < x.length) : swapped (swapped x n) n = x := by
  apply List.ext_getElem
  · simp [swapped_len]
  · intro i h3 h4
    have hl := swapped_len x n
    have a1 : (swapped x n)[x.length - 1 - n]'(by omega) = x[x.length - 1]'(by omega) := by
      unfold swapped
      rw [List.getElem_set_self, gt_nat]
    have a2 : (swapped x n)[x.length - 1]'(by omega) = x[x.length - 1 - n]'(by omega) := by
      unfold swapped
      rw [List.getElem_set_ne (by omega), List.getElem_set_self, gt_nat]
    have a3 : ∀ j (hj : j < x.length), j ≠ x.length - 1 → j ≠ x.length - 1 - n → (swapped x n)[j]'(by omega) = x[j] := by
      intro j hj n1 n2
      unfold swapped
      rw [List.getElem_set_ne (by omega), List.getElem_set_ne (by omega)]
    have b : ∀ (y : List (List Int)) (hy : y.length = x.length) , (swapped y n)[i]'(by rw [swapped_len]; omega) = if i = x.length - 1 - n then y[x.length - 1]'(by omega) else if i = x.length - 1 then y[x.length - 1 - n]'(by omega) else y[i]'(by omega) := by
      intro y hy
      unfold swapped
      rw [List.getElem_set, List.getElem_set]
      simp only [gt_nat (xs := y) (i := y.length - 1) (by omega), gt_nat (xs := y) (i := y.length - 1 - n) (by omega), hy]
      by_cases c1 : i = x.length - 1 - n
      · rw [if_pos c1.symm, if_pos c1]
        exact gt_nat (by omega)
      · rw [if_neg (fun e => c1 e.symm), if_neg c1]
        by_cases c2 : i = x.length - 1
        · rw [if_pos c2.symm, if_pos c2]
          exact gt_nat (by omega)
        · rw [if_neg (fun e => c2 e.symm), if_neg c2]
    rw [b (swapped x n) hl]
    split
    · rename_i c; subst c; exact a2
    · split
      · rename_i c; subst c; exact a1
      · exact a3 i (by omega) (by assumption) (by assumption)
end GW
