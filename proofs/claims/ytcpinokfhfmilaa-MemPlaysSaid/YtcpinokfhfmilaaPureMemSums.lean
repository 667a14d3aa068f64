/-
  What the law 'MemSums' says of plain Lean values.
-/
import Derived.Test.YtcpinokfhfmilaaPureMem
set_option linter.unusedVariables false
set_option linter.unusedSimpArgs false
namespace GW
open Go Go.RowKit
abbrev OpT := Int × Int × Int × Int × (List Int) × (List Int) × (List Int)
theorem gt_mem {α : Type} [Inhabited α] {xs : List α} {i : Int} (h0 : 0 ≤ i) (h1 : i < xs.length) : gt xs i ∈ xs := by
  rw [gt_get xs i (by omega)]; exact List.getElem_mem _
/-- What is gone through is the beginning of the row. -/
theorem cut_loop (l : List OpT) (hl : l.length ≤ 9223372036854775807) : ∀ (d q : Nat) (i : Nat), d < q → i + d = l.length → ∃ j : Nat, smithylaw10_cut.l1 l q i = some (l.take j) := by
  intro d
  induction d with
  | zero =>
    intro q i hq hi
    obtain ⟨q, rfl⟩ : ∃ m, q = m + 1 := ⟨q - 1, by omega⟩
    refine ⟨l.length, ?_⟩
    show smithylaw10_cut.b1 l _ _ = _
    unfold smithylaw10_cut.b1 smithylaw10_cut.j1
    rw [if_neg (by simp; omega), List.take_length]
  | succ d ih =>
    intro q i hq hi
    obtain ⟨q, rfl⟩ : ∃ m, q = m + 1 := ⟨q - 1, by omega⟩
    obtain ⟨j, hj⟩ := ih q (i + 1) (by omega) (by omega)
    have hT : smithylaw10_cut.j2 l i (smithylaw10_cut.l1 l q) true = some (l.take i) := by
      unfold smithylaw10_cut.j2
      rw [if_pos rfl, if_pos ⟨by omega, by omega, by omega⟩]; rfl
    have hF : smithylaw10_cut.j2 l i (smithylaw10_cut.l1 l q) false = some (l.take j) := by
      unfold smithylaw10_cut.j2
      rw [if_neg (by simp), wr_i64_id (by omega) (by omega)]
      exact hj
    have hJ : ∀ b, ∃ j, smithylaw10_cut.j2 l i (smithylaw10_cut.l1 l q) b = some (l.take j) := by
      intro b; cases b
      · exact ⟨_, hF⟩
      · exact ⟨_, hT⟩
    have hS : ∀ a, ∃ b, smithylaw10_small.f a = some b := by
      intro a
      unfold smithylaw10_small.f
      split
      · split
        · split <;> exact ⟨_, rfl⟩
        · exact ⟨_, rfl⟩
      · exact ⟨_, rfl⟩
    show ∃ j, smithylaw10_cut.b1 l (smithylaw10_cut.l1 l q) i = _
    unfold smithylaw10_cut.b1
    rw [if_pos (by simp; omega), if_pos ⟨by omega, by omega⟩]
    generalize gt l (i : Int) = o
    obtain ⟨b1, e1⟩ := hS o.2.2.2.2.1
    obtain ⟨b2, e2⟩ := hS o.2.2.2.2.2.1
    rw [e1, e2]
    simp only [Option.bind_some]
    repeat' split
    all_goals exact hJ _
theorem cut_eq (l : List OpT) (hl : l.length ≤ 9223372036854775807) (k : Nat) (hk : l.length < k) : ∃ j : Nat, smithylaw10_cut.f k l = some (l.take j) := by
  have := cut_loop l hl l.length k 0 hk (by omega)
  exact this
theorem sums_loop (l : List OpT) (hl : l.length ≤ 9223372036854775807) (hw : ∀ o ∈ l, Gd40 o) : ∀ (d q : Nat) (i : Nat) (b : List Int) (w : Int), d < q → i + d = l.length → Len32 b w → smithylaw10_MemSums.l1 l q i (Pr w) b = some true := by
  intro d
  induction d with
  | zero =>
    intro q i b w hq hi hb
    obtain ⟨q, rfl⟩ : ∃ m, q = m + 1 := ⟨q - 1, by omega⟩
    show smithylaw10_MemSums.b1 l _ _ _ _ = _
    unfold smithylaw10_MemSums.b1 smithylaw10_MemSums.j1
    rw [if_neg (by simp; omega), fixed10]
    simp only [Option.bind_some, if_true, mem_Memory_Len.f]
    have hn := now_eq hb
    obtain ⟨h1, h2, h3⟩ := hb
    rw [hn, price_ref w h2 (by omega)]
    simp [h1]
  | succ d ih =>
    intro q i b w hq hi hb
    obtain ⟨q, rfl⟩ : ∃ m, q = m + 1 := ⟨q - 1, by omega⟩
    show smithylaw10_MemSums.b1 l _ _ _ _ = _
    unfold smithylaw10_MemSums.b1
    have ho := hw _ (gt_mem (xs := l) (i := i) (by omega) (by omega))
    rw [if_pos (by simp; omega), if_pos ⟨by omega, by omega⟩]
    generalize gt l (i : Int) = o at ho
    have ha : Gd27 o.2.2.2.2.1 := ho.2.2.2.2.1
    have hn : Gd27 o.2.2.2.2.2.1 := ho.2.2.2.2.2.1
    rw [cost_mem hb ha hn, Reach_mem hb ha hn]
    have hi1 : wr .i64 ((i : Int) + 1) = ((i + 1 : Nat) : Int) := by rw [wr_i64_id (by omega) (by omega)]; omega
    have hb' := hb
    obtain ⟨h1, h2, h3⟩ := hb
    cases h : rch w o.2.2.2.2.1 o.2.2.2.2.2.1 with
    | none =>
      have hp := Pr_nonneg h2
      have hp1 := Pr_lt h2 h3
      simp only [ans, Option.bind_some, hi1, Int.add_zero, wr_u64_id (x := Pr w) hp (by omega)]
      exact ih q (i + 1) b w (by omega) (by omega) hb'
    | some v =>
      have hv := rch_le ha hn h2 h3 h
      have hp := Pr_nonneg (v := v) (by omega)
      have hp1 := Pr_lt (v := v) (by omega) hv.2
      have e : wr .u64 (Pr w + (Pr v - Pr w)) = Pr v := by rw [show Pr w + (Pr v - Pr w) = Pr v by omega]; exact wr_u64_id hp (by omega)
      simp only [ans, Option.bind_some, hi1, e]
      exact ih q (i + 1) (grown b v) v (by omega) (by omega) (grown_len hb' hv.1 hv.2)
theorem smithylaw10_MemSums_true (a0 : List (Int × Int × Int × Int × (List Int) × (List Int) × (List Int))) (w0 : Gd36 a0) : ∃ k : Nat, smithylaw10_MemSums.f k a0 = some true := by
  have hl : a0.length ≤ 9223372036854775807 := by have := w0.2; simpa [maxLen] using this
  refine ⟨a0.length + 1, ?_⟩
  obtain ⟨j, hj⟩ := cut_eq a0 hl (a0.length + 1) (by omega)
  unfold smithylaw10_MemSums.f
  have e0 : mem_New.f = some [] := rfl
  rw [e0, Option.bind_some, hj, Option.bind_some]
  have hp : Pr 0 = 0 := rfl
  have hlt : (a0.take j).length ≤ a0.length := by simp; omega
  have := sums_loop (a0.take j) (by omega) (fun o ho => w0.1 o (List.mem_of_mem_take ho)) (a0.take j).length (a0.length + 1) 0 [] 0 (by omega) (by omega) ⟨rfl, by omega, by omega⟩
  rw [hp] at this
  exact this
end GW
