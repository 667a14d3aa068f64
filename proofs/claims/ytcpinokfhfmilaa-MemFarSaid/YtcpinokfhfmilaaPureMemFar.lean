/-
  What the law 'MemFar' says of plain Lean values.
-/
import Derived.Test.YtcpinokfhfmilaaPureMem
set_option linter.unusedVariables false
set_option linter.unusedSimpArgs false
namespace GW
open Go Go.RowKit
theorem smithylaw10_MemFar_true (a0 : List Int) (a1 : List Int) (l0 : a0.length = 4) (w0 : ∀ y ∈ a0, inK .u64 y) (l1 : a1.length = 4) (w1 : ∀ y ∈ a1, inK .u64 y) : ∃ k : Nat, smithylaw10_MemFar.f a0 a1 = some true := by
  have ha : Gd27 a0 := ⟨l0, w0⟩
  have hn : Gd27 a1 := ⟨l1, w1⟩
  refine ⟨0, ?_⟩
  unfold smithylaw10_MemFar.f
  have e0 : mem_New.f = some [] := rfl
  have e1 : mem_Memory_Reach.f [] [5, 0, 0, 0] [3, 0, 0, 0] = some (true, List.replicate 32 0) := by kernel_rfl
  have hb : Len32 (List.replicate 32 0) 1 := ⟨rfl, by omega, by omega⟩
  have e2 := reach_ref (w := 1) (by omega) (by omega) ha hn
  rw [show (32 : Int) * 1 = 32 from rfl] at e2
  rw [e0, Option.bind_some, e1, Option.bind_some, e2, Option.bind_some]
  unfold smithylaw10_MemFar.j1
  rw [cost_mem hb ha hn, Reach_mem hb ha hn, fixed10]
  cases h : rch 1 a0 a1 with
  | none => simp [ans, mem_Memory_Len.f]
  | some v =>
    have hv := rch_le ha hn (by omega) (by omega) h
    have hg := (grown_len hb hv.1 hv.2).1
    simp only [ans]
    by_cases h3 : 300000 < 32 * v
    · simp [h3]
    · simp [h3, mem_Memory_Len.f]
      exact hg
end GW
