/-
  What the law 'MemNil' says of plain Lean values.
-/
import Derived.Test.YtcpinokfhfmilaaPureMem
set_option linter.unusedVariables false
set_option linter.unusedSimpArgs false
namespace GW
open Go Go.RowKit
theorem bytes_any (a : List Int) (h : a.length = 4) : ∃ b, word_Bytes.f 40 a = some b := by
  match a, h with
  | [p, q, r, s], _ => exact Option.isSome_iff_exists.1 (show (word_Bytes.f 40 [p, q, r, s]).isSome = true by kernel_rfl)
theorem smithylaw10_MemNil_true (a0 : Int × Int × Int × Int × (List Int) × (List Int) × (List Int)) (w0 : Gd40 a0) : ∃ k : Nat, smithylaw10_MemNil.f k a0 = some true := by
  obtain ⟨kind, n, mm, kk, a, b, data⟩ := a0
  refine ⟨40, ?_⟩
  obtain ⟨bs, hbs⟩ := bytes_any a w0.2.2.2.2.1.1
  have h1 : mem_Memory_Cost_0nil.f a b = some (0, false) := rfl
  have h2 : mem_Memory_Write_0nil.f n data = some () := rfl
  have h3 : mem_Memory_Copy_0nil.f n mm kk = some () := rfl
  have h4 : mem_Memory_SetWord_0nil.f 40 n a = some () := by unfold mem_Memory_SetWord_0nil.f; rw [hbs]; rfl
  have h5 : mem_Stack_Pop_0nil.f = some ([0, 0, 0, 0], false) := rfl
  have h6 : mem_Memory_Len_0nil.f = some 0 := rfl
  have h7 : mem_Memory_Reach_0nil.f a b = some false := rfl
  have h8 : mem_Memory_Read_0nil.f n kk = some [] := rfl
  have h9 : mem_Memory_Word_0nil.f 40 n = some [0, 0, 0, 0] := by unfold mem_Memory_Word_0nil.f; kernel_rfl
  have h10 : smithyref01_D_Word.f 40 [0, 0, 0, 0, 0, 0, 0, 0, 0, 0, 0, 0, 0, 0, 0, 0, 0, 0, 0, 0, 0, 0, 0, 0, 0, 0, 0, 0, 0, 0, 0, 0] = some [0, 0, 0, 0] := by kernel_rfl
  have h11 : mem_Stack_Len_0nil.f = some 0 := rfl
  have h12 : mem_Stack_Push_0nil.f a = some false := rfl
  have h13 : mem_Stack_Dup_0nil.f n = some false := by
    unfold mem_Stack_Dup_0nil.f mem_Stack_Dup_0nil.j1
    rw [h11, Option.bind_some]
    by_cases c : n < 1
    · simp [c]
    · rw [if_neg (by simpa using c), if_pos (by simp; omega)]
  have h14 : mem_Stack_Swap_0nil.f n = some false := by
    unfold mem_Stack_Swap_0nil.f mem_Stack_Swap_0nil.j1
    have e : wr .i64 (0 - 1) = -1 := by kernel_rfl
    rw [h11, Option.bind_some]
    simp only [e]
    by_cases c : n < 1
    · simp [c]
    · rw [if_neg (by simpa using c), if_pos (by simp; omega)]
  have h15 : mem_Stack_All_0nil.f = some [] := rfl
  unfold smithylaw10_MemNil.f
  simp only [h1, h2, h3, h4, h5, h6, h7, h8, h9, h10, h11, h12, h13, h14, h15, fixed10, Option.bind_some]
  simp
end GW
