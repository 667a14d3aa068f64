import Derived.Test.YtldbgghcailgfaaG0
import Derived.Test.YtldbgghcailgfaaGWPlain
set_option linter.unusedVariables false
set_option linter.unusedSimpArgs false
set_option maxRecDepth 100000
namespace GW
open Go Go.RowKit
def SmallA (a : L34) : Prop := a.2.2.2.1.length ≤ 3000 ∧ a.2.2.2.2.length ≤ 100
theorem great_loop (l : List L34) (hl : l.length ≤ 50) : ∀ (r q i : Nat), i + r = l.length → r < q → smithyref13_Great.l1 l q (i : Int) = some true ∨ (smithyref13_Great.l1 l q (i : Int) = some false ∧ ∀ a ∈ l.drop i, SmallA a)
  | 0, q, i, hi, hq => by
    obtain ⟨q, rfl⟩ : ∃ m, q = m + 1 := ⟨q - 1, by omega⟩
    refine .inr ⟨?_, fun a ha => by rw [List.drop_eq_nil_of_le (by omega)] at ha; cases ha⟩
    show smithyref13_Great.b1 _ _ _ = _
    unfold smithyref13_Great.b1
    rw [if_neg (by simp; omega)]; rfl
  | r + 1, q, i, hi, hq => by
    obtain ⟨q, rfl⟩ : ∃ m, q = m + 1 := ⟨q - 1, by omega⟩
    have hw : wr .i64 ((i : Int) + 1) = ((i + 1 : Nat) : Int) := by rw [wr_i64_id (by omega) (by omega)]; omega
    have e1 : smithyref13_Great.l1 l (q + 1) (i : Int) = smithyref13_Great.b1 l (smithyref13_Great.l1 l q) (i : Int) := rfl
    rw [e1]
    unfold smithyref13_Great.b1
    rw [if_pos (by simp; omega), if_pos (by omega)]
    by_cases c1 : (3000 : Int) < ((gt l (i : Int)).2.2.2.1.length : Int)
    · rw [if_pos (decide_eq_true c1)]; exact .inl rfl
    · rw [if_neg (by simpa using c1)]
      unfold smithyref13_Great.j2
      by_cases c2 : (100 : Int) < ((gt l (i : Int)).2.2.2.2.length : Int)
      · rw [decide_eq_true c2]; exact .inl rfl
      · rw [decide_eq_false c2, if_neg (by simp), hw]
        rcases great_loop l hl r q (i + 1) (by omega) (by omega) with h | ⟨h, h2⟩
        · exact .inl h
        · refine .inr ⟨h, fun a ha => ?_⟩
          rw [List.drop_eq_getElem_cons (by omega)] at ha
          rcases List.mem_cons.1 ha with rfl | ha
          · have : gt l (i : Int) = l[i] := by unfold gt; rw [Int.toNat_natCast, List.getD_eq_getElem?_getD, List.getElem?_eq_getElem (by omega)]; rfl
            rw [this] at c1 c2
            exact ⟨by omega, by omega⟩
          · exact h2 a ha
theorem great13 (l : List L34) (k : Nat) (hk : 51 < k) : smithyref13_Great.f k l = some true ∨ (smithyref13_Great.f k l = some false ∧ l.length ≤ 50 ∧ ∀ a ∈ l, SmallA a) := by
  unfold smithyref13_Great.f
  by_cases c : (50 : Int) < (l.length : Int)
  · rw [if_pos (decide_eq_true c)]; exact .inl rfl
  · rw [if_neg (by simpa using c)]
    rcases great_loop l (by omega) l.length k 0 (by omega) (by omega) with h | ⟨h, h2⟩
    · exact .inl h
    · exact .inr ⟨h, by omega, by simpa using h2⟩
end GW
