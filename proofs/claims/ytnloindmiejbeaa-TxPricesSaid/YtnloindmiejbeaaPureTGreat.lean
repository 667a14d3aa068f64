/-
  Transactions that are gone through.
-/
import Derived.Test.YtnloindmiejbeaaG0
import Derived.Test.YtnloindmiejbeaaGWPlain
set_option linter.unusedVariables false
set_option linter.unusedSimpArgs false
set_option maxRecDepth 100000
namespace GW
open Go Go.RowKit
theorem gt_dropG {α : Type} [Inhabited α] {x : List α} {i : Nat} {a : α} {r : List α} (h : x.drop i = a :: r) : gt x (i : Int) = a ∧ i < x.length ∧ x.drop (i + 1) = r := by
  have hl : i < x.length := by
    refine Decidable.byContradiction fun c => ?_
    rw [List.drop_eq_nil_of_le (by omega)] at h
    cases h
  rw [List.drop_eq_getElem_cons hl] at h
  simp only [List.cons.injEq] at h
  exact ⟨by rw [gt_get x (i : Int) (by simpa using hl)]; simpa using h.1, hl, h.2⟩
abbrev Wm := (List Int) × (List (List Int))
abbrev TxT := (List Int) × (List Int) × Bool × Int × (List Int) × (List Int) × Int × (List Int) × (List Int) × (List Wm)
def Small (x : TxT) : Prop := x.2.2.2.2.2.1.length ≤ 3000 ∧ x.2.2.2.2.2.2.2.2.2.length ≤ 30 ∧ ∀ w ∈ x.2.2.2.2.2.2.2.2.2, w.2.length ≤ 30
theorem great_loop19 (x : TxT) (hx : x.2.2.2.2.2.2.2.2.2.length < 10000) : ∀ (l : List Wm) (q i : Nat), x.2.2.2.2.2.2.2.2.2.drop i = l → i ≤ x.2.2.2.2.2.2.2.2.2.length → l.length < q → smithyref19_Great.l1 x q (i : Int) = some true ∨ (smithyref19_Great.l1 x q (i : Int) = some false ∧ ∀ w ∈ l, w.2.length ≤ 30) := by
  intro l
  induction l with
  | nil =>
    intro q i hd hi hq
    obtain ⟨q, rfl⟩ : ∃ m, q = m + 1 := ⟨q - 1, by omega⟩
    have : x.2.2.2.2.2.2.2.2.2.length ≤ i := by simpa using hd
    right
    refine ⟨?_, by simp⟩
    show smithyref19_Great.b1 x _ _ = _
    unfold smithyref19_Great.b1
    rw [if_neg (by simp; omega)]
    rfl
  | cons w l ih =>
    intro q i hd hi hq
    simp only [List.length_cons] at hq
    obtain ⟨q, rfl⟩ : ∃ m, q = m + 1 := ⟨q - 1, by omega⟩
    obtain ⟨g, hi2, hr⟩ := gt_dropG hd
    have e : smithyref19_Great.l1 x (q + 1) (i : Int) = if (30 : Int) < (w.2.length : Int) then some true else smithyref19_Great.l1 x q ((i + 1 : Nat) : Int) := by
      show smithyref19_Great.b1 x _ _ = _
      unfold smithyref19_Great.b1
      simp only [g]
      rw [if_pos (by simp; omega), if_pos (by omega), wr_i64_id (by omega) (by omega)]
      by_cases c : (30 : Int) < (w.2.length : Int)
      · rw [if_pos (by simpa using c), if_pos c]
      · rw [if_neg (by simpa using c), if_neg c]; rfl
    rw [e]
    by_cases c : (30 : Int) < (w.2.length : Int)
    · rw [if_pos c]; exact Or.inl rfl
    · rw [if_neg c]
      rcases ih q (i + 1) hr (by omega) (by omega) with h | ⟨h1, h2⟩
      · exact Or.inl h
      · refine Or.inr ⟨h1, fun v hv => ?_⟩
        rcases List.mem_cons.1 hv with rfl | hv
        · omega
        · exact h2 v hv
theorem great19 (x : TxT) (k : Nat) (hk : 100 < k) : smithyref19_Great.f k x = some true ∨ (smithyref19_Great.f k x = some false ∧ Small x) := by
  unfold smithyref19_Great.f
  by_cases c1 : (3000 : Int) < (x.2.2.2.2.2.1.length : Int)
  · rw [if_pos (by simpa using c1)]; exact Or.inl rfl
  · rw [if_neg (by simpa using c1)]
    by_cases c2 : (30 : Int) < (x.2.2.2.2.2.2.2.2.2.length : Int)
    · rw [decide_eq_true c2]; exact Or.inl rfl
    · rw [decide_eq_false c2]
      unfold smithyref19_Great.j1
      rw [if_neg (by simp)]
      rcases great_loop19 x (by omega) x.2.2.2.2.2.2.2.2.2 k 0 rfl (by omega) (by omega) with h | ⟨h1, h2⟩
      · exact Or.inl h
      · exact Or.inr ⟨h1, by omega, by omega, h2⟩
end GW
