import Derived.Test.YtoiopiiljblpjaaDoorPureReceipt
set_option linter.unusedVariables false
set_option linter.unusedSimpArgs false
set_option maxRecDepth 100000
namespace GW
open Go Go.RowKit
theorem great_loop23 (x : Rc) (hx : x.2.2.2.2.2.2.1.length < 10000) : ∀ (l : List Lg) (q i : Nat), x.2.2.2.2.2.2.1.drop i = l → i ≤ x.2.2.2.2.2.2.1.length → l.length < q → smithyref23_Great.l1 x q (i : Int) = some true ∨ (smithyref23_Great.l1 x q (i : Int) = some false ∧ ∀ w ∈ l, w.2.1.length ≤ 30 ∧ w.2.2.length ≤ 3000) := by
  intro l
  induction l with
  | nil =>
    intro q i hd hi hq
    obtain ⟨q, rfl⟩ : ∃ m, q = m + 1 := ⟨q - 1, by omega⟩
    have : x.2.2.2.2.2.2.1.length ≤ i := by simpa using hd
    right
    refine ⟨?_, by simp⟩
    show smithyref23_Great.b1 x _ _ = _
    unfold smithyref23_Great.b1
    rw [if_neg (by simp; omega)]
    rfl
  | cons w l ih =>
    intro q i hd hi hq
    simp only [List.length_cons] at hq
    obtain ⟨q, rfl⟩ : ∃ m, q = m + 1 := ⟨q - 1, by omega⟩
    obtain ⟨g, hi2, hr⟩ := gt_dropG hd
    have e : smithyref23_Great.l1 x (q + 1) (i : Int) = if (30 : Int) < (w.2.1.length : Int) ∨ (3000 : Int) < (w.2.2.length : Int) then some true else smithyref23_Great.l1 x q ((i + 1 : Nat) : Int) := by
      show smithyref23_Great.b1 x _ _ = _
      unfold smithyref23_Great.b1
      simp only [g]
      rw [if_pos (by simp; omega), if_pos (by omega)]
      unfold smithyref23_Great.j3
      rw [wr_i64_id (by omega) (by omega)]
      by_cases c : (30 : Int) < (w.2.1.length : Int)
      · rw [if_pos (by simpa using c), if_pos rfl, if_pos (Or.inl c)]
      · rw [if_neg (by simpa using c)]
        by_cases c2 : (3000 : Int) < (w.2.2.length : Int)
        · rw [decide_eq_true c2, if_pos rfl, if_pos (Or.inr c2)]
        · rw [decide_eq_false c2, if_neg (by simp), if_neg (by omega)]; rfl
    rw [e]
    by_cases c : (30 : Int) < (w.2.1.length : Int) ∨ (3000 : Int) < (w.2.2.length : Int)
    · rw [if_pos c]; exact Or.inl rfl
    · rw [if_neg c]
      rcases ih q (i + 1) hr (by omega) (by omega) with h | ⟨h1, h2⟩
      · exact Or.inl h
      · refine Or.inr ⟨h1, fun v hv => ?_⟩
        rcases List.mem_cons.1 hv with rfl | hv
        · omega
        · exact h2 v hv
theorem great23 (x : Rc) (k : Nat) (hk : 100 < k) : smithyref23_Great.f k x = some true ∨ (smithyref23_Great.f k x = some false ∧ x.2.2.2.2.2.2.2.length ≤ 3000 ∧ x.2.2.2.2.2.2.1.length ≤ 30 ∧ ∀ w ∈ x.2.2.2.2.2.2.1, w.2.1.length ≤ 30 ∧ w.2.2.length ≤ 3000) := by
  unfold smithyref23_Great.f
  by_cases c1 : (3000 : Int) < (x.2.2.2.2.2.2.2.length : Int)
  · rw [if_pos (by simpa using c1)]; exact Or.inl rfl
  rw [if_neg (by simpa using c1)]
  by_cases c : (30 : Int) < (x.2.2.2.2.2.2.1.length : Int)
  · rw [decide_eq_true c]; exact Or.inl rfl
  rw [decide_eq_false c]
  unfold smithyref23_Great.j1
  rw [if_neg (by simp)]
  rcases great_loop23 x (by omega) x.2.2.2.2.2.2.1 k 0 rfl (by omega) (by omega) with h | ⟨h3, h4⟩
  · exact Or.inl h
  · exact Or.inr ⟨h3, by omega, by omega, h4⟩
theorem grc_of (x : Rc) (hg : Gd39 x) (h1 : x.2.2.2.2.2.2.2.length ≤ 3000) (h2 : x.2.2.2.2.2.2.1.length ≤ 30) (h3 : ∀ w ∈ x.2.2.2.2.2.2.1, w.2.1.length ≤ 30 ∧ w.2.2.length ≤ 3000) : GRc x where
  frm := hg.1.1
  nonce := hg.2.1
  used := hg.2.2.2.1
  price := hg.2.2.2.2.1
  made := hg.2.2.2.2.2.1.1
  logs := ⟨h2, fun y hy => ⟨(hg.2.2.2.2.2.2.1.1 y hy).1.1, ⟨(h3 y hy).1, (hg.2.2.2.2.2.2.1.1 y hy).2.1.1⟩, (h3 y hy).2⟩⟩
  answer := h1
end GW
