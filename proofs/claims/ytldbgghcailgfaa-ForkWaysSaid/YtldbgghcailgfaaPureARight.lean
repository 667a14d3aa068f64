import Derived.Test.YtldbgghcailgfaaPureWRefC
import Derived.Test.YtldbgghcailgfaaPureAGreat
set_option linter.unusedVariables false
set_option linter.unusedSimpArgs false
set_option maxRecDepth 100000
namespace GW
open Go Go.RowKit
theorem gt_atG {α : Type} [Inhabited α] (xs : List α) {i : Int} (h0 : 0 ≤ i) (h1 : i < xs.length) : gt xs i ∈ xs := by
  unfold gt
  have h : i.toNat < xs.length := by omega
  rw [List.getD_eq_getElem?_getD, List.getElem?_eq_getElem h]
  exact List.getElem_mem h
theorem lessD_eq (k : Nat) {a b : List Int} (ha : Wd a) (hb : Wd b) : smithyref13_less.f (k + 40) a b = some (decide (wv a < wv b)) := by
  obtain ⟨d, d1, d2, d3, d4⟩ := ofD_eq k ha
  obtain ⟨e, e1, e2, e3, e4⟩ := ofD_eq k hb
  unfold smithyref13_less.f
  rw [d1, Option.bind_some, e1, Option.bind_some, cmpD_eq k d3 e3 d2 e2, Option.bind_some, cmpI_lt, d4, e4]
theorem cmpI_ge (a b : Int) : decide (0 ≤ cmpI a b) = !decide (a < b) := by
  unfold cmpI
  by_cases h : a = b
  · subst h; simp
  · rw [if_neg h]
    by_cases h2 : a < b <;> simp [h2]
theorem right_eq (k : Nat) (x : L34) (hx : Gd32 x.2.2.2.2) : ∀ (r q i : Nat), i + r = x.2.2.2.2.length → r < q → ∃ b, store_Right.l1 (k + 40) x q (i : Int) = some b ∧ smithyref13_Right.l1 (k + 40) x q (i : Int) = some b
  | 0, q, i, hi, hq => by
    obtain ⟨q, rfl⟩ : ∃ m, q = m + 1 := ⟨q - 1, by omega⟩
    refine ⟨true, ?_, ?_⟩
    · show store_Right.b1 _ _ _ _ = _
      unfold store_Right.b1
      rw [if_neg (by simp; omega)]; rfl
    · show smithyref13_Right.b1 _ _ _ _ = _
      unfold smithyref13_Right.b1
      rw [if_neg (by simp; omega)]; rfl
  | r + 1, q, i, hi, hq => by
    obtain ⟨q, rfl⟩ : ∃ m, q = m + 1 := ⟨q - 1, by omega⟩
    have hm := hx.2
    simp only [maxLen] at hm
    have hw : wr .i64 ((i : Int) + 1) = ((i + 1 : Nat) : Int) := by rw [wr_i64_id (by omega) (by omega)]; omega
    obtain ⟨b, ih1, ih2⟩ := right_eq k x hx r q (i + 1) (by omega) (by omega)
    have hc : decide ((i : Int) < ((x.2.2.2.2).length : Int)) = true := decide_eq_true (by omega)
    have hb : (0 : Int) ≤ (i : Int) ∧ (i : Int) < ((x.2.2.2.2).length : Int) := by omega
    have e1 : store_Right.l1 (k + 40) x (q + 1) (i : Int) = store_Right.b1 (k + 40) x (store_Right.l1 (k + 40) x q) (i : Int) := rfl
    have e2 : smithyref13_Right.l1 (k + 40) x (q + 1) (i : Int) = smithyref13_Right.b1 (k + 40) x (smithyref13_Right.l1 (k + 40) x q) (i : Int) := rfl
    rw [e1, e2]
    unfold store_Right.b1 smithyref13_Right.b1
    rw [if_pos hc, if_pos hb, if_pos hc, if_pos hb]
    by_cases c : (gt x.2.2.2.2 (i : Int)).2 = [0, 0, 0, 0]
    · rw [decide_eq_true c, if_pos rfl, if_pos rfl]
      exact ⟨false, rfl, rfl⟩
    · rw [decide_eq_false c, if_neg (show ¬ (false = true) by simp), if_neg (show ¬ (false = true) by simp)]
      have j1 : ∀ t, store_Right.j2 (i : Int) (store_Right.l1 (k + 40) x q) t = if t = true then some false else some b := fun t => by
        unfold store_Right.j2; rw [hw, ih1]
      have j2 : ∀ t, smithyref13_Right.j2 (i : Int) (smithyref13_Right.l1 (k + 40) x q) t = if t = true then some false else some b := fun t => by
        unfold smithyref13_Right.j2; rw [hw, ih2]
      by_cases c0 : 0 < i
      · have h0 : decide ((0 : Int) < (i : Int)) = true := decide_eq_true (by omega)
        have hp : wr .i64 ((i : Int) - 1) = (i : Int) - 1 := wr_i64_id (by omega) (by omega)
        rw [if_pos h0, if_pos h0, hp, if_pos (by omega), if_pos (by omega)]
        have g1 := (hx.1 _ (gt_atG x.2.2.2.2 (i := (i : Int) - 1) (by omega) (by omega))).1
        have g2 := (hx.1 _ (gt_atG x.2.2.2.2 (i := (i : Int)) (by omega) (by omega))).1
        have w1 : Wd (gt x.2.2.2.2 ((i : Int) - 1)).1 := g1
        have w2 : Wd (gt x.2.2.2.2 (i : Int)).1 := g2
        rw [show k + 40 = (k + 35) + 5 from rfl, cmp_eq (k + 35) w1 w2, Option.bind_some, show k + 35 + 5 = k + 40 from rfl, lessD_eq k w1 w2, Option.bind_some, cmpI_ge, j1, j2]
        split <;> exact ⟨_, rfl, rfl⟩
      · have h0 : decide ((0 : Int) < (i : Int)) = false := decide_eq_false (by omega)
        rw [h0, if_neg (show ¬ (false = true) by simp), if_neg (show ¬ (false = true) by simp), j1, j2, if_neg (show ¬ (false = true) by simp)]
        exact ⟨b, rfl, rfl⟩
theorem rights_eq (k : Nat) (x : L34) (hx : Gd32 x.2.2.2.2) (hk : x.2.2.2.2.length < k + 40) : ∃ b, store_Right.f (k + 40) x = some b ∧ smithyref13_Right.f (k + 40) x = some b := right_eq k x hx x.2.2.2.2.length (k + 40) 0 (by omega) (by omega)
end GW
