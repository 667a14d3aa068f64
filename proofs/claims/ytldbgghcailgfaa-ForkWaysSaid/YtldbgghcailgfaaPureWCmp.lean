import Derived.Test.YtldbgghcailgfaaPureWBase
set_option linter.unusedVariables false
set_option linter.unusedSimpArgs false
set_option maxRecDepth 100000
namespace GW
open Go Go.RowKit
def cmpI (a b : Int) : Int := if a = b then 0 else if a < b then -1 else 1
theorem cmp_step (x y : List Int) (q i : Nat) (hi : i < 4) (h : rd x i = rd y i) : word_Compare.l1 x y (q + 1) (i : Int) = word_Compare.l1 x y q ((i : Int) - 1) := by
  show word_Compare.b1 x y _ _ = _
  unfold word_Compare.b1
  rw [if_pos (by omega), if_pos (by simpa using h), wr_i64_id (by omega) (by omega)]
theorem cmp_stop (x y : List Int) (q i : Nat) (hi : i < 4) (h : rd x i ≠ rd y i) : word_Compare.l1 x y (q + 1) (i : Int) = some (if rd x i < rd y i then -1 else 1) := by
  show word_Compare.b1 x y _ _ = _
  unfold word_Compare.b1
  rw [if_pos (by omega), if_neg (by simpa using h)]
  unfold word_Compare.j1
  rw [if_pos (by omega)]
  by_cases c : rd x i < rd y i
  · rw [if_pos (by simpa using c), if_pos c]
  · rw [if_neg (by simpa using c), if_neg c]
theorem cmp_eq (k : Nat) {a b : List Int} (ha : Wd a) (hb : Wd b) : word_Compare.f (k + 5) a b = some (cmpI (wv a) (wv b)) := by
  unfold word_Compare.f cmpI
  by_cases e : a = b
  · subst e
    rw [if_pos (by simp), if_pos rfl]
  rw [if_neg (by simpa using e), if_neg (fun h => e (ha.inj hb h))]
  obtain ⟨a0, a1, a2, a3, rfl, h0, h1, h2, h3⟩ := ha.lanes
  obtain ⟨b0, b1, b2, b3, rfl, k0, k1, k2, k3⟩ := hb.lanes
  have r0 : ∀ x0 x1 x2 x3 : Int, rd [x0, x1, x2, x3] ((0 : Nat) : Int) = x0 := fun _ _ _ _ => rfl
  have r1 : ∀ x0 x1 x2 x3 : Int, rd [x0, x1, x2, x3] ((1 : Nat) : Int) = x1 := fun _ _ _ _ => rfl
  have r2 : ∀ x0 x1 x2 x3 : Int, rd [x0, x1, x2, x3] ((2 : Nat) : Int) = x2 := fun _ _ _ _ => rfl
  have r3 : ∀ x0 x1 x2 x3 : Int, rd [x0, x1, x2, x3] ((3 : Nat) : Int) = x3 := fun _ _ _ _ => rfl
  have goal : ∀ (p q : Int), (p < q ↔ wv [a0, a1, a2, a3] < wv [b0, b1, b2, b3]) → some (if p < q then (-1 : Int) else 1) = some (if wv [a0, a1, a2, a3] < wv [b0, b1, b2, b3] then -1 else 1) := fun p q h => by
    by_cases c : p < q
    · rw [if_pos c, if_pos (h.1 c)]
    · rw [if_neg c, if_neg (fun u => c (h.2 u))]
  simp only [wv_lanes] at goal ⊢
  rw [show (word_Compare.l1 [a0, a1, a2, a3] [b0, b1, b2, b3] (k + 5) 3) = word_Compare.l1 [a0, a1, a2, a3] [b0, b1, b2, b3] (k + 4 + 1) ((3 : Nat) : Int) from rfl]
  by_cases c3 : a3 = b3
  · rw [cmp_step [a0, a1, a2, a3] [b0, b1, b2, b3] _ 3 (by omega) c3, show (((3 : Nat) : Int) - 1) = ((2 : Nat) : Int) from rfl, show k + 4 = k + 3 + 1 from rfl]
    by_cases c2 : a2 = b2
    · rw [cmp_step [a0, a1, a2, a3] [b0, b1, b2, b3] _ 2 (by omega) c2, show (((2 : Nat) : Int) - 1) = ((1 : Nat) : Int) from rfl, show k + 3 = k + 2 + 1 from rfl]
      by_cases c1 : a1 = b1
      · rw [cmp_step [a0, a1, a2, a3] [b0, b1, b2, b3] _ 1 (by omega) c1, show (((1 : Nat) : Int) - 1) = ((0 : Nat) : Int) from rfl, show k + 2 = k + 1 + 1 from rfl]
        by_cases c0 : a0 = b0
        · exact absurd (by rw [c0, c1, c2, c3]) e
        · rw [cmp_stop [a0, a1, a2, a3] [b0, b1, b2, b3] _ 0 (by omega) c0, r0, r0]; exact goal _ _ (by omega)
      · rw [cmp_stop [a0, a1, a2, a3] [b0, b1, b2, b3] _ 1 (by omega) c1, r1, r1]; exact goal _ _ (by omega)
    · rw [cmp_stop [a0, a1, a2, a3] [b0, b1, b2, b3] _ 2 (by omega) c2, r2, r2]; exact goal _ _ (by omega)
  · rw [cmp_stop [a0, a1, a2, a3] [b0, b1, b2, b3] _ 3 (by omega) c3, r3, r3]; exact goal _ _ (by omega)
theorem cmpI_lt (a b : Int) : decide (cmpI a b < 0) = decide (a < b) := by
  unfold cmpI
  by_cases h : a = b
  · subst h; simp
  · rw [if_neg h]
    by_cases k : a < b
    · rw [if_pos k]; simp [k]
    · rw [if_neg k]; simp [k]
end GW
