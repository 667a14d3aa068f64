import Derived.Test.YtoiopiiljblpjaaDoorPureWBase
set_option linter.unusedVariables false
set_option linter.unusedSimpArgs false
set_option maxRecDepth 100000
namespace GW
open Go Go.RowKit
theorem add_step (x y acc : List Int) (q i : Nat) (c : Int) (hi : i < 4) (hx : 0 ≤ rd x i) (hy : 0 ≤ rd y i) (hc : 0 ≤ c ∧ c ≤ 1) :
    word_Add.l1 x y (q + 1) (i : Int) c acc = word_Add.l1 x y q ((i + 1 : Nat) : Int) ((rd x i + rd y i + c) / 18446744073709551616) (acc.set i ((rd x i + rd y i + c) % 18446744073709551616)) := by
  show word_Add.b1 x y _ _ _ _ = _
  unfold word_Add.b1
  rw [if_pos (by simp; omega), if_pos (by omega), if_pos ⟨hx, hy, hc.1, hc.2⟩, wr_i64_id (by omega) (by omega)]
  rfl
theorem add_eq (k : Nat) {a b : List Int} (ha : Wd a) (hb : Wd b) : ∃ c, word_Add.f (k + 5) a b = some c ∧ Wd c ∧ wv c = (wv a + wv b) % 115792089237316195423570985008687907853269984665640564039457584007913129639936 := by
  obtain ⟨a0, a1, a2, a3, rfl, h0, h1, h2, h3⟩ := ha.lanes
  obtain ⟨b0, b1, b2, b3, rfl, k0, k1, k2, k3⟩ := hb.lanes
  have r0 : ∀ x0 x1 x2 x3 : Int, rd [x0, x1, x2, x3] ((0 : Nat) : Int) = x0 := fun _ _ _ _ => rfl
  have r1 : ∀ x0 x1 x2 x3 : Int, rd [x0, x1, x2, x3] ((1 : Nat) : Int) = x1 := fun _ _ _ _ => rfl
  have r2 : ∀ x0 x1 x2 x3 : Int, rd [x0, x1, x2, x3] ((2 : Nat) : Int) = x2 := fun _ _ _ _ => rfl
  have r3 : ∀ x0 x1 x2 x3 : Int, rd [x0, x1, x2, x3] ((3 : Nat) : Int) = x3 := fun _ _ _ _ => rfl
  unfold word_Add.f
  rw [show (word_Add.l1 [a0, a1, a2, a3] [b0, b1, b2, b3] (k + 5) 0 0 [0, 0, 0, 0]) = word_Add.l1 [a0, a1, a2, a3] [b0, b1, b2, b3] (k + 4 + 1) ((0 : Nat) : Int) 0 [0, 0, 0, 0] from rfl]
  rw [add_step _ _ _ _ 0 _ (by omega) (by rw [r0]; omega) (by rw [r0]; omega) (by omega), r0, r0]
  rw [show k + 4 = k + 3 + 1 from rfl, add_step _ _ _ _ 1 _ (by omega) (by rw [r1]; omega) (by rw [r1]; omega) (by omega), r1, r1]
  rw [show k + 3 = k + 2 + 1 from rfl, add_step _ _ _ _ 2 _ (by omega) (by rw [r2]; omega) (by rw [r2]; omega) (by omega), r2, r2]
  rw [show k + 2 = k + 1 + 1 from rfl, add_step _ _ _ _ 3 _ (by omega) (by rw [r3]; omega) (by rw [r3]; omega) (by omega), r3, r3]
  refine ⟨_, rfl, Wd.mk ?_ ?_ ?_ ?_, ?_⟩
  · omega
  · omega
  · omega
  · omega
  · refine (wv_lanes _ _ _ _).trans ?_
    rw [wv_lanes, wv_lanes]
    omega
end GW
