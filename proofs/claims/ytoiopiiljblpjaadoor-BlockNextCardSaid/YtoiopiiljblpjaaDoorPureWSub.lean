import Derived.Test.YtoiopiiljblpjaaDoorPureWBase
set_option linter.unusedVariables false
set_option linter.unusedSimpArgs false
set_option maxRecDepth 100000
namespace GW
open Go Go.RowKit
theorem sub_step (x y acc : List Int) (q i : Nat) (c : Int) (hi : i < 4) (hx : 0 ≤ rd x i) (hy : 0 ≤ rd y i ∧ rd y i < 18446744073709551616) (hc : 0 ≤ c ∧ c ≤ 1) :
    word_Sub.l1 x y (q + 1) (i : Int) c acc = word_Sub.l1 x y q ((i + 1 : Nat) : Int) (if rd x i < rd y i + c then 1 else 0) (acc.set i ((rd x i - rd y i - c) % 18446744073709551616)) := by
  show word_Sub.b1 x y _ _ _ _ = _
  unfold word_Sub.b1
  rw [if_pos (by simp; omega), if_pos (by omega), if_pos ⟨hx, hy, hc.1, hc.2⟩, wr_i64_id (by omega) (by omega)]
  rfl
theorem sub_eq (k : Nat) {a b : List Int} (ha : Wd a) (hb : Wd b) : ∃ c, word_Sub.f (k + 5) a b = some c ∧ Wd c ∧ wv c = (wv a - wv b) % 115792089237316195423570985008687907853269984665640564039457584007913129639936 := by
  obtain ⟨a0, a1, a2, a3, rfl, h0, h1, h2, h3⟩ := ha.lanes
  obtain ⟨b0, b1, b2, b3, rfl, k0, k1, k2, k3⟩ := hb.lanes
  have r0 : ∀ x0 x1 x2 x3 : Int, rd [x0, x1, x2, x3] ((0 : Nat) : Int) = x0 := fun _ _ _ _ => rfl
  have r1 : ∀ x0 x1 x2 x3 : Int, rd [x0, x1, x2, x3] ((1 : Nat) : Int) = x1 := fun _ _ _ _ => rfl
  have r2 : ∀ x0 x1 x2 x3 : Int, rd [x0, x1, x2, x3] ((2 : Nat) : Int) = x2 := fun _ _ _ _ => rfl
  have r3 : ∀ x0 x1 x2 x3 : Int, rd [x0, x1, x2, x3] ((3 : Nat) : Int) = x3 := fun _ _ _ _ => rfl
  have cb : ∀ (p : Prop) [Decidable p], (0 : Int) ≤ (if p then 1 else 0) ∧ (if p then (1 : Int) else 0) ≤ 1 := fun p _ => by split <;> omega
  have ce : ∀ x y c : Int, (0 ≤ x ∧ x < 18446744073709551616) → (0 ≤ y ∧ y < 18446744073709551616) → (0 ≤ c ∧ c ≤ 1) → (x - y - c) % 18446744073709551616 = x - y - c + 18446744073709551616 * (if x < y + c then 1 else 0) := fun x y c hx hy hc => by split <;> omega
  unfold word_Sub.f
  rw [show (word_Sub.l1 [a0, a1, a2, a3] [b0, b1, b2, b3] (k + 5) 0 0 [0, 0, 0, 0]) = word_Sub.l1 [a0, a1, a2, a3] [b0, b1, b2, b3] (k + 4 + 1) ((0 : Nat) : Int) 0 [0, 0, 0, 0] from rfl]
  rw [sub_step _ _ _ _ 0 _ (by omega) (by rw [r0]; omega) (by rw [r0]; omega) (by omega), r0, r0]
  rw [show k + 4 = k + 3 + 1 from rfl, sub_step _ _ _ _ 1 _ (by omega) (by rw [r1]; omega) (by rw [r1]; omega) (cb _), r1, r1]
  rw [show k + 3 = k + 2 + 1 from rfl, sub_step _ _ _ _ 2 _ (by omega) (by rw [r2]; omega) (by rw [r2]; omega) (cb _), r2, r2]
  rw [show k + 2 = k + 1 + 1 from rfl, sub_step _ _ _ _ 3 _ (by omega) (by rw [r3]; omega) (by rw [r3]; omega) (cb _), r3, r3]
  refine ⟨_, rfl, Wd.mk ?_ ?_ ?_ ?_, ?_⟩
  · omega
  · omega
  · omega
  · omega
  · refine (wv_lanes _ _ _ _).trans ?_
    rw [wv_lanes, wv_lanes]
    have e0 := ce a0 b0 0 h0 k0 (by omega)
    have c0 := cb (a0 < b0 + 0)
    rw [e0]
    generalize (if a0 < b0 + 0 then (1 : Int) else 0) = u0 at *
    have e1 := ce a1 b1 u0 h1 k1 c0
    have c1 := cb (a1 < b1 + u0)
    rw [e1]
    generalize (if a1 < b1 + u0 then (1 : Int) else 0) = u1 at *
    have e2 := ce a2 b2 u1 h2 k2 c1
    have c2 := cb (a2 < b2 + u1)
    rw [e2]
    generalize (if a2 < b2 + u1 then (1 : Int) else 0) = u2 at *
    have e3 := ce a3 b3 u2 h3 k3 c2
    have c3 := cb (a3 < b3 + u2)
    rw [e3]
    generalize (if a3 < b3 + u2 then (1 : Int) else 0) = u3 at *
    omega
end GW
