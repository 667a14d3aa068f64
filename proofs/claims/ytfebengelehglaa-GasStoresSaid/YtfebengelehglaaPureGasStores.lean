/-
  What the law 'GasStores' says of plain values: both tables agree, whichever of the words are the same.
-/
import Derived.Test.YtfebengelehglaaG0
import Derived.Test.YtfebengelehglaaGWPlain
set_option linter.unusedVariables false
set_option linter.unusedSimpArgs false
namespace GW
open Go Go.RowKit
/-- What is refunded: by which of the words are the same, and which are 0. -/
def againV (z1 z2 z3 e : Bool) : Int :=
  (if z1 = false ∧ z2 = true then -4800 else 0) + (if z1 = false ∧ z3 = true then 4800 else 0) + (if e = true ∧ z1 = true then 19900 else 0) + (if e = true ∧ z1 = false then 2800 else 0)
theorem again_eq (x1 x2 x3 : List Int) : f29_gas_again.f x1 x2 x3 = some (againV (decide (x1 = [0, 0, 0, 0])) (decide (x2 = [0, 0, 0, 0])) (decide (x3 = [0, 0, 0, 0])) (decide (x1 = x3))) := by
  unfold f29_gas_again.f f29_gas_again.j8 f29_gas_again.j1 f29_gas_again.j7 f29_gas_again.j2 f29_gas_again.j6 f29_gas_again.j3 f29_gas_again.j5 f29_gas_again.j4
  generalize decide (x1 = [0, 0, 0, 0]) = b1
  generalize decide (x2 = [0, 0, 0, 0]) = b2
  generalize decide (x3 = [0, 0, 0, 0]) = b3
  generalize decide (x1 = x3) = b4
  cases b1 <;> cases b2 <;> cases b3 <;> cases b4 <;> rfl
/-- What a store costs, and what it refunds. -/
def sstoreV (cold e12 e23 z1 z2 z3 e13 : Bool) : Int × Int :=
  if e23 = true then ((if cold = true then 2100 else 0) + 100, 0)
  else if e12 = false then ((if cold = true then 2100 else 0) + 100, againV z1 z2 z3 e13)
  else if z1 = true then ((if cold = true then 2100 else 0) + 20000, 0)
  else ((if cold = true then 2100 else 0) + 2900, if z3 = true then 4800 else 0)
theorem sstore_eq (x1 x2 x3 : List Int) (b : Bool) : f9_gas_Sstore.f x1 x2 x3 b = some (sstoreV b (decide (x1 = x2)) (decide (x2 = x3)) (decide (x1 = [0, 0, 0, 0])) (decide (x2 = [0, 0, 0, 0])) (decide (x3 = [0, 0, 0, 0])) (decide (x1 = x3))) := by
  unfold f9_gas_Sstore.f
  rw [again_eq]
  generalize decide (x1 = [0, 0, 0, 0]) = b1
  generalize decide (x2 = [0, 0, 0, 0]) = b2
  generalize decide (x3 = [0, 0, 0, 0]) = b3
  generalize decide (x1 = x3) = b4
  generalize decide (x1 = x2) = b5
  generalize decide (x2 = x3) = b6
  cases b <;> cases b1 <;> cases b2 <;> cases b3 <;> cases b4 <;> cases b5 <;> cases b6 <;> rfl
theorem refstore_eq (x1 x2 x3 : List Int) (b : Bool) : f10_smithyref12_Sstore.f x1 x2 x3 b = some (sstoreV b (decide (x1 = x2)) (decide (x2 = x3)) (decide (x1 = [0, 0, 0, 0])) (decide (x2 = [0, 0, 0, 0])) (decide (x3 = [0, 0, 0, 0])) (decide (x1 = x3))) := by
  unfold f10_smithyref12_Sstore.f f10_smithyref12_Sstore.j1 f10_smithyref12_Sstore.j4 f10_smithyref12_Sstore.j2 f10_smithyref12_Sstore.j3
  generalize decide (x1 = [0, 0, 0, 0]) = b1
  generalize decide (x2 = [0, 0, 0, 0]) = b2
  generalize decide (x3 = [0, 0, 0, 0]) = b3
  generalize decide (x1 = x3) = b4
  generalize decide (x1 = x2) = b5
  generalize decide (x2 = x3) = b6
  cases b <;> cases b1 <;> cases b2 <;> cases b3 <;> cases b4 <;> cases b5 <;> cases b6 <;> rfl
theorem f3_smithylaw12_GasStores_true (a0 : List Int) (a1 : List Int) (a2 : List Int) (a3 : Bool) (l0 : a0.length = 4) (w0 : ∀ y ∈ a0, inK .u64 y) (l1 : a1.length = 4) (w1 : ∀ y ∈ a1, inK .u64 y) (l2 : a2.length = 4) (w2 : ∀ y ∈ a2, inK .u64 y) : ∃ k : Nat, f3_smithylaw12_GasStores.f a0 a1 a2 a3 = some true := by
  refine ⟨0, ?_⟩
  have hf : f11_smithylaw12_fixed.f = some true := by kernel_rfl
  unfold f3_smithylaw12_GasStores.f
  rw [sstore_eq, refstore_eq, hf]
  simp
end GW
