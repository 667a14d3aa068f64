/-
  What a store costs and refunds, by which of the words are the same: the program's table and the document's.
-/
import Derived.Test.YtfebengelehglaaG0
import Derived.Test.YtfebengelehglaaGWPlain
set_option linter.unusedVariables false
set_option linter.unusedSimpArgs false
namespace GW
open Go Go.RowKit
theorem either_eq (b : Bool) (x y : Int) : gas_either.f b x y = some (if b = true then x else y) := by
  cases b <;> rfl
theorem fixed_eq : smithylaw12_fixed.f = some true := by kernel_rfl
/-- What is refunded: by which of the words are the same, and which are 0. -/
def againV (z1 z2 z3 e : Bool) : Int :=
  (if z1 = false ∧ z2 = true then -4800 else 0) + (if z1 = false ∧ z3 = true then 4800 else 0) + (if e = true ∧ z1 = true then 19900 else 0) + (if e = true ∧ z1 = false then 2800 else 0)
theorem again_eq (x1 x2 x3 : List Int) : gas_again.f x1 x2 x3 = some (againV (decide (x1 = [0, 0, 0, 0])) (decide (x2 = [0, 0, 0, 0])) (decide (x3 = [0, 0, 0, 0])) (decide (x1 = x3))) := by
  unfold gas_again.f gas_again.j8 gas_again.j1 gas_again.j7 gas_again.j2 gas_again.j6 gas_again.j3 gas_again.j5 gas_again.j4
  generalize decide (x1 = [0, 0, 0, 0]) = b1
  generalize decide (x2 = [0, 0, 0, 0]) = b2
  generalize decide (x3 = [0, 0, 0, 0]) = b3
  generalize decide (x1 = x3) = b4
  cases b1 <;> cases b2 <;> cases b3 <;> cases b4 <;> rfl
/-- What a store costs, and what it refunds. -/
def sstoreV (cold e12 e23 z1 z2 z3 e13 : Bool) : Int × Int :=
  if e23 = true then ((if cold = true then 2100 else 0) + 100, 0)
  else if e12 = false then ((if cold = true then 2100 else 0) + 100, againV z1 z2 z3 e13)
  else if z1 = true then ((if cold = true then 2100 else 0) + 20000, 0)
  else ((if cold = true then 2100 else 0) + 2900, if z3 = true then 4800 else 0)
theorem sstore_eq (x1 x2 x3 : List Int) (b : Bool) : gas_Sstore.f x1 x2 x3 b = some (sstoreV b (decide (x1 = x2)) (decide (x2 = x3)) (decide (x1 = [0, 0, 0, 0])) (decide (x2 = [0, 0, 0, 0])) (decide (x3 = [0, 0, 0, 0])) (decide (x1 = x3))) := by
  unfold gas_Sstore.f
  rw [again_eq]
  generalize decide (x1 = [0, 0, 0, 0]) = b1
  generalize decide (x2 = [0, 0, 0, 0]) = b2
  generalize decide (x3 = [0, 0, 0, 0]) = b3
  generalize decide (x1 = x3) = b4
  generalize decide (x1 = x2) = b5
  generalize decide (x2 = x3) = b6
  cases b <;> cases b1 <;> cases b2 <;> cases b3 <;> cases b4 <;> cases b5 <;> cases b6 <;> rfl
theorem refstore_eq (x1 x2 x3 : List Int) (b : Bool) : smithyref12_Sstore.f x1 x2 x3 b = some (sstoreV b (decide (x1 = x2)) (decide (x2 = x3)) (decide (x1 = [0, 0, 0, 0])) (decide (x2 = [0, 0, 0, 0])) (decide (x3 = [0, 0, 0, 0])) (decide (x1 = x3))) := by
  unfold smithyref12_Sstore.f smithyref12_Sstore.j1 smithyref12_Sstore.j4 smithyref12_Sstore.j2 smithyref12_Sstore.j3
  generalize decide (x1 = [0, 0, 0, 0]) = b1
  generalize decide (x2 = [0, 0, 0, 0]) = b2
  generalize decide (x3 = [0, 0, 0, 0]) = b3
  generalize decide (x1 = x3) = b4
  generalize decide (x1 = x2) = b5
  generalize decide (x2 = x3) = b6
  cases b <;> cases b1 <;> cases b2 <;> cases b3 <;> cases b4 <;> cases b5 <;> cases b6 <;> rfl
end GW
