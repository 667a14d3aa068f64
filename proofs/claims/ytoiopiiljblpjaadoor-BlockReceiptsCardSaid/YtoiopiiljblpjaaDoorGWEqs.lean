/-
  GW, part 8: values of several cells that lead to no memory, held against each other.
-/
import Derived.Test.YtoiopiiljblpjaaDoorGWMore
import Derived.Laws.StructEq
set_option linter.unusedVariables false
set_option linter.unusedSimpArgs false
namespace GW
open Go Go.RowKit
/-- Two values of the type are equal if they stand for the same. -/
def EqTy {α : Type} [DecidableEq α] (P : Program) (t : TypeId) (b : Bool) (ty : Ty α) (D : Nat) : Prop :=
  (∃ z, tyI P t = some (b, z) ∧ z = ty.size) ∧ ∀ (d : Nat) (w : World) (m m' : Mem) (x y : α) (c c' : ty.Ch), D ≤ d → okS m (ty.segs x c) → okS m' (ty.segs y c') →
    (Op.equalIn d t (pv (b, ty.segs x c)) (pv (b, ty.segs y c'))).run P w = .ok (decide (x = y)) w
theorem EqTy.mono {α : Type} [DecidableEq α] {P : Program} {t : TypeId} {b : Bool} {ty : Ty α} {D D' : Nat} (h : EqTy P t b ty D) (hd : D ≤ D') : EqTy P t b ty D' := ⟨h.1, fun d w m m' x y c c' h1 => h.2 d w m m' x y c c' (by omega)⟩
section
variable {P : Program} {n : Nat} {m : Mem} {w0 : Base} {l : List (Nat × D)} {H : List Res} {a : Act} {w : World}
variable {ops : Array Oper} {Q : Exit → Act → World → Prop} {rest : List Oper} {ty : TypeId} {ps : String} {af : Array Edge} {t : Nat}
end
end GW
