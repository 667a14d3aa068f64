import Derived.Test.YtdajnflppnlhiaaGreatGWMore
import Derived.Laws.StructEq
set_option linter.unusedVariables false
set_option linter.unusedSimpArgs false
namespace GW
open Go Go.RowKit
def EqTy {α : Type} [DecidableEq α] (P : Program) (t : TypeId) (b : Bool) (ty : Ty α) (D : Nat) : Prop :=
  (∃ z, tyI P t = some (b, z) ∧ z = ty.size) ∧ ∀ (d : Nat) (w : World) (m m' : Mem) (x y : α) (c c' : ty.Ch), D ≤ d → okS m (ty.segs x c) → okS m' (ty.segs y c') →
    (Op.equalIn d t (pv (b, ty.segs x c)) (pv (b, ty.segs y c'))).run P w = .ok (decide (x = y)) w
theorem eqTy_arr {P : Program} {t e : TypeId} {k : IntKind} {n : Nat} (hu : P.underlying t = some (.array n e)) (hi : P.underlying e = some (.int k)) (hT : tyI P e = some (false, 1)) (hT' : tyI P t = some (true, n)) : EqTy P t true (Ty.arr k n) 3 :=
  ⟨⟨n, hT', rfl⟩, fun d w m m' x y c c' hd ox oy => by
    obtain ⟨d, rfl⟩ : ∃ e, d = e + 1 + 1 := ⟨d - 2, by omega⟩
    obtain ⟨dd, i, hdd, hinf, hb, hz⟩ := tyI_some hT
    have hc : P.cellsOf e = 1 := by simp [Program.cellsOf, hinf, hz]
    have e1 : ∀ (z : List Int), pv (true, (Ty.arr k n).segs z c) = .agg (nums k z).toArray := fun z => by simp [pv, Ty.arr, cellsOf, Seg.cells]
    have e2 : ∀ (z : List Int), pv (true, (Ty.arr k n).segs z c') = .agg (nums k z).toArray := fun z => by simp [pv, Ty.arr, cellsOf, Seg.cells]
    have hx : x.length = n := ox.1
    have hy : y.length = n := oy.1
    rw [e1, e2, run_equalIn_array w (d + 1) _ _ hu hinf, hc, run_eqItems_ints hi hT d x y w _ (fun i hi => by have := List.mem_range.1 hi; omega), all_getD x y n hx hy]⟩
theorem EqTy.mono {α : Type} [DecidableEq α] {P : Program} {t : TypeId} {b : Bool} {ty : Ty α} {D D' : Nat} (h : EqTy P t b ty D) (hd : D ≤ D') : EqTy P t b ty D' := ⟨h.1, fun d w m m' x y c c' h1 => h.2 d w m m' x y c c' (by omega)⟩
section
variable {P : Program} {n : Nat} {m : Mem} {w0 : Base} {l : List (Nat × D)} {H : List Res} {a : Act} {w : World}
variable {ops : Array Oper} {Q : Exit → Act → World → Prop} {rest : List Oper} {ty : TypeId} {ps : String} {af : Array Edge} {t : Nat}
end
end GW
