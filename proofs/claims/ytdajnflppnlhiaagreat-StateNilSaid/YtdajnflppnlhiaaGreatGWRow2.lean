import Derived.Test.YtdajnflppnlhiaaGreatGWCtr
import Derived.Lib.AppendZeros
set_option linter.unusedVariables false
set_option linter.unusedSimpArgs false
namespace GW
open Go Go.RowKit
def Ty.Flat {α : Type} (t : Ty α) : Prop := ∀ (x : α) (c : t.Ch) (m m' : Mem), okS m (t.segs x c) → okS m' (t.segs x c)
theorem flat_arr {k : IntKind} {n : Nat} : (Ty.arr k n).Flat := fun _ _ _ _ h => h
theorem flat_prod {α β : Type} {a : Ty α} {b : Ty β} (ha : a.Flat) (hb : b.Flat) : (Ty.prod a b).Flat := fun x c m m' h =>
  okS_append.2 ⟨ha _ _ _ _ (okS_append.1 h).1, hb _ _ _ _ (okS_append.1 h).2⟩
theorem Res.stay_row {α : Type} {ty : Ty α} {e : TypeId} {A : Option Addr} {n cap : Nat} {xs : List α} (hf : ty.Flat) : (Res.row ty e A n cap xs).Stay := fun m m' w w' _ h2 => by
  obtain ⟨h0, cs, h1, h3, h4⟩ := h2
  exact ⟨h0, cs, h1, (segsL_ok xs cs h1).2 fun i hi hi' => hf _ _ _ _ ((segsL_ok xs cs h1).1 h3 i hi hi'), h4⟩
section
variable {P : Program} {n : Nat} {m : Mem} {w0 : Base} {l : List (Nat × D)} {H : List Res} {a : Act} {w : World}
variable {ops : Array Oper} {Q : Exit → Act → World → Prop} {rest : List Oper} {ty : TypeId} {ps : String} {af : Array Edge} {t : Nat}
theorem s_fieldAddr (S : St n m w0 l H a w) {e : TypeId} {x : Operand} {f g o off o' z : Nat} {ft : TypeId} {b : Bool} (hx : evo l x = some (.v (.pointer (some ⟨g, o, none⟩)))) (hF : fieldI P e f = some (off, ft)) (hT : tyI P ft = some (b, z)) (hz : z ≠ 0) (ho : o + off = o') (ht : Nat.blt t n = true)
    (K : ∀ a', St n m w0 ((t, .v (.pointer (some ⟨g, o', none⟩))) :: l) H a' w → wpList P ops Q rest a' w) : wpList P ops Q (⟨some t, .fieldAddr e x f, ty, ps, af, none⟩ :: rest) a w :=
  s_run (dv := .v (.pointer (some ⟨g, o', none⟩))) S ht rfl (by
    have hx' : a.eval x = .pointer (some ⟨g, o, none⟩) := S.evo hx
    unfold fieldI at hF
    split at hF
    · rename_i fs hu
      obtain ⟨fd, hfd, he⟩ := Option.map_eq_some_iff.1 hF
      simp only [Prod.mk.injEq] at he
      obtain ⟨rfl, rfl⟩ := he
      have ha : (⟨g, o, none⟩ : Addr).add fd.offset = ⟨g, o', none⟩ := by subst ho; unfold Addr.add; split <;> simp_all
      simp only [execOp, hx']
      simp [Instr.fieldAt, run_underlying hu, hfd, Instr.sureAddr, fieldPlace, run_sizeI hT, hz, ha, D.val]
    · cases hF) K
section
variable {m' : Mem} {HS : List Res} {C' : World → Prop}
end
theorem Res.row.cap {α : Type} {ty' : Ty α} {e : TypeId} {A : Option Addr} {k cap : Nat} {xs : List α} (hr : (Res.row ty' e A k cap xs).holds m w) : k ≤ cap ∧ cap ≤ maxLen := by
  obtain ⟨h0, cs, c1, c2, c3, c4⟩ := hr
  rcases c4 with ⟨e1, e2⟩ | ⟨g, cp, cur, e1, e2, e3, e4, e5, e6, e7⟩
  · obtain ⟨-, -, rfl⟩ := Value.slice.inj e1; simp [e2]
  · obtain ⟨-, -, rfl⟩ := Value.slice.inj e1; exact ⟨e4, e5⟩
end
end GW
