/-
  GW, part 2e: the laws of single operations for regions whose order is open and that turn memory: made by program (mkqui.py) out of those for regions whose order is fixed.
-/
import Derived.Test.YtoiopiiljblpjaaDoorGWEqs
set_option linter.unusedVariables false
set_option linter.unusedSimpArgs false
namespace GW
open Go Go.RowKit
section
variable {P : Program} {n : Nat} {m m' : Mem} {w0 : Base} {l lq : List (Nat × D)} {H HS : List Res} {a : Act} {w : World} {lO : List Oper} {i' : Nat} {r' : Sch} {g' : Option (Nat × Bool)}
variable {Q : Exit → Act → World → Prop} {ty : TypeId} {ps : String} {af : Array Edge} {t : Nat}
theorem h_iaddrO0 {α : Type} (S : St n m' w0 l H a w) (C : Cls m w0 lq HS) (hw_ : WP_ m w0 HS w) (hle : LeM m m') (hsub : subF l lq) {e et ee : TypeId} {x y : Operand} {A : Option Addr} {k cap g : Nat} {ty' : Ty α} {xs : List α} {kk : IntKind} {i : Int} {b : Bool} {T : List Res} (hA : A = some ⟨g, 0, none⟩)
    (hx : evo lq x = some (.v (.slice A k cap))) (hf : Foc HS (Res.row ty' ee A k cap xs) (Res.row ty' ee A k cap xs) T) (hy : evo lq y = some (.v (.int kk i))) (hu : P.underlying e = some (.slice et)) (hT : tyI P et = some (b, ty'.size)) (h0 : 0 ≤ i) (h1 : i < xs.length) (ht : Nat.blt t n = true)
    (hi' : lO[i']? = some ⟨some t, .indexAddr e x y, ty, ps, af, g'⟩) (hgd' : GdOK lO l g') (K : ∀ a', St n m' w0 ((t, .v (.pointer (some ⟨g, i.toNat * ty'.size, none⟩))) :: l) H a' w → Cls m w0 ((t, .v (.pointer (some ⟨g, i.toNat * ty'.size, none⟩))) :: lq) HS → wpH P lO.toArray (NoPanic Q) (WP_ m w0 HS) r' a' w) : wpH P lO.toArray (NoPanic Q) (WP_ m w0 HS) (.take i' r') a w :=
  h_of S C hw_ hle hsub hi' hgd' ht rfl rfl (fun w S _ h => s_iaddrO0 (ops := #[]) (rest := []) (ty := ty) (ps := ps) (af := af) (P := P) S (e := e) (et := et) (ee := ee) (x := x) (y := y) (A := A) (k := k) (cap := cap) (g := g) (ty' := ty') (xs := xs) (kk := kk) (i := i) (b := b) (T := T) (hA := hA) (hx := hx) (hf := hf) (hy := hy) (hu := hu) (hT := hT) (h0 := h0) (h1 := h1) (ht := ht) h) K
theorem h_fieldAddr (S : St n m' w0 l H a w) (C : Cls m w0 lq HS) (hw_ : WP_ m w0 HS w) (hle : LeM m m') (hsub : subF l lq) {e : TypeId} {x : Operand} {f g o off o' z : Nat} {ft : TypeId} {b : Bool} (hx : evo lq x = some (.v (.pointer (some ⟨g, o, none⟩)))) (hF : fieldI P e f = some (off, ft)) (hT : tyI P ft = some (b, z)) (hz : z ≠ 0) (ho : o + off = o') (ht : Nat.blt t n = true)
    (hi' : lO[i']? = some ⟨some t, .fieldAddr e x f, ty, ps, af, g'⟩) (hgd' : GdOK lO l g') (K : ∀ a', St n m' w0 ((t, .v (.pointer (some ⟨g, o', none⟩))) :: l) H a' w → Cls m w0 ((t, .v (.pointer (some ⟨g, o', none⟩))) :: lq) HS → wpH P lO.toArray (NoPanic Q) (WP_ m w0 HS) r' a' w) : wpH P lO.toArray (NoPanic Q) (WP_ m w0 HS) (.take i' r') a w :=
  h_of S C hw_ hle hsub hi' hgd' ht rfl rfl (fun w S _ h => s_fieldAddr (ops := #[]) (rest := []) (ty := ty) (ps := ps) (af := af) (P := P) S (e := e) (x := x) (f := f) (g := g) (o := o) (off := off) (o' := o') (z := z) (ft := ft) (b := b) (hx := hx) (hF := hF) (hT := hT) (hz := hz) (ho := ho) (ht := ht) h) K
theorem h_iaddrO {α : Type} (S : St n m' w0 l H a w) (C : Cls m w0 lq HS) (hw_ : WP_ m w0 HS w) (hle : LeM m m') (hsub : subF l lq) {e et ee : TypeId} {x y : Operand} {A : Option Addr} {k cap : Nat} {ty' : Ty α} {xs : List α} {kk : IntKind} {i : Int} {b : Bool} {T : List Res} (hx : evo lq x = some (.v (.slice A k cap))) (hf : Foc HS (Res.row ty' ee A k cap xs) (Res.row ty' ee A k cap xs) T) (hy : evo lq y = some (.v (.int kk i))) (hu : P.underlying e = some (.slice et)) (hT : tyI P et = some (b, ty'.size)) (h0 : 0 ≤ i) (h1 : i < xs.length) (ht : Nat.blt t n = true) (hi' : lO[i']? = some ⟨some t, .indexAddr e x y, ty, ps, af, g'⟩) (hgd' : GdOK lO l g') (K : ∀ g a', A = some ⟨g, 0, none⟩ → St n m' w0 ((t, .v (.pointer (some ⟨g, i.toNat * ty'.size, none⟩))) :: l) H a' w → Cls m w0 ((t, .v (.pointer (some ⟨g, i.toNat * ty'.size, none⟩))) :: lq) HS → wpH P lO.toArray (NoPanic Q) (WP_ m w0 HS) r' a' w) : wpH P lO.toArray (NoPanic Q) (WP_ m w0 HS) (.take i' r') a w := by
  have hr := hw_.holds _ hf.mem
  have hk : xs.length = k := hr.1
  obtain ⟨g, cur, cs, hA, _⟩ := Res.row.at_ hr (by omega)
  exact h_iaddrO0 S C hw_ hle hsub hA hx hf hy hu hT h0 h1 ht hi' hgd' (fun a' => K g a' hA)
end
end GW
