import Derived.Test.YtdajnflppnlhiaaGreatGWRQui
set_option linter.unusedVariables false
set_option linter.unusedSimpArgs false
namespace GW
open Go Go.RowKit
def Res.rowx {α : Type} (ty : Ty α) (e : TypeId) (A : Option Addr) (n cap : Nat) (xs : List α) (cs : List ty.Ch) : Res where
  blk := fun k => A.map (·.block) = some k
  holds m w := xs.length = n ∧ cs.length = xs.length ∧ okS m (segsL ty xs cs) ∧ w.ownsRow 0 e ty.size (.slice A n cap) n (cellsOf (segsL ty xs cs))
  frame m w w' h hh := by
    obtain ⟨h0, h1, h2, h3, h4⟩ := hh
    refine ⟨h0, h1, h2, h3, ?_⟩
    rcases h4 with h4 | ⟨g, cp, cur, e1, e2, e3, e4⟩
    · exact .inl h4
    · obtain ⟨rfl, -, rfl⟩ := Value.slice.inj e1
      exact .inr ⟨g, _, cur, rfl, e2, (h g rfl).trans e3, e4⟩
  mono m m' w h hh := by
    obtain ⟨h0, h1, h2, h3⟩ := hh
    exact ⟨h0, h1, okS_mono h h2, h3⟩
  lt m w hh k hk := by
    obtain ⟨h0, h1, h2, h3, h4⟩ := hh
    rcases h4 with ⟨e1, _⟩ | ⟨g, cp, cur, e1, e2, e3, e4⟩
    · obtain ⟨rfl, rfl, rfl⟩ := Value.slice.inj e1
      cases hk
    · obtain ⟨rfl, -, -⟩ := Value.slice.inj e1
      obtain rfl : g = k := Option.some.inj hk
      exact (Array.getElem?_eq_some_iff.1 e3).1
theorem Res.rowx.row {α : Type} {ty : Ty α} {e : TypeId} {A : Option Addr} {n cap : Nat} {xs : List α} {cs : List ty.Ch} {m : Mem} {w : World} (h : (Res.rowx ty e A n cap xs cs).holds m w) : (Res.row ty e A n cap xs).holds m w := ⟨h.1, cs, h.2⟩
theorem Res.stay_rowx {α : Type} {ty : Ty α} {e : TypeId} {A : Option Addr} {n cap : Nat} {xs : List α} {cs : List ty.Ch} : (Res.rowx ty e A n cap xs cs).Stay := fun m m' w w' h h' => ⟨h.1, h.2.1, h.2.2.1, h'.2.2.2⟩
section
variable {P : Program} {n : Nat} {m m' : Mem} {w0 : Base} {l lq : List (Nat × D)} {H HS : List Res} {a : Act} {w : World} {lO : List Oper} {i' : Nat} {r' : Sch} {g' : Option (Nat × Bool)}
variable {ops : Array Oper} {Q : Exit → Act → World → Prop} {rest : List Oper} {ty : TypeId} {ps : String} {af : Array Edge} {t : Nat}
theorem St.rowx {α : Type} (S : St n m w0 l H a w) {ty' : Ty α} {e : TypeId} {A : Option Addr} {k cap : Nat} {xs : List α} {H' : List ty'.Ch → List Res} (hf : ∀ cs, Foc H (Res.row ty' e A k cap xs) (Res.rowx ty' e A k cap xs cs) (H' cs)) : ∃ cs : List ty'.Ch, St n m w0 l (H' cs) a w := by
  obtain ⟨h0, cs, h1⟩ := S.holds _ (hf []).mem
  exact ⟨cs, S.same (hf cs) ⟨h0, h1⟩ (fun k hk => .inl hk)⟩
theorem St.rowu {α : Type} (S : St n m w0 l H a w) {ty' : Ty α} {e : TypeId} {A : Option Addr} {k cap : Nat} {xs : List α} {cs : List ty'.Ch} {H' : List Res} (hf : Foc H (Res.rowx ty' e A k cap xs cs) (Res.row ty' e A k cap xs) H') : St n m w0 l H' a w :=
  S.same hf (Res.rowx.row (S.holds _ hf.mem)) (fun k hk => .inl hk)
end
end GW
