import Derived.Test.YtjgdpkmbnooemaaDoorGWIfc
set_option linter.unusedVariables false
set_option linter.unusedSimpArgs false
namespace GW
open Go Go.RowKit
def Res.priv (Z : Mem) : Res where
  blk := fun k => ∃ p v, Z p = some v ∧ p.block = k
  holds m w := ∀ p v, Z p = some v → p.spot = none ∧ ∃ cur t, w.heap[p.block]? = some (.cells cur t (0, 0)) ∧ cur[p.off]? = some v
  frame m w w' h hh := fun p v hv => by
    obtain ⟨h1, cur, t, h2, h3⟩ := hh p v hv
    exact ⟨h1, cur, t, (h _ ⟨p, v, hv, rfl⟩).trans h2, h3⟩
  mono m m' w h hh := hh
  lt m w hh k hk := by
    obtain ⟨p, v, hv, rfl⟩ := hk
    obtain ⟨_, cur, t, h2, _⟩ := hh p v hv
    exact (Array.getElem?_eq_some_iff.1 h2).1
theorem Res.priv.cell {Z m : Mem} {w : World} (h : (Res.priv Z).holds m w) {p : Addr} {v : Value} (hv : Z p = some v) : cellM w p = some v := by
  obtain ⟨h1, cur, t, h2, h3⟩ := h p v hv
  refine cellM_of ?_
  obtain ⟨b, o, sp⟩ := p
  obtain rfl : sp = none := h1
  rw [cell_of_row w _ _ cur t (0, 0) h2]
  exact h3
section
variable {P : Program} {n : Nat} {m : Mem} {w0 : Base} {l : List (Nat × D)} {H : List Res} {a : Act} {w : World}
variable {ops : Array Oper} {Q : Exit → Act → World → Prop} {rest : List Oper} {ty : TypeId} {ps : String} {af : Array Edge} {t : Nat}
def flatHo : List Res → Prop
  | [] => True
  | r :: l => (∀ (m m' : Mem) (w : World), r.holds m w → r.holds m' w) ∧ flatHo l
theorem flatHo.mem : ∀ {l : List Res}, flatHo l → ∀ r ∈ l, ∀ (m m' : Mem) (w : World), r.holds m w → r.holds m' w
  | [], _, r, hr => by cases hr
  | x :: l, h, r, hr => by
    rcases List.mem_cons.1 hr with rfl | hr
    · exact h.1
    · exact flatHo.mem h.2 r hr
end
end GW
