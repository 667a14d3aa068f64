import Derived.Test.YtjgdpkmbnooemaaDoorGWZed
set_option linter.unusedVariables false
set_option linter.unusedSimpArgs false
namespace GW
open Go Go.RowKit
def SubT {α : Type} (T T' : Ty α) : Prop := T.size = T'.size ∧ ∀ (m : Mem) x c, okS m (T.segs x c) → ∃ c', okS m (T'.segs x c') ∧ cellsOf (T'.segs x c') = cellsOf (T.segs x c)
theorem SubT.refl {α : Type} (T : Ty α) : SubT T T := ⟨rfl, fun m x c h => ⟨c, h, rfl⟩⟩
theorem subT_prod {α β : Type} {a a' : Ty α} {b b' : Ty β} (ha : SubT a a') (hb : SubT b b') : SubT (Ty.prod a b) (Ty.prod a' b') := ⟨by show a.size + b.size = a'.size + b'.size; rw [ha.1, hb.1], fun m x c h => by
 have h' : okS m (a.segs x.1 c.1 ++ b.segs x.2 c.2) := h
 rw [okS_append] at h'
 obtain ⟨c1, h1, e1⟩ := ha.2 m x.1 c.1 h'.1
 obtain ⟨c2, h2, e2⟩ := hb.2 m x.2 c.2 h'.2
 refine ⟨(c1, c2), ?_, ?_⟩
 ·show okS m (a'.segs x.1 c1 ++ b'.segs x.2 c2)
  rw [okS_append]; exact ⟨h1, h2⟩
 ·show cellsOf (a'.segs x.1 c1 ++ b'.segs x.2 c2) = cellsOf (a.segs x.1 c.1 ++ b.segs x.2 c.2)
  rw [cellsOf_append, cellsOf_append, e1, e2]⟩
section
variable {P : Program} {n : Nat} {m : Mem} {w0 : Base} {l : List (Nat × D)} {H : List Res} {a : Act} {w : World}
theorem Foc.split {A B : List Res} {r r' : Res} (h : Foc A r r' B) (hp : A.Pairwise (fun r s => ∀ k, r.blk k → ¬ s.blk k)) {s : Res} (hs : ∀ k, s.blk k → r.blk k) (hd : ∀ k, s.blk k → ¬ r'.blk k) : ∀ x ∈ B, ∀ k, s.blk k → ¬ x.blk k := by
 induction h with
 | @here T r r' =>
  have hp' := List.pairwise_cons.1 hp
  intro x hx k hk
  rcases List.mem_cons.1 hx with rfl | hx
  ·exact hd k hk
  ·exact hp'.1 x hx k (hs k hk)
 | @there y T T' r r' hf ih =>
  have hp' := List.pairwise_cons.1 hp
  intro x hx k hk
  rcases List.mem_cons.1 hx with rfl | hx
  ·exact fun h => hp'.1 r hf.mem k h (hs k hk)
  ·exact ih hp'.2 hs hd x hx k hk
def Res.struct {α : Type} (T : Ty α) (te : TypeId) (g : Nat) (e : α) : Res where
 blk := fun k => some g = some k
 holds m w := ∃ c, okS m (T.segs e c) ∧ w.heap[g]? = some (.cells (cellsOf (T.segs e c)).toArray te (0, 0))
 frame m w w' hf hh := by
  obtain ⟨c, h1, h2⟩ := hh
  exact ⟨c, h1, (hf g rfl).trans h2⟩
 mono m m' w hm hh := by
  obtain ⟨c, h1, h2⟩ := hh
  exact ⟨c, okS_mono hm h1, h2⟩
 lt m w hh k hk := by
  obtain rfl : g = k := Option.some.inj hk
  obtain ⟨c, h1, h2⟩ := hh
  exact (Array.getElem?_eq_some_iff.1 h2).1
variable {ops : Array Oper} {Q : Exit → Act → World → Prop} {rest : List Oper} {ty : TypeId} {ps : String} {af : Array Edge} {t : Nat}
end
end GW
