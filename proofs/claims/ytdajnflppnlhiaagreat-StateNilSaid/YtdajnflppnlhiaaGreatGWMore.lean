import Derived.Test.YtdajnflppnlhiaaGreatGWRow2
import Derived.Laws.Externs
import Derived.Laws.IdiomStrings
import Derived.Lib.Bytealg
set_option linter.unusedVariables false
set_option linter.unusedSimpArgs false
namespace GW
open Go Go.RowKit
theorem cut_pre {α : Type} {xs ys : List α} (h : xs = ys) : xs.drop (Int.toNat 0) = ys := by subst h; simp
theorem at_fst {α β : Type} {ta : Ty α} {tb : Ty β} {p : Addr} {x : α × β} {m : Mem} (h : At (Ty.prod ta tb) p x m) : At ta p x.1 m := by
  obtain ⟨c, h1, h2⟩ := h
  have h1' : okS m (ta.segs x.1 c.1 ++ tb.segs x.2 c.2) := h1
  refine ⟨c.1, (okS_append.1 h1').1, fun j v hv => h2 j v ?_⟩
  show (cellsOf (ta.segs x.1 c.1 ++ tb.segs x.2 c.2))[j]? = some v
  rw [cellsOf_append, List.getElem?_append_left (List.getElem?_eq_some_iff.1 hv).1]
  exact hv
theorem at_snd {α β : Type} {ta : Ty α} {tb : Ty β} {p : Addr} {o : Nat} {x : α × β} {m : Mem} (h : At (Ty.prod ta tb) (p.add o) x m) : At tb (p.add (o + ta.size)) x.2 m := by
  obtain ⟨c, h1, h2⟩ := h
  have h1' : okS m (ta.segs x.1 c.1 ++ tb.segs x.2 c.2) := h1
  have hl : (cellsOf (ta.segs x.1 c.1)).length = ta.size := by rw [len_cellsOf (okS_append.1 h1').1, ta.len]
  refine ⟨c.2, (okS_append.1 h1').2, fun j v hv => ?_⟩
  rw [add_add_, Nat.add_assoc, ← add_add_]
  refine h2 (ta.size + j) v ?_
  show (cellsOf (ta.segs x.1 c.1 ++ tb.segs x.2 c.2))[ta.size + j]? = some v
  rw [cellsOf_append, List.getElem?_append_right (by omega), hl, Nat.add_sub_cancel_left]
  exact hv
theorem at_0 {α : Type} {ta : Ty α} {p : Addr} {x : α} {m : Mem} (h : At ta p x m) : At ta (p.add 0) x m := by
  have : p.add 0 = p := by simp [Addr.add]
  rw [this]; exact h
section
variable {P : Program} {n : Nat} {m : Mem} {w0 : Base} {l : List (Nat × D)} {H : List Res} {a : Act} {w : World}
variable {ops : Array Oper} {Q : Exit → Act → World → Prop} {rest : List Oper} {ty : TypeId} {ps : String} {af : Array Edge} {t : Nat}
theorem s_faddrP {α : Type} (S : St n m w0 l H a w) {e : TypeId} {x : Operand} {p : Addr} {R : Mem → Prop} {f off z : Nat} {ft : TypeId} {b : Bool} {tF : Ty α} {y : α} (hx : evo l x = some (.pt p R)) (hF : fieldI P e f = some (off, ft)) (hT : tyI P ft = some (b, z)) (hz : z ≠ 0) (hat : ∀ m, R m → At tF (p.add off) y m) (ht : Nat.blt t n = true)
    (K : ∀ a', St n m w0 ((t, .pt (p.add off) (At tF (p.add off) y)) :: l) H a' w → wpList P ops Q rest a' w) : wpList P ops Q (⟨some t, .fieldAddr e x f, ty, ps, af, none⟩ :: rest) a w := by
  obtain ⟨hR, _⟩ := evo_ok S hx
  refine s_run (dv := .pt (p.add off) (At tF (p.add off) y)) S ht ⟨hat m hR, At.mono _ _ _⟩ ?_ K
  have hx' : a.eval x = .pointer (some p) := S.evo hx
  unfold fieldI at hF
  split at hF
  · rename_i fs hu
    obtain ⟨fd, hfd, he⟩ := Option.map_eq_some_iff.1 hF
    simp only [Prod.mk.injEq] at he
    obtain ⟨rfl, rfl⟩ := he
    simp only [execOp, hx']
    simp [Instr.fieldAt, run_underlying hu, hfd, Instr.sureAddr, fieldPlace, run_sizeI hT, hz, D.val]
  · cases hF
end
end GW
