import Derived.Test.YtjgdpkmbnooemaaDoorGWRow2
import Derived.Laws.Externs
import Derived.Laws.IdiomStrings
import Derived.Lib.Bytealg
set_option linter.unusedVariables false
set_option linter.unusedSimpArgs false
namespace GW
open Go Go.RowKit
theorem cut_end {α : Type} {xs : List α} {i : Nat} {j : Int} (hj : j = (xs.length : Int) := by rfl) : (xs.take j.toNat).drop i = xs.drop i := by subst hj; simp
theorem cut_pre {α : Type} {xs ys : List α} (h : xs = ys) : xs.drop (Int.toNat 0) = ys := by subst h; simp
theorem at_fst {α β : Type} {ta : Ty α} {tb : Ty β} {p : Addr} {x : α × β} {m : Mem} (h : At (Ty.prod ta tb) p x m) : At ta p x.1 m := by
 obtain ⟨c, h1, h2⟩ := h
 have h1' : okS m (ta.segs x.1 c.1 ++ tb.segs x.2 c.2) := h1
 refine ⟨c.1, (okS_append.1 h1').1, fun j v hv => h2 j v ?_⟩
 show (cellsOf (ta.segs x.1 c.1 ++ tb.segs x.2 c.2))[j]? = some v
 rw [cellsOf_append, List.getElem?_append_left (List.getElem?_eq_some_iff.1 hv).1]
 exact hv
theorem at_snd {α β : Type} {ta : Ty α} {tb : Ty β} {p : Addr} {o : Nat} {x : α × β} {m : Mem} (h : At (Ty.prod ta tb) (p.add o) x m) : At tb (p.add (o + ta.size)) x.2 m := by
 obtain ⟨c, h1, h2⟩ := h
 have h1' : okS m (ta.segs x.1 c.1 ++ tb.segs x.2 c.2) := h1
 have hl : (cellsOf (ta.segs x.1 c.1)).length = ta.size := by rw [len_cellsOf (okS_append.1 h1').1, ta.len]
 refine ⟨c.2, (okS_append.1 h1').2, fun j v hv => ?_⟩
 rw [add_add_, Nat.add_assoc, ← add_add_]
 refine h2 (ta.size + j) v ?_
 show (cellsOf (ta.segs x.1 c.1 ++ tb.segs x.2 c.2))[ta.size + j]? = some v
 rw [cellsOf_append, List.getElem?_append_right (by omega), hl, Nat.add_sub_cancel_left]
 exact hv
theorem at_0 {α : Type} {ta : Ty α} {p : Addr} {x : α} {m : Mem} (h : At ta p x m) : At ta (p.add 0) x m := by
 have : p.add 0 = p := by simp [Addr.add]
 rw [this]; exact h
section
variable {P : Program} {n : Nat} {m : Mem} {w0 : Base} {l : List (Nat × D)} {H : List Res} {a : Act} {w : World}
variable {ops : Array Oper} {Q : Exit → Act → World → Prop} {rest : List Oper} {ty : TypeId} {ps : String} {af : Array Edge} {t : Nat}
theorem s_faddrP {α : Type} (S : St n m w0 l H a w) {e : TypeId} {x : Operand} {p : Addr} {R : Mem → Prop} {f off z : Nat} {ft : TypeId} {b : Bool} {tF : Ty α} {y : α} (hx : evo l x = some (.pt p R)) (hF : fieldI P e f = some (off, ft)) (hT : tyI P ft = some (b, z)) (hz : z ≠ 0) (hat : ∀ m, R m → At tF (p.add off) y m) (ht : Nat.blt t n = true)
  (K : ∀ a', St n m w0 ((t, .pt (p.add off) (At tF (p.add off) y)) :: l) H a' w → wpList P ops Q rest a' w) : wpList P ops Q (⟨some t, .fieldAddr e x f, ty, ps, af, none⟩ :: rest) a w := by
 obtain ⟨hR, _⟩ := evo_ok S hx
 refine s_run (dv := .pt (p.add off) (At tF (p.add off) y)) S ht ⟨hat m hR, At.mono _ _ _⟩ ?_ K
 have hx' : a.eval x = .pointer (some p) := S.evo hx
 unfold fieldI at hF
 split at hF
 ·rename_i fs hu
  obtain ⟨fd, hfd, he⟩ := Option.map_eq_some_iff.1 hF
  simp only [Prod.mk.injEq] at he
  obtain ⟨rfl, rfl⟩ := he
  simp only [execOp, hx']
  simp [Instr.fieldAt, run_underlying hu, hfd, Instr.sureAddr, fieldPlace, run_sizeI hT, hz, D.val]
 ·cases hF
def sbytes (s : ByteArray) : List Int := s.data.toList.map (fun b => (b.toNat : Int))
theorem s_bytesT (S : St n m w0 l H a w) {src dst e : TypeId} {x : Operand} {s : ByteArray} (hx : evo l x = some (.v (.string s))) (hs : P.underlying src = some .string) (hd : P.underlying dst = some (.slice e)) (he : P.underlying e = some (.int .u8)) (hl : s.size ≤ maxLen) (ht : Nat.blt t n = true)
  (K : ∀ A cap m' (_ : LeM m m') a' w', St n m' w0 ((t, .sl A (sbytes s).length cap (RdS (Ty.int .u8) A (sbytes s))) :: l) H a' w' → wpList P ops Q rest a' w') : wpList P ops Q (⟨some t, .convert src dst x, ty, ps, af, none⟩ :: rest) a w := by
 have hx' : a.eval x = .string s := S.evo hx
 have hr := run_bytes_of_string (P := P) w src dst e s hs hd he
 generalize hcap : grownCap w s.size 0 e = cap at hr
 have hge : s.size ≤ cap := by rw [← hcap]; exact grownCap_ge w s.size 0 e
 have hle : cap ≤ maxLen := by rw [← hcap]; exact grownCap_le_maxLen w s.size 0 e hl
 generalize hcs : bytesRow s cap = cs at hr
 generalize hw' : w.drew.alloc (.cells cs e (cs.size, cs.size + 1)) = w' at hr
 have hnew : w'.heap[w.heap.size]? = some (.cells cs e (cs.size, cs.size + 1)) := by rw [← hw']; exact heap_alloc_new w.drew _
 have hb : Below w.heap.size w w' := by
  rw [← hw']
  exact ⟨rfl, rfl, rfl, by simp, fun k hk => Go.heap_alloc_old w.drew _ (by simpa using hk)⟩
 let m' : Mem := fun p => if p.block = w.heap.size ∧ p.spot = none then cs[p.off]? else m p
 have hlem : LeM m m' := fun p v hv => by
  have h1 := cellM_lt (S.frz p v hv)
  have : p.block ≠ w.heap.size := by omega
  simp only [m', this, false_and, if_false]
  exact hv
 have hfrz : Frz m' w' := fun p v hv => by
  by_cases hp : p.block = w.heap.size ∧ p.spot = none
  ·simp only [m', hp, and_self, if_true] at hv
   obtain ⟨b, o, sp⟩ := p
   obtain ⟨rfl, rfl⟩ := hp
   refine cellM_of ?_
   rw [cell_of_row w' _ _ cs e _ hnew]
   exact hv
  ·simp only [m', hp, if_false] at hv
   exact below_cellM hb (S.frz p v hv)
 have hsl : (sbytes s).length = s.size := by simp [sbytes]
 have S' := S.after hb hlem hfrz (fun p v hv => by
  by_cases hp : p.block = w.heap.size ∧ p.spot = none
  ·exact .inr (by rw [hp.1]; exact Nat.le_refl _)
  ·simp only [m', hp, if_false] at hv
   exact .inl ⟨v, hv⟩)
 have hok : (D.sl (some ⟨w.heap.size, 0, none⟩) (sbytes s).length cap (RdS (Ty.int .u8) (some ⟨w.heap.size, 0, none⟩) (sbytes s))).ok m' := by
  refine ⟨by omega, hle, fun i hi => ?_, RdS.mono _ _ _⟩
  refine ⟨⟨w.heap.size, 0, none⟩, (), rfl, ⟨rfl, trivial⟩, fun j v hv => ?_⟩
  have hj : j = 0 := by
   rcases Nat.eq_zero_or_pos j with h | h
   ·exact h
   ·have : (cellsOf ((Ty.int .u8).segs (sbytes s)[i] ()))[j]? = none := List.getElem?_eq_none (by simp [Ty.int, cellsOf, Seg.cells]; omega)
    rw [this] at hv; cases hv
  subst hj
  have hv' : v = .int .u8 (sbytes s)[i] := by simpa [Ty.int, cellsOf, Seg.cells] using hv.symm
  have ha : (⟨w.heap.size, 0, none⟩ : Addr).add (i * (Ty.int .u8).size + 0) = ⟨w.heap.size, i, none⟩ := by
   have h1 : i * (Ty.int .u8).size + 0 = i := by simp [Ty.int]
   rw [h1]; unfold Addr.add; split <;> simp_all
  rw [ha, hv']
  simp only [m', and_self, if_true]
  have hi' : i < s.data.size := by
   have h0 : i < s.size := by omega
   exact h0
  rw [← hcs, bytesRow_at s cap i hi']
  simp [sbytes]
 refine s_runw (dv := .sl (some ⟨w.heap.size, 0, none⟩) (sbytes s).length cap (RdS (Ty.int .u8) (some ⟨w.heap.size, 0, none⟩) (sbytes s))) (w' := w') S ht hok ?_ S' (K _ _ _ hlem · w')
 simp only [execOp, hx', Sem.run_bind, hr, Result.andThen_ok, Sem.run_pure, D.val, hsl]
end
end GW
