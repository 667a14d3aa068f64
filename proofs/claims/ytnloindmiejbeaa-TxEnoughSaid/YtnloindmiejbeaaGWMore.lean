import Derived.Test.YtnloindmiejbeaaGWRow2
import Derived.Laws.Externs
import Derived.Laws.IdiomStrings
import Derived.Lib.Bytealg
set_option linter.unusedVariables false
set_option linter.unusedSimpArgs false
namespace GW
open Go Go.RowKit
theorem at_fst {α β : Type} {ta : Ty α} {tb : Ty β} {p : Addr} {x : α × β} {m : Mem} (h : At (Ty.prod ta tb) p x m) : At ta p x.1 m := by
  obtain ⟨c, h1, h2⟩ := h
  have h1' : okS m (ta.segs x.1 c.1 ++ tb.segs x.2 c.2) := h1
  refine ⟨c.1, (okS_append.1 h1').1, fun j v hv => h2 j v ?_⟩
  show (cellsOf (ta.segs x.1 c.1 ++ tb.segs x.2 c.2))[j]? = some v
  rw [cellsOf_append, List.getElem?_append_left (List.getElem?_eq_some_iff.1 hv).1]
  exact hv
theorem at_snd {α β : Type} {ta : Ty α} {tb : Ty β} {p : Addr} {o : Nat} {x : α × β} {m : Mem} (h : At (Ty.prod ta tb) (p.add o) x m) : At tb (p.add (o + ta.size)) x.2 m := by
  obtain ⟨c, h1, h2⟩ := h
  have h1' : okS m (ta.segs x.1 c.1 ++ tb.segs x.2 c.2) := h1
  have hl : (cellsOf (ta.segs x.1 c.1)).length = ta.size := by rw [len_cellsOf (okS_append.1 h1').1, ta.len]
  refine ⟨c.2, (okS_append.1 h1').2, fun j v hv => ?_⟩
  rw [add_add_, Nat.add_assoc, ← add_add_]
  refine h2 (ta.size + j) v ?_
  show (cellsOf (ta.segs x.1 c.1 ++ tb.segs x.2 c.2))[ta.size + j]? = some v
  rw [cellsOf_append, List.getElem?_append_right (by omega), hl, Nat.add_sub_cancel_left]
  exact hv
theorem at_0 {α : Type} {ta : Ty α} {p : Addr} {x : α} {m : Mem} (h : At ta p x m) : At ta (p.add 0) x m := by
  have : p.add 0 = p := by simp [Addr.add]
  rw [this]; exact h
section
variable {P : Program} {n : Nat} {m : Mem} {w0 : Base} {l : List (Nat × D)} {H : List Res} {a : Act} {w : World}
variable {ops : Array Oper} {Q : Exit → Act → World → Prop} {rest : List Oper} {ty : TypeId} {ps : String} {af : Array Edge} {t : Nat}
theorem s_faddrP {α : Type} (S : St n m w0 l H a w) {e : TypeId} {x : Operand} {p : Addr} {R : Mem → Prop} {f off z : Nat} {ft : TypeId} {b : Bool} {tF : Ty α} {y : α} (hx : evo l x = some (.pt p R)) (hF : fieldI P e f = some (off, ft)) (hT : tyI P ft = some (b, z)) (hz : z ≠ 0) (hat : ∀ m, R m → At tF (p.add off) y m) (ht : Nat.blt t n = true)
    (K : ∀ a', St n m w0 ((t, .pt (p.add off) (At tF (p.add off) y)) :: l) H a' w → wpList P ops Q rest a' w) : wpList P ops Q (⟨some t, .fieldAddr e x f, ty, ps, af, none⟩ :: rest) a w := by
  obtain ⟨hR, _⟩ := evo_ok S hx
  refine s_run (dv := .pt (p.add off) (At tF (p.add off) y)) S ht ⟨hat m hR, At.mono _ _ _⟩ ?_ K
  have hx' : a.eval x = .pointer (some p) := S.evo hx
  unfold fieldI at hF
  split at hF
  · rename_i fs hu
    obtain ⟨fd, hfd, he⟩ := Option.map_eq_some_iff.1 hF
    simp only [Prod.mk.injEq] at he
    obtain ⟨rfl, rfl⟩ := he
    simp only [execOp, hx']
    simp [Instr.fieldAt, run_underlying hu, hfd, Instr.sureAddr, fieldPlace, run_sizeI hT, hz, D.val]
  · cases hF
def isExt (P : Program) (f : FuncId) (e : Array Value → Sem Value) : Prop := ∃ fn, P.funcs[f]? = some fn ∧ (fn.name == "runtime.NumGoroutine") = false ∧ fn.body.isNone = true ∧ Extern.findNext fn = none ∧ Extern.find fn = some e
def subEntry : Array Value → Sem Value := fun args => do
  let (x, y, b) ← Extern.MathBitsCarry.three "Sub64" args
  pure (Extern.MathBitsCarry.pair ((x + Extern.MathBitsCarry.m64 - y - b) % Extern.MathBitsCarry.m64) (if x < y + b then 1 else 0))
theorem run_subE (x y c : Int) (hx : 0 ≤ x) (hy : 0 ≤ y ∧ y < 18446744073709551616) (hc0 : 0 ≤ c) (hc : c ≤ 1) (w : World) :
    (subEntry #[.int .u64 x, .int .u64 y, .int .u64 c]).run P w =
      .ok (.tuple #[.int .u64 ((x - y - c) % 18446744073709551616), .int .u64 (if x < y + c then 1 else 0)]) w := by
  have key : ∀ k : Nat, k ≤ 1 → (subEntry #[.int .u64 x, .int .u64 y, .int .u64 (k : Int)]).run P w =
      .ok (Extern.MathBitsCarry.pair ((x.toNat + Extern.MathBitsCarry.m64 - y.toNat - k) % Extern.MathBitsCarry.m64) (if x.toNat < y.toNat + k then 1 else 0)) w := by
    intro k hk
    have : k = 0 ∨ k = 1 := by omega
    rcases this with rfl | rfl <;> rfl
  obtain ⟨k, rfl⟩ := Int.eq_ofNat_of_zero_le hc0
  rw [key k (by omega)]
  obtain ⟨X, rfl⟩ := Int.eq_ofNat_of_zero_le hx
  obtain ⟨Y, rfl⟩ := Int.eq_ofNat_of_zero_le hy.1
  have e1 : (((X + 18446744073709551616 - Y - k) % 18446744073709551616 : Nat) : Int) = ((X : Int) - (Y : Int) - (k : Int)) % 18446744073709551616 := by omega
  have e2 : (((if X < Y + k then 1 else 0) : Nat) : Int) = (if (X : Int) < (Y : Int) + (k : Int) then 1 else 0) := by
    by_cases h : X < Y + k
    · rw [if_pos h, if_pos (by omega)]; rfl
    · rw [if_neg h, if_neg (by omega)]; rfl
  show Result.ok (Value.tuple #[.int .u64 (((X + 18446744073709551616 - Y - k) % 18446744073709551616 : Nat) : Int), .int .u64 (((if X < Y + k then 1 else 0) : Nat) : Int)]) w = _
  rw [e1, e2]
theorem s_extAdd (S : St n m w0 l H a w) {f : FuncId} {x y z : Operand} {ts : Array TypeId} {p q r : Int} (hf : isExt P f add64Entry) (hx : evo l x = some (.v (.int .u64 p))) (hy : evo l y = some (.v (.int .u64 q))) (hz : evo l z = some (.v (.int .u64 r)))
    (hc : 0 ≤ p ∧ 0 ≤ q ∧ 0 ≤ r ∧ r ≤ 1) (ht : Nat.blt t n = true)
    (K : ∀ a', St n m w0 ((t, .tup [(false, [.one (.int .u64 ((p + q + r) % 18446744073709551616))]), (false, [.one (.int .u64 ((p + q + r) / 18446744073709551616))])]) :: l) H a' w → wpList P ops Q rest a' w) : wpList P ops Q (⟨some t, .call ⟨.value (.func f), #[x, y, z], ts⟩, ty, ps, af, none⟩ :: rest) a w := by
  obtain ⟨fn, h1, h2, h3, h4, h5⟩ := hf
  have hx' : a.eval x = .int .u64 p := S.evo hx
  have hy' : a.eval y = .int .u64 q := S.evo hy
  have hz' : a.eval z = .int .u64 r := S.evo hz
  have hfe : a.eval (.func f) = .func (.func f) #[] #[] := rfl
  refine s_run (dv := .tup [(false, [.one (.int .u64 ((p + q + r) % 18446744073709551616))]), (false, [.one (.int .u64 ((p + q + r) / 18446744073709551616))])]) S ht ⟨⟨rfl, trivial⟩, ⟨rfl, trivial⟩, trivial⟩ ?_ K
  simp only [execOp, resolve, Deferred.ofValue, hfe]
  simp only [invoke, List.map_toArray, List.map_cons, List.map_nil, hx', hy', hz', Sem.run_bind, Sem.run_pure, Result.andThen_ok, Array.append_empty, Array.empty_append, List.append_toArray, List.nil_append]
  rw [run_callFunc_extern h1 h2 h3 h4 h5, run_add64 p q r hc.1 hc.2.1 hc.2.2.1 hc.2.2.2]
  rfl
theorem s_extSub (S : St n m w0 l H a w) {f : FuncId} {x y z : Operand} {ts : Array TypeId} {p q r : Int} (hf : isExt P f subEntry) (hx : evo l x = some (.v (.int .u64 p))) (hy : evo l y = some (.v (.int .u64 q))) (hz : evo l z = some (.v (.int .u64 r)))
    (hc : 0 ≤ p ∧ (0 ≤ q ∧ q < 18446744073709551616) ∧ 0 ≤ r ∧ r ≤ 1) (ht : Nat.blt t n = true)
    (K : ∀ a', St n m w0 ((t, .tup [(false, [.one (.int .u64 ((p - q - r) % 18446744073709551616))]), (false, [.one (.int .u64 (if p < q + r then 1 else 0))])]) :: l) H a' w → wpList P ops Q rest a' w) : wpList P ops Q (⟨some t, .call ⟨.value (.func f), #[x, y, z], ts⟩, ty, ps, af, none⟩ :: rest) a w := by
  obtain ⟨fn, h1, h2, h3, h4, h5⟩ := hf
  have hx' : a.eval x = .int .u64 p := S.evo hx
  have hy' : a.eval y = .int .u64 q := S.evo hy
  have hz' : a.eval z = .int .u64 r := S.evo hz
  have hfe : a.eval (.func f) = .func (.func f) #[] #[] := rfl
  refine s_run (dv := .tup [(false, [.one (.int .u64 ((p - q - r) % 18446744073709551616))]), (false, [.one (.int .u64 (if p < q + r then 1 else 0))])]) S ht ⟨⟨rfl, trivial⟩, ⟨rfl, trivial⟩, trivial⟩ ?_ K
  simp only [execOp, resolve, Deferred.ofValue, hfe]
  simp only [invoke, List.map_toArray, List.map_cons, List.map_nil, hx', hy', hz', Sem.run_bind, Sem.run_pure, Result.andThen_ok, Array.append_empty, Array.empty_append, List.append_toArray, List.nil_append]
  rw [run_callFunc_extern h1 h2 h3 h4 h5, run_subE p q r hc.1 hc.2.1 hc.2.2.1 hc.2.2.2]
  rfl
end
end GW
