import Derived.Test.YtjgdpkmbnooemaaDoorGWMown
set_option linter.unusedVariables false
set_option linter.unusedSimpArgs false
set_option linter.unusedSectionVars false
namespace GW
open Go Go.RowKit
def IfR (s : List Seg) : Mem → Prop := fun m => okS m s
theorem IfR.mono (s : List Seg) : Mono (IfR s) := fun _ _ hm h => okS_mono hm h
section
variable {P : Program} {n : Nat} {m : Mem} {w0 : Base} {l : List (Nat × D)} {H : List Res} {a : Act} {w : World}
variable {ops : Array Oper} {Q : Exit → Act → World → Prop} {rest : List Oper} {ty : TypeId} {ps : String} {af : Array Edge} {t : Nat}
def noIfc (P : Program) (t : TypeId) : Bool := match P.underlying t with
 | some (.interface _) => false
 | some _ => true
 | none => false
theorem run_mkI {xt : TypeId} (h : noIfc P xt = true) (v : Value) (w : World) : (Instr.makeInterface xt v).run P w = .ok (.iface xt v) w := by
 unfold noIfc at h
 unfold Instr.makeInterface
 split at h
 ·cases h
 ·rename_i d hn hu
  simp only [Sem.run_bind, run_underlying hu, Result.andThen_ok]
  rfl
 ·cases h
theorem s_mkI (S : St n m w0 l H a w) {xt : TypeId} {x : Operand} {d : D} {s : List Seg} {v : Value} (hx : evo l x = some d) (hs : d.segs = s) (hv : d.val = v) (hu : noIfc P xt = true) (ht : Nat.blt t n = true)
  (K : ∀ a', St n m w0 ((t, .rf (.iface xt v) (IfR s)) :: l) H a' w → wpList P ops Q rest a' w) : wpList P ops Q (⟨some t, .makeInterface xt x, ty, ps, af, none⟩ :: rest) a w := by
 have hok := evo_ok S hx
 refine s_run (dv := .rf (.iface xt v) (IfR s)) S ht ⟨rfl, hs ▸ D.ok_segs hok, IfR.mono s⟩ ?_ K
 have hx' : a.eval x = v := (S.evo hx).trans hv
 simp only [execOp, hx', Sem.run_bind, run_mkI hu, Result.andThen_ok, Sem.run_pure]
 rfl
end
end GW
