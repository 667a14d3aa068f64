import Derived.Test.YtdajnflppnlhiaaGWRow2
import Derived.Laws.Externs
import Derived.Laws.IdiomStrings
import Derived.Lib.Bytealg
set_option linter.unusedVariables false
set_option linter.unusedSimpArgs false
namespace GW
open Go Go.RowKit
theorem at_fst {α β:Type}{ta:Ty α}{tb:Ty β}{p:Addr}{x:α×β}{m:Mem}(h:At (Ty.prod ta tb) p x m):At ta p x.1 m:=by
 obtain ⟨c,h1,h2⟩:=h
 have h1':okS m (ta.segs x.1 c.1++tb.segs x.2 c.2):=h1
 refine ⟨c.1,(okS_append.1 h1').1,fun j v hv=>h2 j v ?_⟩
 show (cellsOf (ta.segs x.1 c.1++tb.segs x.2 c.2))[j]?=some v
 rw [cellsOf_append,List.getElem?_append_left (List.getElem?_eq_some_iff.1 hv).1]
 exact hv
theorem at_snd {α β:Type}{ta:Ty α}{tb:Ty β}{p:Addr}{o:Nat}{x:α×β}{m:Mem}(h:At (Ty.prod ta tb) (p.add o) x m):At tb (p.add (o+ta.size)) x.2 m:=by
 obtain ⟨c,h1,h2⟩:=h
 have h1':okS m (ta.segs x.1 c.1++tb.segs x.2 c.2):=h1
 have hl:(cellsOf (ta.segs x.1 c.1)).length=ta.size:=by rw [len_cellsOf (okS_append.1 h1').1,ta.len]
 refine ⟨c.2,(okS_append.1 h1').2,fun j v hv=>?_⟩
 rw [add_add_,Nat.add_assoc, ← add_add_]
 refine h2 (ta.size+j) v ?_
 show (cellsOf (ta.segs x.1 c.1++tb.segs x.2 c.2))[ta.size+j]?=some v
 rw [cellsOf_append,List.getElem?_append_right (by omega),hl,Nat.add_sub_cancel_left]
 exact hv
theorem at_0 {α:Type}{ta:Ty α}{p:Addr}{x:α}{m:Mem}(h:At ta p x m):At ta (p.add 0) x m:=by
 have:p.add 0=p:=by simp [Addr.add]
 rw [this]; exact h
section
variable {P:Program} {n:Nat} {m:Mem} {w0:Base} {l:List (Nat×D)} {H:List Res} {a:Act} {w:World}
variable {ops:Array Oper} {Q:Exit→Act→World→Prop} {rest:List Oper} {ty:TypeId} {ps:String} {af:Array Edge} {t:Nat}
theorem s_faddrP {α:Type}(S:St n m w0 l H a w){e:TypeId}{x:Operand}{p:Addr}{R:Mem→Prop}{f off z:Nat}{ft:TypeId}{b:Bool}{tF:Ty α}{y:α}(hx:evo l x=some (.pt p R))(hF:fieldI P e f=some (off,ft))(hT:tyI P ft=some (b,z))(hz:z≠0)(hat:∀ m,R m→At tF (p.add off) y m)(ht:Nat.blt t n=true)
  (K:∀ a',St n m w0 ((t, .pt (p.add off) (At tF (p.add off) y))::l) H a' w→wpList P ops Q rest a' w):wpList P ops Q (⟨some t, .fieldAddr e x f,ty,ps,af,none⟩::rest) a w:=by
 obtain ⟨hR,_⟩:=evo_ok S hx
 refine s_run (dv:= .pt (p.add off) (At tF (p.add off) y)) S ht ⟨hat m hR,At.mono _ _ _⟩ ?_ K
 have hx':a.eval x = .pointer (some p):=S.evo hx
 unfold fieldI at hF
 split at hF
 ·rename_i fs hu
  obtain ⟨fd,hfd,he⟩:=Option.map_eq_some_iff.1 hF
  simp only [Prod.mk.injEq] at he
  obtain ⟨rfl,rfl⟩:=he
  simp only [execOp,hx']
  simp [Instr.fieldAt,run_underlying hu,hfd,Instr.sureAddr,fieldPlace,run_sizeI hT,hz,D.val]
 ·cases hF
def u8s (xs:List Int):List UInt8:=xs.map (fun n=>UInt8.ofNat n.toNat)
theorem run_loadBytes:∀ (xs:List Int) (ad:Addr) (acc:ByteArray),(∀ j (h:j<xs.length),w.cell? (ad.add j)=some (.int .u8 xs[j]))→(Extern.Bytes.loadBytes ad xs.length acc).run P w = .ok (xs.foldl (fun r n=>r.push (UInt8.ofNat n.toNat)) acc) w
 | [],ad,acc,_=>rfl
 | x::xs,ad,acc,h=>by
  have h0:=h 0 (by simp)
  have e0:ad.add 0=ad:=by simp [Addr.add]
  rw [e0] at h0
  simp only [List.length_cons,Extern.Bytes.loadBytes,Sem.run_bind,run_load,h0,Result.andThen_ok,List.getElem_cons_zero]
  have ih:=run_loadBytes xs (ad.add 1) (acc.push x.toNat.toUInt8) (fun j hj=>by
   rw [add_add_,Nat.add_comm]
   exact h (j+1) (by simpa using hj))
  rw [ih]
  rfl
theorem run_bytesOf {A:Option Addr}{xs:List Int}{cap:Nat}(hR:RdS (Ty.int .u8) A xs m)(hf:Frz m w):(Extern.Bytes.bytesOf (.slice A xs.length cap)).run P w = .ok (bstr xs) w:=by
 cases A with
 | none =>
  have:xs=[]:=by
   cases xs with
   | nil=>rfl
   | cons y ys=>obtain ⟨ad,c,h1,_⟩:=hR 0 (by simp); cases h1
  subst this
  rfl
 | some ad =>
  refine run_loadBytes xs ad .empty (fun j hj=>?_)
  obtain ⟨ad',c,e1,e2,e3⟩:=hR j hj
  obtain rfl:=sI e1
  have h1:=hf.cell (e3 0 _ rfl) rfl
  simpa [Ty.int] using h1
def isCmp (P:Program)(f:FuncId):Prop:=∃ fn,P.funcs[f]?=some fn∧(fn.name == "runtime.NumGoroutine")=false∧fn.body.isNone=true∧Extern.findNext fn=none∧Extern.find fn=some Extern.BytealgCompare.compare
theorem s_extCmp (S:St n m w0 l H a w){f:FuncId}{x y:Operand}{ts:Array TypeId}{A B:Option Addr}{c c':Nat}{xs ys:List Int}(hf:isCmp P f)(hx:evo l x=some (.sl A xs.length c (RdS (Ty.int .u8) A xs)))(hy:evo l y=some (.sl B ys.length c' (RdS (Ty.int .u8) B ys)))(ht:Nat.blt t n=true)
  (K:∀ a',St n m w0 ((t, .v (.int .i64 (Lib.compareBytes (u8s xs) (u8s ys))))::l) H a' w→wpList P ops Q rest a' w):wpList P ops Q (⟨some t, .call ⟨.value (.func f), #[x,y],ts⟩,ty,ps,af,none⟩::rest) a w:=by
 obtain ⟨fn,h1,h2,h3,h4,h5⟩:=hf
 obtain ⟨_,_,hRx,_⟩:=evo_ok S hx
 obtain ⟨_,_,hRy,_⟩:=evo_ok S hy
 have hx':a.eval x = .slice A xs.length c:=S.evo hx
 have hy':a.eval y = .slice B ys.length c':=S.evo hy
 have hfe:a.eval (.func f) = .func (.func f) #[] #[]:=rfl
 refine s_run (dv:= .v (.int .i64 (Lib.compareBytes (u8s xs) (u8s ys)))) S ht rfl ?_ K
 simp only [execOp,resolve,Deferred.ofValue,hfe]
 simp only [invoke,List.map_toArray,List.map_cons,List.map_nil,hx',hy',Sem.run_bind,Sem.run_pure,Result.andThen_ok,Array.append_empty,Array.empty_append,List.append_toArray,List.nil_append]
 rw [run_callFunc_extern h1 h2 h3 h4 h5]
 have hc:∀ u v:Value,Extern.BytealgCompare.compare #[u,v]=(do pure (goInt (Extern.BytealgCompare.cmp (← Extern.Bytes.bytesOf u) (← Extern.Bytes.bytesOf v))):Sem Value):=fun _ _=>rfl
 simp only [hc,Sem.run_bind,run_bytesOf hRx S.frz,run_bytesOf hRy S.frz,Result.andThen_ok,Sem.run_pure,D.val,goInt,Lib.cmp_eq,bstr_data,u8s]
end
end GW
