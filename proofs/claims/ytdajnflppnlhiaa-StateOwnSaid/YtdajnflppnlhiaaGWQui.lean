import Derived.Test.YtdajnflppnlhiaaGWSli
import Derived.Deep.Quiet
set_option linter.unusedVariables false
set_option linter.unusedSimpArgs false
namespace GW
open Go Go.RowKit
section
variable {P:Program} {n:Nat} {m:Mem} {w0:Base} {l:List (Nat×D)} {H:List Res} {a:Act} {w:World}
variable {ops:Array Oper} {Q:Exit→Act→World→Prop} {Qa:Act→Prop} {rest:List Oper} {ty:TypeId} {ps:String} {af:Array Edge} {t:Nat}
def QSt (n:Nat)(m:Mem)(w0:Base)(l:List (Nat×D))(H:List Res)(a:Act):Prop:=(∃ w,St n m w0 l H a w)∧∀ w,WP_ m w0 H w→St n m w0 l H a w
theorem QSt.of (S:St n m w0 l H a w):QSt n m w0 l H a:=⟨⟨w,S⟩,fun _ h=>S.at_ h⟩
theorem QSt.put (QS:QSt n m w0 l H a){d:D}(ht:Nat.blt t n=true)(hd:d.ok m):QSt n m w0 ((t,d)::l) H (a.put (some t) d.val):=by
 obtain ⟨⟨w,S⟩,h⟩:=QS
 exact ⟨⟨w,S.put ht hd⟩,fun w' hw=>(h w' hw).put ht hd⟩
def quietOp:Op→Bool
 | .call c=>match c.callee with
  | .builtin .len=>true
  | .builtin .min=>true
  | .builtin .max=>true
  | _=>false
 | .go _=>false
 | .defer _=>false
 | .send _ _=>false
 | .recv _ _ _=>false
 | .select _ _=>false
 | .nilCheck _=>false
 | _=>true
def Plain_:Result Next→Prop
 | .ok (.value _) _=>True
 | .ok .skip _=>True
 | .ok _ _=>False
 | .halt _ _=>True
theorem plain_v (s:Sem Value)(w:World):Plain_ ((do pure (Next.value (← s)):Sem Next).run P w):=by
 rw [Sem.run_bind]
 cases s.run P w with
 | ok v w'=>exact tv
 | halt h w'=>exact tv
theorem plain_u (s:Sem Unit)(w:World):Plain_ ((do s; pure Next.skip:Sem Next).run P w):=by
 rw [Sem.run_bind]
 cases s.run P w with
 | ok v w'=>exact tv
 | halt h w'=>exact tv
theorem plain_p (v:Value)(w:World):Plain_ ((pure (Next.value v):Sem Next).run P w):=trivial
theorem plain_op (ρ:Operand→Value)(o:Oper)(h:quietOp o.op=true)(w:World):Plain_ ((execOp ρ o).run P w):=by
 obtain ⟨dst,op,ty,ps,af,g⟩:=o
 cases op
 case pick c x y =>
  simp only [execOp,Sem.run_bind]
  cases (asBool (ρ c)).run P w with
  | ok v w'=>exact tv
  | halt h w'=>exact tv
 case call c =>
  obtain ⟨callee,xs,ts⟩:=c
  cases callee with
  | value f=>simp [quietOp] at h
  | invoke r m=>simp [quietOp] at h
  | builtin b =>
   cases b
   case len=>exact plain_v (Builtin.len_ _ _ _) w
   case min=>exact plain_v (Builtin.min_ _ _ _) w
   case max=>exact plain_v (Builtin.max_ _ _ _) w
   all_goals simp [quietOp] at h
 all_goals first
  | exact plain_v _ w
  | exact plain_u _ w
  | exact plain_p _ w
  | simp [quietOp] at h
theorem run_of (S:St n m w0 l H a w){op:Op}{dv:D}(ht:Nat.blt t n=true)(hq:quietOp op=true)
  (h:∀ {Q:Exit→Act→World→Prop},(∀ a',St n m w0 ((t,dv)::l) H a' w→wpList P #[] Q [] a' w)→wpList P #[] Q [⟨some t,op,ty,ps,af,none⟩] a w) :
  (execOp a.eval ⟨some t,op,ty,ps,af,none⟩).run P w = .ok (.value dv.val) w∨((execOp a.eval ⟨some t,op,ty,ps,af,none⟩).run P w = .ok .skip w∧dv.val=undef):=by
 have htn:t<a.tmps.size:=by rw [S.size]; exact Nat.le_of_ble_eq_true ht
 have h1:=h (Q:=fun e a' w'=>e = .normal∧w'=w∧a'.tmps[t]?=some dv.val) (fun a' S'=>⟨rfl,rfl,(S'.get t dv (by rw [fnd_cons,iP rfl])).1⟩)
 unfold wpList at h1
 rw [iP (by simp [Region.wanted])] at h1
 rcases h1 with h1 | ⟨_,_,_,h2,_⟩
 ·have hp:=plain_op (P:=P) a.eval ⟨some t,op,ty,ps,af,none⟩ hq w
  unfold Oper.wp at h1
  generalize (execOp a.eval ⟨some t,op,ty,ps,af,none⟩).run P w=r at h1 hp
  cases r with
  | ok x w' =>
   cases x with
   | value v =>
    obtain ⟨_,rfl,h3⟩:=h1
    have h4:(a.put (some t) v).tmps[t]?=some v:=by simp [Act.put,htn]
    rw [h4] at h3
    left
    rw [sI h3]
   | skip =>
    obtain ⟨_,rfl,h3⟩:=h1
    have h4:(a.put (some t) undef).tmps[t]?=some undef:=by simp [Act.put,htn]
    rw [h4] at h3
    right
    exact ⟨rfl,(sI h3).symm⟩
   | _=>exact hp.elim
  | halt x w' =>
   cases x with
   | panic v=>obtain ⟨h2,_⟩:=h1; cases h2
   | _=>exact h1.elim
 ·cases h2
theorem ok_of (S:St n m w0 l H a w){op:Op}{dv:D}
  (h:∀ {Q:Exit→Act→World→Prop},(∀ a',St n m w0 ((t,dv)::l) H a' w→wpList P #[] Q [] a' w)→wpList P #[] Q [⟨some t,op,ty,ps,af,none⟩] a w) (hq:quietOp op=true):dv.ok m:=by
 have h1:=h (Q:=fun e a' w'=>e = .normal∧dv.ok m) (fun a' S'=>⟨rfl,(S'.get t dv (by rw [fnd_cons,iP rfl])).2⟩)
 unfold wpList at h1
 rw [iP (by simp [Region.wanted])] at h1
 rcases h1 with h1 | ⟨_,_,_,h2,_⟩
 ·have hp:=plain_op (P:=P) a.eval ⟨some t,op,ty,ps,af,none⟩ hq w
  unfold Oper.wp at h1
  generalize (execOp a.eval ⟨some t,op,ty,ps,af,none⟩).run P w=r at h1 hp
  cases r with
  | ok x w' =>
   cases x with
   | value v=>exact h1.2
   | skip=>exact h1.2
   | _=>exact hp.elim
  | halt x w' =>
   cases x with
   | panic v=>obtain ⟨h2,_⟩:=h1; cases h2
   | _=>exact h1.elim
 ·cases h2
end
end GW
