import Derived.Test.YtdajnflppnlhiaaGWCtr
import Derived.Lib.AppendZeros
set_option linter.unusedVariables false
set_option linter.unusedSimpArgs false
namespace GW
open Go Go.RowKit
section
variable {P:Program} {n:Nat} {m:Mem} {w0:Base} {l:List (Nat×D)} {H:List Res} {a:Act} {w:World}
variable {ops:Array Oper} {Q:Exit→Act→World→Prop} {rest:List Oper} {ty:TypeId} {ps:String} {af:Array Edge} {t:Nat}
theorem s_fieldAddr (S:St n m w0 l H a w){e:TypeId}{x:Operand}{f g o off o' z:Nat}{ft:TypeId}{b:Bool}(hx:evo l x=some (.v (.pointer (some ⟨g,o,none⟩))))(hF:fieldI P e f=some (off,ft))(hT:tyI P ft=some (b,z))(hz:z≠0)(ho:o+off=o')(ht:Nat.blt t n=true)
  (K:∀ a',St n m w0 ((t, .v (.pointer (some ⟨g,o',none⟩)))::l) H a' w→wpList P ops Q rest a' w):wpList P ops Q (⟨some t, .fieldAddr e x f,ty,ps,af,none⟩::rest) a w :=
 s_run (dv:= .v (.pointer (some ⟨g,o',none⟩))) S ht rfl (by
  have hx':a.eval x = .pointer (some ⟨g,o,none⟩):=S.evo hx
  unfold fieldI at hF
  split at hF
  ·rename_i fs hu
   obtain ⟨fd,hfd,he⟩:=Option.map_eq_some_iff.1 hF
   simp only [Prod.mk.injEq] at he
   obtain ⟨rfl,rfl⟩:=he
   have ha:(⟨g,o,none⟩:Addr).add fd.offset=⟨g,o',none⟩:=by subst ho; unfold Addr.add; split <;> simp_all
   simp only [execOp,hx']
   simp [Instr.fieldAt,run_underlying hu,hfd,Instr.sureAddr,fieldPlace,run_sizeI hT,hz,ha,D.val]
  ·cases hF) K
theorem s_eqnil (S:St n m w0 l H a w){xt yt e:TypeId}{x y:Operand}{d:D}{A:Option Addr}{k c k' c':Nat}{b:Bool}(hx:evo l x=some d)(hd:d.val = .slice A k c)(hu:P.underlying xt=some (.slice e))(hy:y = .const (.slice none k' c'))(hb:A.isNone=b)(ht:Nat.blt t n=true)
  (K:∀ a',St n m w0 ((t, .v (.bool b))::l) H a' w→wpList P ops Q rest a' w):wpList P ops Q (⟨some t, .binOp .eql xt x y yt,ty,ps,af,none⟩::rest) a w :=
 s_run (dv:= .v (.bool b)) S ht rfl (by
  have hx':a.eval x = .slice A k c:=(S.evo hx).trans hd
  subst hb hy
  have hy':a.eval (.const (.slice none k' c')) = .slice none k' c':=rfl
  simp only [execOp,hx',hy']
  have hg:(eqGuard .eql xt x (.const (.slice none k' c')) (.slice A k c) (.slice none k' c')).run P w = .ok () w:=rfl
  simp only [Sem.run_bind,hg,Result.andThen_ok,Lib.run_eql_slice_nil w xt e A k c k' c' hu,Sem.run_pure,D.val]) K
theorem rd_nil {α:Type}{ty':Ty α}{A:Option Addr}{xs:List α}(h:A.isNone=true)(hR:RdS ty' A xs m):xs=[]:=by
 cases xs with
 | nil=>rfl
 | cons x xs =>
  obtain ⟨ad,c,h1,_⟩:=hR 0 (by simp)
  subst h1; cases h
theorem row_nil {α:Type}{ty':Ty α}{e:TypeId}{A:Option Addr}{k cap:Nat}{xs:List α}(h:A.isNone=true)(hr:(Res.row ty' e A k cap xs).holds m w):xs=[]:=by
 cases A with
 | some p=>cases h
 | none =>
  rcases Nat.eq_zero_or_pos k with h0 | h0
  ·exact List.eq_nil_of_length_eq_zero (hr.1.trans h0)
  ·obtain ⟨g,cur,cs,hA,_⟩:=Res.row.at_ hr h0; cases hA
section
variable {m':Mem} {HS:List Res} {C':World→Prop}
theorem h_skipOt {lo:List Oper}{i:Nat}{c:Bool}{r o:Sch}{op:Op}{j:Nat}{want:Bool}{tj:Tmp}{d:D}(S:St n m' w0 l H a w)(hi:lo[i]?=some ⟨some t,op,ty,ps,af,some (j,want)⟩)
  (hj:(lo[j]?).bind (·.dst)=some tj) (hv:fnd l tj=some d) (hb:d.val ≠ .bool want) (ht:Nat.blt t n=true)
  (K:∀ a',St n m' w0 ((t, .u)::l) H a' w→wpList P #[] (toQ (fun a' w'=>(c=true→C' w')∧wpH P lo.toArray (NoPanic Q) C' r a' w') (NoPanic Q)) [] a' w) (ho:wpH P lo.toArray (NoPanic Q) C' o a w):wpH P lo.toArray (NoPanic Q) C' (.run i c r o) a w :=
 ⟨(h_skipRt (c:=c) (r:=r) S hi hj hv hb ht K).1,ho⟩
end
theorem Res.row.cap {α:Type}{ty':Ty α}{e:TypeId}{A:Option Addr}{k cap:Nat}{xs:List α}(hr:(Res.row ty' e A k cap xs).holds m w):k≤cap∧cap≤maxLen:=by
 obtain ⟨h0,cs,c1,c2,c3,c4⟩:=hr
 rcases c4 with ⟨e1,e2⟩ | ⟨g,cp,cur,e1,e2,e3,e4,e5,e6,e7⟩
 ·obtain ⟨-, -,rfl⟩:=Value.slice.inj e1; simp [e2]
 ·obtain ⟨-, -,rfl⟩:=Value.slice.inj e1; exact ⟨e4,e5⟩
end
end GW
