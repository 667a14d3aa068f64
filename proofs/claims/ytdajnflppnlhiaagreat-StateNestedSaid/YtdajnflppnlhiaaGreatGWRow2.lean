import Derived.Test.YtdajnflppnlhiaaGreatGWCtr
import Derived.Lib.AppendZeros
set_option linter.unusedVariables false
set_option linter.unusedSimpArgs false
namespace GW
open Go Go.RowKit
section
variable {P:Program} {n:Nat} {m:Mem} {w0:Base} {l:List (Nat×D)} {H:List Res} {a:Act} {w:World}
variable {ops:Array Oper} {Q:Exit→Act→World→Prop} {rest:List Oper} {ty:TypeId} {ps:String} {af:Array Edge} {t:Nat}
theorem s_fieldAddr (S:St n m w0 l H a w){e:TypeId}{x:Operand}{f g o off o' z:Nat}{ft:TypeId}{b:Bool}(hx:evo l x=some (.v (.pointer (some ⟨g,o,none⟩))))(hF:fieldI P e f=some (off,ft))(hT:tyI P ft=some (b,z))(hz:z≠0)(ho:o+off=o')(ht:Nat.blt t n=true)
  (K:∀ a',St n m w0 ((t, .v (.pointer (some ⟨g,o',none⟩)))::l) H a' w→wpList P ops Q rest a' w):wpList P ops Q (⟨some t, .fieldAddr e x f,ty,ps,af,none⟩::rest) a w :=
 s_run (dv:= .v (.pointer (some ⟨g,o',none⟩))) S ht rfl (by
  have hx':a.eval x = .pointer (some ⟨g,o,none⟩):=S.evo hx
  unfold fieldI at hF
  split at hF
  ·rename_i fs hu
   obtain ⟨fd,hfd,he⟩:=Option.map_eq_some_iff.1 hF
   simp only [Prod.mk.injEq] at he
   obtain ⟨rfl,rfl⟩:=he
   have ha:(⟨g,o,none⟩:Addr).add fd.offset=⟨g,o',none⟩:=by subst ho; unfold Addr.add; split <;> simp_all
   simp only [execOp,hx']
   simp [Instr.fieldAt,run_underlying hu,hfd,Instr.sureAddr,fieldPlace,run_sizeI hT,hz,ha,D.val]
  ·cases hF) K
theorem s_eqnil (S:St n m w0 l H a w){xt yt e:TypeId}{x y:Operand}{d:D}{A:Option Addr}{k c k' c':Nat}{b:Bool}(hx:evo l x=some d)(hd:d.val = .slice A k c)(hu:P.underlying xt=some (.slice e))(hy:y = .const (.slice none k' c'))(hb:A.isNone=b)(ht:Nat.blt t n=true)
  (K:∀ a',St n m w0 ((t, .v (.bool b))::l) H a' w→wpList P ops Q rest a' w):wpList P ops Q (⟨some t, .binOp .eql xt x y yt,ty,ps,af,none⟩::rest) a w :=
 s_run (dv:= .v (.bool b)) S ht rfl (by
  have hx':a.eval x = .slice A k c:=(S.evo hx).trans hd
  subst hb hy
  have hy':a.eval (.const (.slice none k' c')) = .slice none k' c':=rfl
  simp only [execOp,hx',hy']
  have hg:(eqGuard .eql xt x (.const (.slice none k' c')) (.slice A k c) (.slice none k' c')).run P w = .ok () w:=rfl
  simp only [Sem.run_bind,hg,Result.andThen_ok,Lib.run_eql_slice_nil w xt e A k c k' c' hu,Sem.run_pure,D.val]) K
theorem rd_nil {α:Type}{ty':Ty α}{A:Option Addr}{xs:List α}(h:A.isNone=true)(hR:RdS ty' A xs m):xs=[]:=by
 cases xs with
 | nil=>rfl
 | cons x xs =>
  obtain ⟨ad,c,h1,_⟩:=hR 0 (by simp)
  subst h1; cases h
section
variable {m':Mem} {HS:List Res} {C':World→Prop}
end
theorem Res.row.cap {α:Type}{ty':Ty α}{e:TypeId}{A:Option Addr}{k cap:Nat}{xs:List α}(hr:(Res.row ty' e A k cap xs).holds m w):k≤cap∧cap≤maxLen:=by
 obtain ⟨h0,cs,c1,c2,c3,c4⟩:=hr
 rcases c4 with ⟨e1,e2⟩ | ⟨g,cp,cur,e1,e2,e3,e4,e5,e6,e7⟩
 ·obtain ⟨-, -,rfl⟩:=Value.slice.inj e1; simp [e2]
 ·obtain ⟨-, -,rfl⟩:=Value.slice.inj e1; exact ⟨e4,e5⟩
def atOf (A:Option Addr)(cap lo z:Nat):Option Addr:=if cap=lo then A else A.map (·.add (lo*z))
theorem s_cutR {α:Type}(S:St n m w0 l H a w){e et ee:TypeId}{x:Operand}{lo hi:Option Operand}{A:Option Addr}{k cap:Nat}{ty':Ty α}{xs:List α}{b:Bool}{i j:Int}{T:List Res}
  (hx:evo l x=some (.v (.slice A k cap))) (hf:Foc H (Res.row ty' ee A k cap xs) (Res.row ty' ee A k cap xs) T) (hu:P.underlying e=some (.slice et)) (hT:tyI P et=some (b,ty'.size))
  (hlo:(lo=none∧i=0)∨∃ o k,lo=some o∧evo l o=some (.v (.int k i))) (hhi:(hi=none∧j=k)∨∃ o k,hi=some o∧evo l o=some (.v (.int k j))) (h0:0≤i∧i≤j∧j≤k) (ht:Nat.blt t n=true)
  (K:∀ a',St n m w0 ((t, .v (.slice (atOf A cap i.toNat ty'.size) (j.toNat - i.toNat) (cap - i.toNat)))::l) H a' w→wpList P ops Q rest a' w):wpList P ops Q (⟨some t, .slice e x lo hi none,ty,ps,af,none⟩::rest) a w:=by
 have hc:=Res.row.cap (S.holds _ hf.mem)
 have hx':a.eval x = .slice A k cap:=S.evo hx
 refine s_run (dv:= .v (.slice (atOf A cap i.toNat ty'.size) (j.toNat - i.toNat) (cap - i.toNat))) S ht rfl ?_ K
 have hb:=sliceBounds_run (P:=P) (b:=true) (len:=k) (cap:=cap) S hlo hhi (by omega) (fun _=>by omega)
 simp only [execOp,hx',Option.map_none]
 simp only [Instr.sliceAt,Instr.slice,Sem.run_bind,run_underlying hu,Result.andThen_ok,hb,run_sizeI hT,Sem.run_pure,D.val,atOf]
end
end GW
