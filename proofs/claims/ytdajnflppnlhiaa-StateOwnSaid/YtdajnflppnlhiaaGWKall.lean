import Derived.Test.YtdajnflppnlhiaaGWRowx
set_option linter.unusedVariables false
set_option linter.unusedSimpArgs false
namespace GW
open Go Go.RowKit
def CtrB {Ch:Type}(P:Program)(f:FuncId)(ds:List D)(H:List Res)(d:Ch→D)(Ho:Ch→List Res)(m:Mem)(w:World):Prop :=
 okL m ds→Pre m H w→Calls P f (ds.map D.val).toArray w (RetX m H d Ho w)
inductive Pulls:List Res→List Res→List Res→Prop where
 | nil {H:List Res}:Pulls [] H H
 | cons {H T L Hr:List Res} {r:Res} (h:Pull H r T) (k:Pulls L T Hr):Pulls (r::L) H Hr
theorem Pulls.pre:∀ {A B:List Res},Pulls A (A++B) B
 | [],_=> .nil
 | _::A,B=> .cons .here Pulls.pre
theorem Pulls.sk {x:Res}{T L Hr:List Res}(h:Pulls L T Hr):Pulls L (x::T) (x::Hr):=by
 induction h generalizing x with
 | nil=>exact .nil
 | cons h k ih=>exact .cons (.there h) ih
theorem Pulls.sel {H L Hr:List Res}(h:Pulls L H Hr):Sel H (L++Hr):=by
 induction h with
 | nil=>exact Sel.refl _
 | cons h k ih=>exact .cons h ih
inductive Cat:List Res→List Res→List Res→Prop where
 | n {H:List Res}:Cat [] H H
 | c {A B C:List Res} {r:Res} (k:Cat A B C):Cat (r::A) B (r::C)
theorem Cat.eq {A B C:List Res}(h:Cat A B C):A++B=C:=by
 induction h with
 | n=>rfl
 | c _ ih=>rw [List.cons_append,ih]
theorem Cat.c1 {H:List Res}{a:Res}:Cat [a] H (a::H):= .c .n
theorem Cat.c2 {H:List Res}{a b:Res}:Cat [a,b] H (a::b::H):= .c .c1
theorem Cat.c3 {H:List Res}{a b c:Res}:Cat [a,b,c] H (a::b::c::H):= .c .c2
theorem Cat.c4 {H:List Res}{a b c d:Res}:Cat [a,b,c,d] H (a::b::c::d::H):= .c .c3
theorem Cat.c5 {H:List Res}{a b c d e:Res}:Cat [a,b,c,d,e] H (a::b::c::d::e::H):= .c .c4
theorem Cat.c6 {H:List Res}{a b c d e f:Res}:Cat [a,b,c,d,e,f] H (a::b::c::d::e::f::H):= .c .c5
theorem Cat.c7 {H:List Res}{a b c d e f g:Res}:Cat [a,b,c,d,e,f,g] H (a::b::c::d::e::f::g::H):= .c .c6
theorem Cat.c8 {H:List Res}{a b c d e f g h:Res}:Cat [a,b,c,d,e,f,g,h] H (a::b::c::d::e::f::g::h::H):= .c .c7
theorem Cat.c9 {H:List Res}{a b c d e f g h i:Res}:Cat [a,b,c,d,e,f,g,h,i] H (a::b::c::d::e::f::g::h::i::H):= .c .c8
theorem Cat.c10 {H:List Res}{a b c d e f g h i j:Res}:Cat [a,b,c,d,e,f,g,h,i,j] H (a::b::c::d::e::f::g::h::i::j::H):= .c .c9
section
variable {P:Program} {n:Nat} {m:Mem} {w0:Base} {l:List (Nat×D)} {H:List Res} {a:Act} {w:World}
variable {ops:Array Oper} {Q:Exit→Act→World→Prop} {rest:List Oper} {ty:TypeId} {ps:String} {af:Array Edge} {t:Nat}
theorem s_callK {Ch:Type}(S:St n m w0 l H a w){f:FuncId}{cl:Operand}{xs:List Operand}{ts:Array TypeId}{ds:List D}{Hin Hr:List Res}{d:Ch→D}{Ho Hn:Ch→List Res}(hc:CtrB P f ds Hin d Ho m w)(hf:Fn_ P f)(hx:evos l xs=some ds)(hs:Pulls Hin H Hr)(hn:∀ c,Cat (Ho c) Hr (Hn c))(ht:Nat.blt t n=true)
  (K:∀ c m' (_:LeM m m') a' w',St n m' w0 ((t,d c)::l) (Hn c) a' w'→wpList P ops Q rest a' w') (hcl:evo l cl=some (.v (.func (.func f) #[] #[])):=by rfl):wpList P ops Q (⟨some t, .call ⟨.value cl,xs.toArray,ts⟩,ty,ps,af,none⟩::rest) a w :=
 s_callX S Hin Hr d Ho Hn (fun c=>(hn c).eq) hf hx rfl id hs.sel ht hc K hcl
theorem s_callKI {Ch:Type}(S:St n m w0 l H a w){f:FuncId}{T:TypeId}{nm:String}{rc:Operand}{xs:List Operand}{ts:Array TypeId}{v:Value}{R:Mem→Prop}{d0:D}{ds' ds:List D}{Hin Hr:List Res}{d:Ch→D}{Ho Hn:Ch→List Res}(hc:CtrB P f (d0::ds) Hin d Ho m w)(hf:Fn_ P f)(hm:methI P T nm=some f)(hr:evo l rc=some (.rf (.iface T v) R))(h0:d0.val=v)(h0k:R m→d0.ok m)(hx:evos l xs=some ds')(hv:ds'.map D.val=ds.map D.val)(hk:okL m ds'→okL m ds)(hs:Pulls Hin H Hr)(hn:∀ c,Cat (Ho c) Hr (Hn c))(ht:Nat.blt t n=true)
  (K:∀ c m' (_:LeM m m') a' w',St n m' w0 ((t,d c)::l) (Hn c) a' w'→wpList P ops Q rest a' w'):wpList P ops Q (⟨some t, .call ⟨.invoke rc nm,xs.toArray,ts⟩,ty,ps,af,none⟩::rest) a w :=
 s_callI S Hin Hr d Ho Hn (fun c=>(hn c).eq) hf hm hr h0 h0k hx hv hk hs.sel ht hc K
def CtrV {Ch:Type}(P:Program)(v:Value)(R:Mem→Prop)(H:List Res)(Ho:Ch→List Res)(m:Mem)(w:World):Prop :=
 R m→Pre m H w→CallsV P v w (RetX m H (fun _:Ch=>(.tup []:D)) Ho w)
theorem s_callKV {Ch:Type}(S:St n m w0 l H a w){cl:Operand}{ts:Array TypeId}{v:Value}{R:Mem→Prop}{Hin Hr:List Res}{Ho Hn:Ch→List Res}(hc:CtrV P v R Hin Ho m w)(hcl:evo l cl=some (.rf v R))(hs:Pulls Hin H Hr)(hn:∀ c,Cat (Ho c) Hr (Hn c))(ht:Nat.blt t n=true)
  (K:∀ c m' (_:LeM m m') a' w',St n m' w0 ((t, .tup [])::l) (Hn c) a' w'→wpList P ops Q rest a' w'):wpList P ops Q (⟨some t, .call ⟨.value cl, #[],ts⟩,ty,ps,af,none⟩::rest) a w :=
 s_callV S Hin Hr Ho Hn (fun c=>(hn c).eq) hcl hs.sel ht hc K
theorem okS_set {m:Mem}{g:Seg}(hg:g.ok m):∀ {s:List Seg} (j:Nat),okS m s→okS m (s.set j g)
 | [],_,_=>trivial
 | _::_,0,h=>⟨hg,h.2⟩
 | _::_,j+1,h=>⟨h.1,okS_set hg j h.2⟩
theorem cells_set {g g0:Seg}(hc:g.cells=g0.cells):∀ {s:List Seg} (j:Nat),s[j]?=some g0→cellsOf (s.set j g)=cellsOf s
 | [],_,h=>by simp at h
 | x::s,0,h=>by
  obtain rfl:x=g0:=by simpa using h
  show g.cells++cellsOf s=x.cells++cellsOf s
  rw [hc]
 | x::s,j+1,h=>by
  show x.cells++cellsOf (s.set j g)=x.cells++cellsOf s
  rw [cells_set hc j (by simpa using h)]
theorem St.cellJ (S:St n m w0 l H a w){g:Nat}{e:TypeId}{s:List Seg}{H':List Res}{x0 x:Seg}(j:Nat)(hf:Foc H (Res.cells g e s) (Res.cells g e (s.set j x)) H')(hj:s[j]?=some x0)(hc:x.cells=x0.cells)(hok:x.ok m):St n m w0 l H' a w :=
 S.cellro hf (cells_set hc j hj) (okS_set hok j)
theorem St.slotJ (S:St n m w0 l H a w){s:List Seg}{x0 x:Seg}(u j:Nat)(hu:fnd l u=some (.agg s))(hj:s[j]?=some x0)(hc:x.cells=x0.cells)(hok:x.ok m):St n m w0 ((u, .agg (s.set j x))::l) H a w :=
 S.slot hu (by simp only [D.val]; rw [cells_set hc j hj]) (okS_set hok j (S.get u _ hu).2)
theorem St.cellN (S:St n m w0 l H a w){g:Nat}{e:TypeId}{s:List Seg}{H':List Res}{α:Type}(j:Nat)(T:Ty α)(hf:Foc H (Res.cells g e s) (Res.cells g e (s.set j (.sl none ([]:List α).length 0 (RdS T none [])))) H')(hj:s[j]?=some (.one (.slice none 0 0))):St n m w0 l H' a w :=
 S.cellJ j hf hj rfl ok_nil
theorem St.slotN (S:St n m w0 l H a w){s:List Seg}{α:Type}(u j:Nat)(T:Ty α)(hu:fnd l u=some (.agg s))(hj:s[j]?=some (.one (.slice none 0 0))):St n m w0 ((u, .agg (s.set j (.sl none ([]:List α).length 0 (RdS T none []))))::l) H a w :=
 S.slotJ u j hu hj rfl ok_nil
theorem ok_fro {α:Type}{T:Ty α}{A:Option Addr}{y:List α}{nn cp:Nat}(hro:RdS T A y m∧y.length=nn∧nn≤cp∧cp≤maxLen):(Seg.sl A y.length cp (RdS T A y)).ok m :=
 ⟨by omega,hro.2.2.2,hro.1,RdS.mono _ _ _⟩
theorem St.cellF (S:St n m w0 l H a w){g:Nat}{e:TypeId}{s:List Seg}{H':List Res}{α:Type}{T:Ty α}{A:Option Addr}{y:List α}{nn cp:Nat}(j:Nat)(hf:Foc H (Res.cells g e s) (Res.cells g e (s.set j (.sl A y.length cp (RdS T A y)))) H')(hj:s[j]?=some (.one (.slice A nn cp)))(hro:RdS T A y m∧y.length=nn∧nn≤cp∧cp≤maxLen):St n m w0 l H' a w :=
 S.cellJ j hf hj (by obtain ⟨_,rfl,_⟩:=hro; rfl) (ok_fro hro)
theorem St.slotF (S:St n m w0 l H a w){s:List Seg}{α:Type}{T:Ty α}{A:Option Addr}{y:List α}{nn cp:Nat}(u j:Nat)(hu:fnd l u=some (.agg s))(hj:s[j]?=some (.one (.slice A nn cp)))(hro:RdS T A y m∧y.length=nn∧nn≤cp∧cp≤maxLen):St n m w0 ((u, .agg (s.set j (.sl A y.length cp (RdS T A y))))::l) H a w :=
 S.slotJ u j hu hj (by obtain ⟨_,rfl,_⟩:=hro; rfl) (ok_fro hro)
theorem s_storeJ (S:St n m w0 l H a w){e:TypeId}{x y:Operand}{d:D}{g o z:Nat}{b:Bool}{e':TypeId}{s:List Seg}{v:Seg}{H':List Res}(j:Nat)(hx:evo l x=some (.v (.pointer (some ⟨g,o,none⟩))))(hy:evo l y=some d)(hd:d.isTup=false)(hv:d.segs=[v])
  (hf:Foc H (Res.cells g e' s) (Res.cells g e' (s.set j v)) H') (hT:tyI P e=some (b,z)) (hz:lenOf d.segs=z) (hs:putS s o z d.segs=some (s.set j v))
  (K:∀ w',St n m w0 l H' a w'→wpList P ops Q rest a w'):wpList P ops Q (⟨none, .store e x y,ty,ps,af,none⟩::rest) a w :=
 s_store S hx hy hd hf hT hz hs K
end
end GW
