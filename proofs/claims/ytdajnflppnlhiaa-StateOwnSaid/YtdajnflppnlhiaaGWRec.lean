import Derived.Test.YtdajnflppnlhiaaGWAren
set_option linter.unusedVariables false
set_option linter.unusedSimpArgs false
namespace GW
open Go Go.RowKit
section
variable {P:Program} {n:Nat} {m:Mem} {w0:Base} {l:List (Nat×D)} {H:List Res} {a:Act} {w:World}
variable {ops:Array Oper} {Q:Exit→Act→World→Prop} {rest:List Oper} {ty:TypeId} {ps:String} {af:Array Edge} {t:Nat}
end
theorem SubT.at_ {α:Type}{T T':Ty α}(h:SubT T T'){p:Addr}{x:α}{m:Mem}(ha:At T p x m):At T' p x m:=by
 obtain ⟨c,h1,h2⟩:=ha
 obtain ⟨c',f1,f2⟩:=h.2 m x c h1
 exact ⟨c',f1,by rw [f2]; exact h2⟩
def Ty.ptr {α:Type}(R:Option Addr→α→Mem→Prop):Ty α:=⟨1,Option Addr,fun x c=>[.rf (.pointer c) (R c x)],fun _ _=>rfl⟩
theorem subT_ptr {α:Type}{R R':Option Addr→α→Mem→Prop}(h:∀ c x m,R c x m→R' c x m)(hm:∀ c x,Mono (R' c x)):SubT (Ty.ptr R) (Ty.ptr R') :=
 ⟨rfl,fun m x c hok=>⟨c,⟨⟨rfl,h _ _ _ hok.1.2.1,hm _ _⟩,tv⟩,rfl⟩⟩
section
variable {α β:Type} (nn:α→Bool) (to:α→β) (U:Ty α→Ty β)
def RPs (R:Option Addr→α→Mem→Prop)(c:Option Addr)(x:α)(m:Mem):Prop:=(nn x=false→c=none)∧(nn x=true→∃ a,c=some a∧At (U (Ty.ptr R)) a (to x) m)
def RP (c:Option Addr)(x:α)(m:Mem):Prop:=∀ R:Option Addr→α→Mem→Prop,(∀ c x,Mono (R c x))→(∀ c x m,RPs nn to U R c x m→R c x m)→R c x m
theorem RP.mono (c:Option Addr)(x:α):Mono (RP nn to U c x):=fun m m' hm h R h1 h2=>h1 c x m m' hm (h R h1 h2)
theorem RPs.mono (R:Option Addr→α→Mem→Prop)(c:Option Addr)(x:α):Mono (RPs nn to U R c x):=fun m m' hm h=>⟨h.1,fun hn=>by
 obtain ⟨a,h1,h2⟩:=h.2 hn
 exact ⟨a,h1,At.mono _ _ _ m m' hm h2⟩⟩
variable {nn to U}
theorem RPs.up (hU:∀ T T':Ty α,SubT T T'→SubT (U T) (U T')){R R':Option Addr→α→Mem→Prop}(h:∀ c x m,R c x m→R' c x m)(hm:∀ c x,Mono (R' c x)){c:Option Addr}{x:α}{m:Mem}(k:RPs nn to U R c x m):RPs nn to U R' c x m :=
 ⟨k.1,fun hn=>by
  obtain ⟨a,h1,h2⟩:=k.2 hn
  exact ⟨a,h1,(hU _ _ (subT_ptr h hm)).at_ h2⟩⟩
theorem RP.fold (hU:∀ T T':Ty α,SubT T T'→SubT (U T) (U T')){c:Option Addr}{x:α}{m:Mem}(h:RPs nn to U (RP nn to U) c x m):RP nn to U c x m:=fun R h1 h2 =>
 h2 _ _ _ (RPs.up hU (fun c x m k=>k R h1 h2) h1 h)
theorem RP.unfold (hU:∀ T T':Ty α,SubT T T'→SubT (U T) (U T')){c:Option Addr}{x:α}{m:Mem}(h:RP nn to U c x m):RPs nn to U (RP nn to U) c x m :=
 h _ (RPs.mono nn to U _) (fun c x m k=>RPs.up hU (fun c x m k=>RP.fold hU k) (RP.mono nn to U) k)
theorem RP.nil (hU:∀ T T':Ty α,SubT T T'→SubT (U T) (U T')){x:α}(hx:nn x=false)(m:Mem):RP nn to U none x m:=RP.fold hU ⟨fun _=>rfl,fun h=>by rw [hx] at h; cases h⟩
end
section
variable {α β:Type} (un:α→β) (U:Ty (List α)→Ty β)
def Ty.iso {α β:Type}(un:α→β)(T:Ty β):Ty α:=⟨T.size,T.Ch,fun x c=>T.segs (un x) c,fun x c=>T.len (un x) c⟩
def Ty.slR {α:Type}(R:Option Addr→List α→Mem→Prop):Ty (List α):=⟨1,Option Addr×Nat,fun xs c=>[.sl c.1 xs.length c.2 (R c.1 xs)],fun _ _=>rfl⟩
theorem subT_slR {α:Type}{R R':Option Addr→List α→Mem→Prop}(h:∀ c x m,R c x m→R' c x m)(hm:∀ c x,Mono (R' c x)):SubT (Ty.slR R) (Ty.slR R') :=
 ⟨rfl,fun m x c hok=>⟨c,⟨⟨hok.1.1,hok.1.2.1,h _ _ _ hok.1.2.2.1,hm _ _⟩,tv⟩,rfl⟩⟩
theorem subT_iso {α β:Type}{un:α→β}{T T':Ty β}(h:SubT T T'):SubT (Ty.iso un T) (Ty.iso un T'):=⟨h.1,fun m x c hok=>h.2 m (un x) c hok⟩
theorem rdS_up {α:Type}{T T':Ty α}(h:SubT T T'){A:Option Addr}{xs:List α}{m:Mem}(k:RdS T A xs m):RdS T' A xs m:=fun i hi=>by
 obtain ⟨ad,c',e1,e2,e3⟩:=k i hi
 obtain ⟨c2,f1,f2⟩:=h.2 m xs[i] c' e2
 exact ⟨ad,c2,e1,f1,by rw [f2, ← h.1]; exact e3⟩
def RS (A:Option Addr)(xs:List α)(m:Mem):Prop:=∀ R:Option Addr→List α→Mem→Prop,(∀ A xs,Mono (R A xs))→(∀ A xs m,RdS (Ty.iso un (U (Ty.slR R))) A xs m→R A xs m)→R A xs m
theorem RS.mono (A:Option Addr)(xs:List α):Mono (RS un U A xs):=fun m m' hm h R h1 h2=>h1 A xs m m' hm (h R h1 h2)
variable {un U}
theorem RS.eq (hU:∀ T T':Ty (List α),SubT T T'→SubT (U T) (U T')):RS un U=fun A xs=>RdS (Ty.iso un (U (Ty.slR (RS un U)))) A xs:=by
 have up:∀ {R R':Option Addr→List α→Mem→Prop},(∀ c x m,R c x m→R' c x m)→(∀ c x,Mono (R' c x))→∀ {A xs m},RdS (Ty.iso un (U (Ty.slR R))) A xs m→RdS (Ty.iso un (U (Ty.slR R'))) A xs m :=
  fun h hm _ _ _ k=>rdS_up (subT_iso (hU _ _ (subT_slR h hm))) k
 have fold:∀ A xs m,RdS (Ty.iso un (U (Ty.slR (RS un U)))) A xs m→RS un U A xs m:=fun A xs m h R h1 h2=>h2 _ _ _ (up (fun c x m k=>k R h1 h2) h1 h)
 funext A xs m
 refine propext ⟨fun h=>?_,fold A xs m⟩
 exact h (fun A xs m=>RdS (Ty.iso un (U (Ty.slR (RS un U)))) A xs m) (fun A xs=>RdS.mono _ _ _) (fun A xs m k=>up fold (RS.mono un U) k)
end
section
variable {P:Program} {n:Nat} {m:Mem} {w0:Base} {l:List (Nat×D)} {H:List Res} {a:Act} {w:World}
variable {ops:Array Oper} {Q:Exit→Act→World→Prop} {rest:List Oper} {ty:TypeId} {ps:String} {af:Array Edge} {t:Nat}
variable {α β:Type} {nn:α→Bool} {to:α→β} {U:Ty α→Ty β}
theorem s_ldF0 {γ:Type}(S:St n m w0 l H a w){e:TypeId}{x:Operand}{p:Addr}{ty':Ty γ}{y:γ}{z:Nat}(vf:ty'.Ch→Value)(Rf:ty'.Ch→Mem→Prop){c:ty'.Ch}(hC:okS m (ty'.segs y c)∧∀ j v,(cellsOf (ty'.segs y c))[j]?=some v→m (p.add j)=some v)(hx:evo l x=some (.pt p (At ty' p y)))(hT:tyI P e=some (false,z))
  (hs:∀ c,ty'.segs y c=[.rf (vf c) (Rf c)]) (ht:Nat.blt t n=true)
  (K:∀ a',St n m w0 ((t, .rf (vf c) (Rf c))::l) H a' w→wpList P ops Q rest a' w):wpList P ops Q (⟨some t, .load e x,ty,ps,af,none⟩::rest) a w:=by
 obtain ⟨h2,h3⟩:=hC
 rw [hs] at h2 h3
 have hv:w.cell? p=some (vf c):=by
  have:=S.frz.cell (h3 0 _ rfl) h2.1.1
  simpa [Addr.add] using this
 refine s_run (dv:= .rf (vf c) (Rf c)) S ht h2.1 ?_ K
 have hx':a.eval x = .pointer (some p):=S.evo hx
 simp only [execOp,hx',Instr.loadAt,Instr.sureAddr,Sem.run_bind,Sem.run_pure,Result.andThen_ok,run_loadVar_one hT hv]
 rfl
theorem s_ldF {γ:Type}(S:St n m w0 l H a w){e:TypeId}{x:Operand}{p:Addr}{ty':Ty γ}{y:γ}{z:Nat}(vf:ty'.Ch→Value)(Rf:ty'.Ch→Mem→Prop)(hx:evo l x=some (.pt p (At ty' p y)))(hT:tyI P e=some (false,z))
  (hs:∀ c,ty'.segs y c=[.rf (vf c) (Rf c)]) (ht:Nat.blt t n=true)
  (K:∀ c a',St n m w0 ((t, .rf (vf c) (Rf c))::l) H a' w→wpList P ops Q rest a' w):wpList P ops Q (⟨some t, .load e x,ty,ps,af,none⟩::rest) a w:=by
 obtain ⟨⟨c,hC⟩,_⟩:=evo_ok S hx
 exact s_ldF0 S vf Rf hC hx hT hs ht (K c)
theorem s_ldRF {γ:Type} [Inhabited γ] (S:St n m w0 l H a w){e ee:TypeId}{x:Operand}{A:Option Addr}{g k cap o off z:Nat}{ty':Ty γ}{xs:List γ}{i:Int}{T:List Res}(vf:ty'.Ch→Value)(Rf:ty'.Ch→Mem→Prop)(hx:evo l x=some (.v (.pointer (some ⟨g,o,none⟩))))(hA:A=some ⟨g,0,none⟩)(hf:Foc H (Res.row ty' ee A k cap xs) (Res.row ty' ee A k cap xs) T)
  (hT:tyI P e=some (false,z)) (h0:0≤i) (h1:i<xs.length) (ho:i.toNat*ty'.size+off=o) (hs:∀ c,subS (ty'.segs (gt xs i) c) off 1=some [.rf (vf c) (Rf c)]) (ht:Nat.blt t n=true)
  (K:∀ c a',St n m w0 ((t, .rf (vf c) (Rf c))::l) H a' w→wpList P ops Q rest a' w):wpList P ops Q (⟨some t, .load e x,ty,ps,af,none⟩::rest) a w:=by
 have hr:=S.holds _ hf.mem
 subst hA
 obtain ⟨c,c1,c2⟩:=Res.row.elem hr h0 h1
 have h4:(cellsOf [Seg.rf (vf c) (Rf c)])[0]?=some (vf c):=rfl
 obtain ⟨h5,h6⟩:=subS_at c1 (hs c) h4
 have hv:w.cell? ⟨g,o,none⟩=some (vf c):=by have:=c2 _ _ h5; rw [← ho]; exact this
 refine s_run (dv:= .rf (vf c) (Rf c)) S ht h6.1 ?_ (K c)
 have hx':a.eval x = .pointer (some ⟨g,o,none⟩):=S.evo hx
 simp only [execOp,hx',Instr.loadAt,Instr.sureAddr,Sem.run_bind,Sem.run_pure,Result.andThen_ok,run_loadVar_one hT hv]
 rfl
end
section
variable {P:Program} {n:Nat} {m:Mem} {w0:Base} {l:List (Nat×D)} {H:List Res} {a:Act} {w:World}
variable {ops:Array Oper} {Q:Exit→Act→World→Prop} {rest:List Oper} {ty:TypeId} {ps:String} {af:Array Edge} {t:Nat}
end
section
variable {P:Program} {n:Nat} {m:Mem} {w0:Base} {l:List (Nat×D)} {H:List Res} {a:Act} {w:World}
variable {ops:Array Oper} {Q:Exit→Act→World→Prop} {rest:List Oper} {ty:TypeId} {ps:String} {af:Array Edge} {t:Nat}
end
end GW
