import Derived.Test.YtdajnflppnlhiaaGreatGWAren
set_option linter.unusedVariables false
set_option linter.unusedSimpArgs false
namespace GW
open Go Go.RowKit
section
variable {P:Program} {n:Nat} {m:Mem} {w0:Base} {l:List (Nat×D)} {H:List Res} {a:Act} {w:World}
variable {ops:Array Oper} {Q:Exit→Act→World→Prop} {rest:List Oper} {ty:TypeId} {ps:String} {af:Array Edge} {t:Nat}
end
theorem SubT.at_ {α:Type}{T T':Ty α}(h:SubT T T'){p:Addr}{x:α}{m:Mem}(ha:At T p x m):At T' p x m:=by
 obtain ⟨c,h1,h2⟩:=ha
 obtain ⟨c',f1,f2⟩:=h.2 m x c h1
 exact ⟨c',f1,by rw [f2]; exact h2⟩
def Ty.ptr {α:Type}(R:Option Addr→α→Mem→Prop):Ty α:=⟨1,Option Addr,fun x c=>[.rf (.pointer c) (R c x)],fun _ _=>rfl⟩
theorem subT_ptr {α:Type}{R R':Option Addr→α→Mem→Prop}(h:∀ c x m,R c x m→R' c x m)(hm:∀ c x,Mono (R' c x)):SubT (Ty.ptr R) (Ty.ptr R') :=
 ⟨rfl,fun m x c hok=>⟨c,⟨⟨rfl,h _ _ _ hok.1.2.1,hm _ _⟩,tv⟩,rfl⟩⟩
section
variable {α β:Type} (nn:α→Bool) (to:α→β) (U:Ty α→Ty β)
def RPs (R:Option Addr→α→Mem→Prop)(c:Option Addr)(x:α)(m:Mem):Prop:=(nn x=false→c=none)∧(nn x=true→∃ a,c=some a∧At (U (Ty.ptr R)) a (to x) m)
def RP (c:Option Addr)(x:α)(m:Mem):Prop:=∀ R:Option Addr→α→Mem→Prop,(∀ c x,Mono (R c x))→(∀ c x m,RPs nn to U R c x m→R c x m)→R c x m
theorem RP.mono (c:Option Addr)(x:α):Mono (RP nn to U c x):=fun m m' hm h R h1 h2=>h1 c x m m' hm (h R h1 h2)
theorem RPs.mono (R:Option Addr→α→Mem→Prop)(c:Option Addr)(x:α):Mono (RPs nn to U R c x):=fun m m' hm h=>⟨h.1,fun hn=>by
 obtain ⟨a,h1,h2⟩:=h.2 hn
 exact ⟨a,h1,At.mono _ _ _ m m' hm h2⟩⟩
variable {nn to U}
theorem RPs.up (hU:∀ T T':Ty α,SubT T T'→SubT (U T) (U T')){R R':Option Addr→α→Mem→Prop}(h:∀ c x m,R c x m→R' c x m)(hm:∀ c x,Mono (R' c x)){c:Option Addr}{x:α}{m:Mem}(k:RPs nn to U R c x m):RPs nn to U R' c x m :=
 ⟨k.1,fun hn=>by
  obtain ⟨a,h1,h2⟩:=k.2 hn
  exact ⟨a,h1,(hU _ _ (subT_ptr h hm)).at_ h2⟩⟩
theorem RP.fold (hU:∀ T T':Ty α,SubT T T'→SubT (U T) (U T')){c:Option Addr}{x:α}{m:Mem}(h:RPs nn to U (RP nn to U) c x m):RP nn to U c x m:=fun R h1 h2 =>
 h2 _ _ _ (RPs.up hU (fun c x m k=>k R h1 h2) h1 h)
theorem RP.unfold (hU:∀ T T':Ty α,SubT T T'→SubT (U T) (U T')){c:Option Addr}{x:α}{m:Mem}(h:RP nn to U c x m):RPs nn to U (RP nn to U) c x m :=
 h _ (RPs.mono nn to U _) (fun c x m k=>RPs.up hU (fun c x m k=>RP.fold hU k) (RP.mono nn to U) k)
theorem RP.nil (hU:∀ T T':Ty α,SubT T T'→SubT (U T) (U T')){x:α}(hx:nn x=false)(m:Mem):RP nn to U none x m:=RP.fold hU ⟨fun _=>rfl,fun h=>by rw [hx] at h; cases h⟩
end
section
variable {α β:Type} (un:α→β) (U:Ty (List α)→Ty β)
def Ty.iso {α β:Type}(un:α→β)(T:Ty β):Ty α:=⟨T.size,T.Ch,fun x c=>T.segs (un x) c,fun x c=>T.len (un x) c⟩
def Ty.slR {α:Type}(R:Option Addr→List α→Mem→Prop):Ty (List α):=⟨1,Option Addr×Nat,fun xs c=>[.sl c.1 xs.length c.2 (R c.1 xs)],fun _ _=>rfl⟩
theorem subT_slR {α:Type}{R R':Option Addr→List α→Mem→Prop}(h:∀ c x m,R c x m→R' c x m)(hm:∀ c x,Mono (R' c x)):SubT (Ty.slR R) (Ty.slR R') :=
 ⟨rfl,fun m x c hok=>⟨c,⟨⟨hok.1.1,hok.1.2.1,h _ _ _ hok.1.2.2.1,hm _ _⟩,tv⟩,rfl⟩⟩
theorem subT_iso {α β:Type}{un:α→β}{T T':Ty β}(h:SubT T T'):SubT (Ty.iso un T) (Ty.iso un T'):=⟨h.1,fun m x c hok=>h.2 m (un x) c hok⟩
theorem rdS_up {α:Type}{T T':Ty α}(h:SubT T T'){A:Option Addr}{xs:List α}{m:Mem}(k:RdS T A xs m):RdS T' A xs m:=fun i hi=>by
 obtain ⟨ad,c',e1,e2,e3⟩:=k i hi
 obtain ⟨c2,f1,f2⟩:=h.2 m xs[i] c' e2
 exact ⟨ad,c2,e1,f1,by rw [f2, ← h.1]; exact e3⟩
def RS (A:Option Addr)(xs:List α)(m:Mem):Prop:=∀ R:Option Addr→List α→Mem→Prop,(∀ A xs,Mono (R A xs))→(∀ A xs m,RdS (Ty.iso un (U (Ty.slR R))) A xs m→R A xs m)→R A xs m
theorem RS.mono (A:Option Addr)(xs:List α):Mono (RS un U A xs):=fun m m' hm h R h1 h2=>h1 A xs m m' hm (h R h1 h2)
variable {un U}
theorem RS.eq (hU:∀ T T':Ty (List α),SubT T T'→SubT (U T) (U T')):RS un U=fun A xs=>RdS (Ty.iso un (U (Ty.slR (RS un U)))) A xs:=by
 have up:∀ {R R':Option Addr→List α→Mem→Prop},(∀ c x m,R c x m→R' c x m)→(∀ c x,Mono (R' c x))→∀ {A xs m},RdS (Ty.iso un (U (Ty.slR R))) A xs m→RdS (Ty.iso un (U (Ty.slR R'))) A xs m :=
  fun h hm _ _ _ k=>rdS_up (subT_iso (hU _ _ (subT_slR h hm))) k
 have fold:∀ A xs m,RdS (Ty.iso un (U (Ty.slR (RS un U)))) A xs m→RS un U A xs m:=fun A xs m h R h1 h2=>h2 _ _ _ (up (fun c x m k=>k R h1 h2) h1 h)
 funext A xs m
 refine propext ⟨fun h=>?_,fold A xs m⟩
 exact h (fun A xs m=>RdS (Ty.iso un (U (Ty.slR (RS un U)))) A xs m) (fun A xs=>RdS.mono _ _ _) (fun A xs m k=>up fold (RS.mono un U) k)
end
section
variable {P:Program} {n:Nat} {m:Mem} {w0:Base} {l:List (Nat×D)} {H:List Res} {a:Act} {w:World}
variable {ops:Array Oper} {Q:Exit→Act→World→Prop} {rest:List Oper} {ty:TypeId} {ps:String} {af:Array Edge} {t:Nat}
variable {α β:Type} {nn:α→Bool} {to:α→β} {U:Ty α→Ty β}
theorem s_ldF0 {γ:Type}(S:St n m w0 l H a w){e:TypeId}{x:Operand}{p:Addr}{ty':Ty γ}{y:γ}{z:Nat}(vf:ty'.Ch→Value)(Rf:ty'.Ch→Mem→Prop){c:ty'.Ch}(hC:okS m (ty'.segs y c)∧∀ j v,(cellsOf (ty'.segs y c))[j]?=some v→m (p.add j)=some v)(hx:evo l x=some (.pt p (At ty' p y)))(hT:tyI P e=some (false,z))
  (hs:∀ c,ty'.segs y c=[.rf (vf c) (Rf c)]) (ht:Nat.blt t n=true)
  (K:∀ a',St n m w0 ((t, .rf (vf c) (Rf c))::l) H a' w→wpList P ops Q rest a' w):wpList P ops Q (⟨some t, .load e x,ty,ps,af,none⟩::rest) a w:=by
 obtain ⟨h2,h3⟩:=hC
 rw [hs] at h2 h3
 have hv:w.cell? p=some (vf c):=by
  have:=S.frz.cell (h3 0 _ rfl) h2.1.1
  simpa [Addr.add] using this
 refine s_run (dv:= .rf (vf c) (Rf c)) S ht h2.1 ?_ K
 have hx':a.eval x = .pointer (some p):=S.evo hx
 simp only [execOp,hx',Instr.loadAt,Instr.sureAddr,Sem.run_bind,Sem.run_pure,Result.andThen_ok,run_loadVar_one hT hv]
 rfl
theorem s_ldF {γ:Type}(S:St n m w0 l H a w){e:TypeId}{x:Operand}{p:Addr}{ty':Ty γ}{y:γ}{z:Nat}(vf:ty'.Ch→Value)(Rf:ty'.Ch→Mem→Prop)(hx:evo l x=some (.pt p (At ty' p y)))(hT:tyI P e=some (false,z))
  (hs:∀ c,ty'.segs y c=[.rf (vf c) (Rf c)]) (ht:Nat.blt t n=true)
  (K:∀ c a',St n m w0 ((t, .rf (vf c) (Rf c))::l) H a' w→wpList P ops Q rest a' w):wpList P ops Q (⟨some t, .load e x,ty,ps,af,none⟩::rest) a w:=by
 obtain ⟨⟨c,hC⟩,_⟩:=evo_ok S hx
 exact s_ldF0 S vf Rf hC hx hT hs ht (K c)
theorem s_ldRF {γ:Type} [Inhabited γ] (S:St n m w0 l H a w){e ee:TypeId}{x:Operand}{A:Option Addr}{g k cap o off z:Nat}{ty':Ty γ}{xs:List γ}{i:Int}{T:List Res}(vf:ty'.Ch→Value)(Rf:ty'.Ch→Mem→Prop)(hx:evo l x=some (.v (.pointer (some ⟨g,o,none⟩))))(hA:A=some ⟨g,0,none⟩)(hf:Foc H (Res.row ty' ee A k cap xs) (Res.row ty' ee A k cap xs) T)
  (hT:tyI P e=some (false,z)) (h0:0≤i) (h1:i<xs.length) (ho:i.toNat*ty'.size+off=o) (hs:∀ c,subS (ty'.segs (gt xs i) c) off 1=some [.rf (vf c) (Rf c)]) (ht:Nat.blt t n=true)
  (K:∀ c a',St n m w0 ((t, .rf (vf c) (Rf c))::l) H a' w→wpList P ops Q rest a' w):wpList P ops Q (⟨some t, .load e x,ty,ps,af,none⟩::rest) a w:=by
 have hr:=S.holds _ hf.mem
 subst hA
 obtain ⟨c,c1,c2⟩:=Res.row.elem hr h0 h1
 have h4:(cellsOf [Seg.rf (vf c) (Rf c)])[0]?=some (vf c):=rfl
 obtain ⟨h5,h6⟩:=subS_at c1 (hs c) h4
 have hv:w.cell? ⟨g,o,none⟩=some (vf c):=by have:=c2 _ _ h5; rw [← ho]; exact this
 refine s_run (dv:= .rf (vf c) (Rf c)) S ht h6.1 ?_ (K c)
 have hx':a.eval x = .pointer (some ⟨g,o,none⟩):=S.evo hx
 simp only [execOp,hx',Instr.loadAt,Instr.sureAddr,Sem.run_bind,Sem.run_pure,Result.andThen_ok,run_loadVar_one hT hv]
 rfl
end
section
variable {P:Program} {n:Nat} {m:Mem} {w0:Base} {l:List (Nat×D)} {H:List Res} {a:Act} {w:World}
variable {ops:Array Oper} {Q:Exit→Act→World→Prop} {rest:List Oper} {ty:TypeId} {ps:String} {af:Array Edge} {t:Nat}
theorem St.slotrR (S:St n m w0 l H a w){u k cap:Nat}{A:Option Addr}{α:Type}{xs:List α}{R:Mem→Prop}(hu:fnd l u=some (.v (.slice A k cap)))(h:R m∧xs.length=k∧k≤cap∧cap≤maxLen)(hm:Mono R):St n m w0 ((u, .sl A xs.length cap R)::l) H a w:=by
 obtain ⟨h1,h2,h3,h4⟩:=h
 subst h2
 exact S.slot hu rfl ⟨h3,h4,h1,hm⟩
end
section
variable {P:Program} {n:Nat} {m:Mem} {w0:Base} {l:List (Nat×D)} {H:List Res} {a:Act} {w:World}
variable {ops:Array Oper} {Q:Exit→Act→World→Prop} {rest:List Oper} {ty:TypeId} {ps:String} {af:Array Edge} {t:Nat}
theorem segsL_split {α:Type}{T:Ty α}(xs:List α)(cs:List T.Ch)(h:cs.length=xs.length)(i:Nat):segsL T xs cs=segsL T (xs.take i) (cs.take i)++segsL T (xs.drop i) (cs.drop i):=by
 rw [← segsL_append _ _ _ _ (by simp [h]),List.take_append_drop,List.take_append_drop]
theorem segsL_parts {α:Type}{T:Ty α}{xs:List α}{cs:List T.Ch}(h:cs.length=xs.length)(hok:okS m (segsL T xs cs))(i:Nat)(hi:i≤xs.length) :
  okS m (segsL T (xs.take i) (cs.take i))∧okS m (segsL T (xs.drop i) (cs.drop i))∧(cellsOf (segsL T xs cs)).take (i*T.size)=cellsOf (segsL T (xs.take i) (cs.take i))∧(cellsOf (segsL T xs cs)).drop (i*T.size)=cellsOf (segsL T (xs.drop i) (cs.drop i)):=by
 have e:=segsL_split xs cs h i
 rw [e,okS_append] at hok
 have hl:(cellsOf (segsL T (xs.take i) (cs.take i))).length=i*T.size:=by
  rw [segsL_len_mul _ _ (by simp [h]) hok.1,List.length_take,Nat.min_eq_left hi]
 refine ⟨hok.1,hok.2,?_,?_⟩
 ·rw [e,cellsOf_append, ← hl,List.take_left]
 ·rw [e,cellsOf_append, ← hl,List.drop_left]
theorem Res.row.srcV {α:Type}{T:Ty α}{e:TypeId}{A:Option Addr}{k cap lo dl:Nat}{xs:List α}(h:(Res.row T e A k cap xs).holds m w)(hd:lo+dl≤k):Src m w T (atOf A cap lo T.size) ((xs.drop lo).take dl):=by
 have hk:xs.length=k:=h.1
 have hc:=Res.row.cap h
 rcases Nat.eq_zero_or_pos dl with h0 | h0
 ·subst h0
  refine ⟨[],by simp,tv,?_⟩
  have e0:(xs.drop lo).take 0=[]:=by simp
  cases ha:atOf A cap lo T.size with
  | none=>exact .inl ⟨rfl,e0⟩
  | some ad=>exact .inr ⟨ad,rfl,fun j u hu=>by rw [e0] at hu; simp [segsL,cellsOf] at hu⟩
 ·obtain ⟨g,cur,cs,rfl,_,c1,c2,c3,c4,c5,c6,c7⟩:=Res.row.at_ h (by omega)
  have hne:cap≠lo:=by omega
  obtain ⟨-,p2, -,p4⟩:=segsL_parts c5 c6 lo (by omega)
  obtain ⟨q1, -,q3, -⟩:=segsL_parts (T:=T) (xs:=xs.drop lo) (cs:=cs.drop lo) (by simp [c5]) p2 dl (by simp; omega)
  refine ⟨(cs.drop lo).take dl,by simp [c5],q1, .inr ⟨⟨g,lo*T.size,none⟩,?_,fun j u hu=>?_⟩⟩
  ·simp only [atOf,iN hne,Option.map_some]; congr 1; unfold Addr.add; split <;> simp_all
  ·have ha:(⟨g,lo*T.size,none⟩:Addr).add j=⟨g,lo*T.size+j,none⟩:=by unfold Addr.add; split <;> simp_all
   rw [ha,cell_of_row w g _ cur e (0,0) c1]
   have hj:=(List.getElem?_eq_some_iff.1 hu).1
   rw [← q3,List.length_take] at hj
   rw [← q3,List.getElem?_take_of_lt (by omega), ← p4,List.getElem?_drop, ← c7] at hu
   have hlt:lo*T.size+j<(cur.toList.take (k*T.size)).length:=(List.getElem?_eq_some_iff.1 hu).1
   rw [List.getElem?_take_of_lt (by rw [List.length_take] at hlt; omega)] at hu
   simpa using hu
end
end GW
