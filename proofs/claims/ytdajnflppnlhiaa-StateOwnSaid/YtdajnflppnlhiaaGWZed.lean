import Derived.Test.YtdajnflppnlhiaaGWIfc
set_option linter.unusedVariables false
set_option linter.unusedSimpArgs false
namespace GW
open Go Go.RowKit
def atR (Z:Mem)(R:Mem→Prop):Mem→Prop:=fun _=>R Z∧Mono R
def Seg.atZ (Z:Mem):Seg→Seg
 | .one v=> .one v
 | .ints k xs n=> .ints k xs n
 | .sl A n cap R=> .sl A n cap (atR Z R)
 | .rf v R=> .rf v (atR Z R)
theorem atR.mono (Z:Mem)(R:Mem→Prop):Mono (atR Z R):=fun _ _ _ h=>h
theorem lenOf_atZ (Z:Mem):∀ s:List Seg,lenOf (s.map (Seg.atZ Z))=lenOf s
 | []=>rfl
 | x::r=>by cases x <;> simp [lenOf,Seg.len,Seg.atZ,lenOf_atZ Z r]
theorem cellsOf_atZ (Z:Mem):∀ s:List Seg,cellsOf (s.map (Seg.atZ Z))=cellsOf s
 | []=>rfl
 | x::r=>by cases x <;> simp [cellsOf,Seg.cells,Seg.atZ,cellsOf_atZ Z r]
theorem okS_atZ (Z m:Mem):∀ s:List Seg,okS m (s.map (Seg.atZ Z))↔okS Z s
 | []=>Iff.rfl
 | x::r=>by
  have ih:=okS_atZ Z m r
  cases x with
  | one v=>simp [okS,Seg.ok,Seg.atZ,ih]
  | ints k xs n=>simp [okS,Seg.ok,Seg.atZ,ih]
  | sl A n cap R =>
   have:=atR.mono Z R
   simp only [List.map_cons,okS,Seg.ok,Seg.atZ,ih,this,and_true]
   exact Iff.rfl
  | rf v R =>
   have:=atR.mono Z R
   simp only [List.map_cons,okS,Seg.ok,Seg.atZ,ih,this,and_true]
   exact Iff.rfl
def Ty.atZ {α:Type}(Z:Mem)(T:Ty α):Ty α:=⟨T.size,T.Ch,fun x c=>(T.segs x c).map (Seg.atZ Z),fun x c=>by rw [lenOf_atZ,T.len]⟩
theorem segsL_atZ {α:Type}(Z:Mem)(T:Ty α):∀ (xs:List α) (cs:List T.Ch),segsL (Ty.atZ Z T) xs cs=(segsL T xs cs).map (Seg.atZ Z)
 | [],_=>by simp [segsL]
 | _::_,[]=>by simp [segsL]
 | x::xs,c::cs=>by
  have:=segsL_atZ Z T xs cs
  simp only [segsL,List.map_append,this]
  rfl
def FlatT {α:Type}(T:Ty α):Prop:=∀ x c m m',okS m (T.segs x c)→okS m' (T.segs x c)
theorem flatT_int {k:IntKind}:FlatT (Ty.int k):=fun _ _ _ _ h=>h
theorem flatT_arr {k:IntKind}{n:Nat}:FlatT (Ty.arr k n):=fun _ _ _ _ h=>h
theorem flatT_prod {α β:Type}{a:Ty α}{b:Ty β}(ha:FlatT a)(hb:FlatT b):FlatT (Ty.prod a b):=fun x c m m' h=>by
 have h':okS m (a.segs x.1 c.1++b.segs x.2 c.2):=h
 rw [okS_append] at h'
 show okS m' (a.segs x.1 c.1++b.segs x.2 c.2)
 rw [okS_append]
 exact ⟨ha _ _ _ _ h'.1,hb _ _ _ _ h'.2⟩
def Res.priv (Z:Mem):Res where
 blk:=fun k=>∃ p v,Z p=some v∧p.block=k
 holds m w:=∀ p v,Z p=some v→p.spot=none∧∃ cur t,w.heap[p.block]?=some (.cells cur t (0,0))∧cur[p.off]?=some v
 frame m w w' h hh:=fun p v hv=>by
  obtain ⟨h1,cur,t,h2,h3⟩:=hh p v hv
  exact ⟨h1,cur,t,(h _ ⟨p,v,hv,rfl⟩).trans h2,h3⟩
 mono m m' w h hh:=hh
 lt m w hh k hk:=by
  obtain ⟨p,v,hv,rfl⟩:=hk
  obtain ⟨_,cur,t,h2,_⟩:=hh p v hv
  exact (Array.getElem?_eq_some_iff.1 h2).1
def Res.junk (Z:Mem):Res where
 blk:=fun k=>∃ p v,Z p=some v∧p.block=k
 holds m w:=∀ p v,Z p=some v→p.spot=none∧∃ cur t,w.heap[p.block]?=some (.cells cur t (0,0))∧p.off<cur.size
 frame m w w' h hh:=fun p v hv=>by
  obtain ⟨h1,cur,t,h2,h3⟩:=hh p v hv
  exact ⟨h1,cur,t,(h _ ⟨p,v,hv,rfl⟩).trans h2,h3⟩
 mono m m' w h hh:=hh
 lt m w hh k hk:=by
  obtain ⟨p,v,hv,rfl⟩:=hk
  obtain ⟨_,cur,t,h2,_⟩:=hh p v hv
  exact (Array.getElem?_eq_some_iff.1 h2).1
theorem Res.priv.cell {Z m:Mem}{w:World}(h:(Res.priv Z).holds m w){p:Addr}{v:Value}(hv:Z p=some v):cellM w p=some v:=by
 obtain ⟨h1,cur,t,h2,h3⟩:=h p v hv
 refine cellM_of ?_
 obtain ⟨b,o,sp⟩:=p
 obtain rfl:sp=none:=h1
 rw [cell_of_row w _ _ cur t (0,0) h2]
 exact h3
section
variable {P:Program} {n:Nat} {m:Mem} {w0:Base} {l:List (Nat×D)} {H:List Res} {a:Act} {w:World}
theorem St.privnew (S:St n m w0 l H a w):St n m w0 l (Res.priv m0::H) a w:=by
 have hr:(Res.priv m0).holds m w:=fun p v hv=>by cases hv
 have hb:∀ k,¬ (Res.priv m0).blk k:=fun k ⟨p,v,hv,_⟩=>by cases hv
 refine ⟨S.size,S.defers,S.get,S.below,S.le,S.fresh,fun r h=>?_,fun r h k hk=>?_,List.pairwise_cons.2 ⟨fun r _ k hk=>(hb k hk).elim,S.apart⟩,S.frz,fun r h p v hv hk=>?_⟩
 ·rcases List.mem_cons.1 h with rfl | h
  ·exact hr
  ·exact S.holds r h
 ·rcases List.mem_cons.1 h with rfl | h
  ·exact (hb k hk).elim
  ·exact S.base r h k hk
 ·rcases List.mem_cons.1 h with rfl | h
  ·exact (hb _ hk).elim
  ·exact S.frzH r h p v hv hk
theorem St.into (S:St n m w0 l H a w){r s s':Res}{H1 H':List Res}(hp:Pull H r H1)(hf:Foc H1 s s' H')(hs:s'.holds m w)(hb:∀ k,s'.blk k→r.blk k∨s.blk k):St n m w0 l H' a w:=by
 have hap:=hp.apart S.apart
 have h1:∀ x∈H1,x.holds m w:=fun x hx=>S.holds x (hp.mem.2 x hx)
 have hsm:s∈H:=hp.mem.2 s hf.mem
 have hof:∀ x∈H',x=s'∨x∈H1:=hf.of
 refine ⟨S.size,S.defers,S.get,S.below,S.le,S.fresh,fun x hx=>?_,fun x hx k hk=>?_,?_,S.frz,fun x hx p v hv hk=>?_⟩
 ·rcases hof x hx with rfl | hx
  ·exact hs
  ·exact h1 x hx
 ·rcases hof x hx with rfl | hx
  ·rcases hb k hk with h | h
   ·exact S.base r hp.mem.1 k h
   ·exact S.base s hsm k h
  ·exact S.base x (hp.mem.2 x hx) k hk
 ·clear hs h1 hof S
  have hA:=hap.1
  have hB:=hap.2
  clear hap hsm hp
  induction hf with
  | @here T s s' =>
   have h2:=List.pairwise_cons.1 hB
   refine List.pairwise_cons.2 ⟨fun x hx k hk hxk=>?_,h2.2⟩
   rcases hb k hk with h | h
   ·exact hA x (List.mem_cons_of_mem _ hx) k h hxk
   ·exact h2.1 x hx k h hxk
  | @there y T T' s s' hf ih =>
   have h2:=List.pairwise_cons.1 hB
   refine List.pairwise_cons.2 ⟨fun x hx k hk hxk=>?_,ih hb (fun x hx=>hA x (List.mem_cons_of_mem _ hx)) h2.2⟩
   rcases hf.of x hx with rfl | hx
   ·rcases hb k hxk with h | h
    ·exact hA y List.mem_cons_self k h hk
    ·exact h2.1 s hf.mem k hk h
   ·exact h2.1 x hx k hk hxk
 ·rcases hof x hx with rfl | hx
  ·rcases hb _ hk with h | h
   ·exact S.frzH r hp.mem.1 p v hv h
   ·exact S.frzH s hsm p v hv h
  ·exact S.frzH x (hp.mem.2 x hx) p v hv hk
theorem St.privrow {α:Type}(S:St n m w0 l H a w){ee:TypeId}{A:Option Addr}{k cap:Nat}{T:Ty α}{xs:List α}{Z:Mem}{H1:List Res}{H':Mem→List Res}(hT:FlatT T)(hp:Pull H (Res.row T ee A k cap xs) H1)(hf:∀ Z',Foc H1 (Res.priv Z) (Res.priv Z') (H' Z')) :
  ∃ Z',LeM Z Z'∧St n m w0 l (H' Z') a w∧RdS T A xs Z'∧xs.length=k∧k≤cap∧cap≤maxLen:=by
 have hr:=S.holds _ hp.mem.1
 have hz:=S.holds _ (hp.mem.2 _ (hf m0).mem)
 rcases Nat.eq_zero_or_pos k with h | h
 ·obtain ⟨h0,cs,c1,c2,c3,c4⟩:=hr
  have hx:xs=[]:=List.eq_nil_of_length_eq_zero (by omega)
  subst hx
  have hcm:k≤cap∧cap≤maxLen:=by
   rcases c4 with ⟨e1,e2⟩ | ⟨g,cp,cur,e1,e2,e3,e4,e5,e6,e7⟩
   ·obtain ⟨-, -,rfl⟩:=Value.slice.inj e1; simp [h]
   ·obtain ⟨-, -,rfl⟩:=Value.slice.inj e1; exact ⟨e4,e5⟩
  exact ⟨Z,LeM.refl Z,S.into hp (hf Z) hz (fun k hk=> .inr hk),RdS.nil _ _ _,h0,hcm⟩
 obtain ⟨g,cur,cs,rfl,hk,c1,c2,c3,c4,c5,c6,c7⟩:=Res.row.at_ hr h
 let Z':Mem:=fun p=>if p.block=g∧p.spot=none then cur[p.off]? else Z p
 have hdis:∀ p v,Z p=some v→p.block≠g:=fun p v hv e=>(hp.apart S.apart).1 _ (hf m0).mem g rfl ⟨p,v,hv,e⟩
 have hle:LeM Z Z':=fun p v hv=>by
  simp only [Z',hdis p v hv,false_and,if_false]
  exact hv
 refine ⟨Z',hle,S.into hp (hf Z') (fun p v hv=>?_) (fun k hk=>?_),fun i hi=>?_,hk,c2,c3⟩
 ·by_cases hq:p.block=g∧p.spot=none
  ·simp only [Z',hq,and_self,if_true] at hv
   exact ⟨hq.2,cur,ee,by rw [hq.1]; exact c1,hv⟩
  ·simp only [Z',hq,if_false] at hv
   exact hz p v hv
 ·obtain ⟨p,v,hv,rfl⟩:=hk
  by_cases hq:p.block=g∧p.spot=none
  ·exact .inl (by rw [hq.1]; rfl)
  ·simp only [Z',hq,if_false] at hv
   exact .inr ⟨p,v,hv,rfl⟩
 ·have hi':i<cs.length:=by omega
  have hel:=(segsL_ok xs cs c5).1 c6 _ hi hi'
  refine ⟨⟨g,0,none⟩,cs[i],rfl,hT _ _ _ _ hel,fun j v hv=>?_⟩
  have hj:j<T.size:=by
   have:=(List.getElem?_eq_some_iff.1 hv).1
   rwa [len_cellsOf hel,T.len] at this
  have h2:=segsL_cell xs cs c5 c6 i hi hi' j hj
  rw [hv, ← c7] at h2
  have hb:i*T.size+j<k*T.size:=by
   have h3:(i+1)*T.size≤k*T.size:=Nat.mul_le_mul_right _ (by omega)
   rw [Nat.add_mul] at h3
   omega
  rw [List.getElem?_take_of_lt hb] at h2
  have ha:(⟨g,0,none⟩:Addr).add (i*T.size+j)=⟨g,i*T.size+j,none⟩:=by unfold Addr.add; split <;> simp_all
  rw [ha]
  simpa [Z'] using h2
theorem St.zup {α:Type}(S:St n m w0 l H a w){ee:TypeId}{A:Option Addr}{k cap:Nat}{T:Ty α}{xs:List α}{Z Z':Mem}{H':List Res}(hf:Foc H (Res.row (Ty.atZ Z T) ee A k cap xs) (Res.row (Ty.atZ Z' T) ee A k cap xs) H')(hle:LeM Z Z'):St n m w0 l H' a w:=by
 obtain ⟨h0,cs,c1,c2,c3⟩:=S.holds _ hf.mem
 have e:=segsL_atZ Z T xs cs
 have e':=segsL_atZ Z' T xs cs
 refine S.same hf ⟨h0,cs,c1,?_,?_⟩ (fun k hk=> .inl hk)
 ·rw [e'] ; rw [e] at c2
  exact (okS_atZ _ _ _).2 (okS_mono hle ((okS_atZ _ _ _).1 c2))
 ·show w.ownsRow 0 ee T.size _ k (cellsOf (segsL (Ty.atZ Z' T) xs cs))
  rw [e',cellsOf_atZ]
  have c3':w.ownsRow 0 ee T.size (.slice A k cap) k (cellsOf (segsL (Ty.atZ Z T) xs cs)):=c3
  rw [e,cellsOf_atZ] at c3'
  exact c3'
theorem okz_of {α:Type}{T:Ty α}{A:Option Addr}{xs:List α}{Z:Mem}{k cap:Nat}(h:RdS T A xs Z∧xs.length=k∧k≤cap∧cap≤maxLen)(m:Mem):(Seg.sl A xs.length cap (atR Z (RdS T A xs))).ok m :=
 ⟨by omega,h.2.2.2,⟨h.1,RdS.mono _ _ _⟩,atR.mono _ _⟩
theorem okz_up {A:Option Addr}{n' cap:Nat}{R:Mem→Prop}{Z Z':Mem}(hle:LeM Z Z'){m:Mem}(h:(Seg.sl A n' cap (atR Z R)).ok m):(Seg.sl A n' cap (atR Z' R)).ok m :=
 ⟨h.1,h.2.1,⟨h.2.2.1.2 _ _ hle h.2.2.1.1,h.2.2.1.2⟩,atR.mono _ _⟩
theorem okz_nil {α:Type}{T:Ty α}{Z m:Mem}:(Seg.sl none ([]:List α).length 0 (atR Z (RdS T none []))).ok m :=
 ⟨Nat.le_refl _,Nat.zero_le _,⟨RdS.nil _ _ _,RdS.mono _ _ _⟩,atR.mono _ _⟩
theorem RdS.ofZ {α:Type}{T:Ty α}{A:Option Addr}{xs:List α}{Z m mm:Mem}(h:RdS (Ty.atZ Z T) A xs m)(h1:LeM m mm)(h2:LeM Z mm):RdS T A xs mm:=fun i hi=>by
 obtain ⟨ad,c,e1,e2,e3⟩:=h i hi
 refine ⟨ad,c,e1,okS_mono h2 ((okS_atZ Z m _).1 e2),fun j v hv=>h1 _ _ (e3 j v ?_)⟩
 show (cellsOf ((T.segs xs[i] c).map (Seg.atZ Z)))[j]?=some v
 rw [cellsOf_atZ]
 exact hv
theorem St.zfro' {α:Type}(S:St n m w0 l H a w){ee:TypeId}{A:Option Addr}{k cap:Nat}{T:Ty α}{xs:List α}{Z:Mem}{H1 H2:List Res}(hp:Pull H (Res.priv Z) H1)(hr:Pull H1 (Res.row (Ty.atZ Z T) ee A k cap xs) H2) :
  ∃ m',LeM m m'∧LeM Z m'∧St n m' w0 l H2 a w∧RdS T A xs m'∧xs.length=k∧k≤cap∧cap≤maxLen:=by
 have hz:=S.holds _ hp.mem.1
 have hap:=hp.apart S.apart
 let m':Mem:=fun p=>match Z p with | some v=>some v | none=>m p
 have hdis:∀ p v u,m p=some v→Z p=some u→False:=fun p v u hv hu=>S.frzH _ hp.mem.1 p v hv ⟨p,u,hu,rfl⟩
 have hle:LeM m m':=fun p v hv=>by
  cases hq:Z p with
  | none=>simp only [m',hq]; exact hv
  | some u=>exact (hdis p v u hv hq).elim
 have hZ:LeM Z m':=fun p v hv=>by simp only [m',hv]
 have hfr:∀ p v,m' p=some v→m p=some v∨Z p=some v:=fun p v hv=>by
  cases hq:Z p with
  | none=>simp only [m',hq] at hv; exact .inl hv
  | some u=>simp only [m',hq] at hv; exact .inr hv
 have S1:St n m' w0 l H1 a w:=by
  refine ⟨S.size,S.defers,fun t d h=>⟨(S.get t d h).1,D.ok_mono hle (S.get t d h).2⟩,S.below,S.le.trans hle,fun p v hv=>?_,fun r h=>r.mono m m' w hle (S.holds r (hp.mem.2 r h)),fun r h=>S.base r (hp.mem.2 r h),hap.2,fun p v hv=>?_,fun r h p v hv hb=>?_⟩
  ·rcases hfr p v hv with h | h
   ·exact S.fresh p v h
   ·exact .inr (S.base _ hp.mem.1 _ ⟨p,v,h,rfl⟩)
  ·rcases hfr p v hv with h | h
   ·exact S.frz p v h
   ·exact Res.priv.cell hz h
  ·rcases hfr p v hv with h' | h'
   ·exact S.frzH r (hp.mem.2 r h) p v h' hb
   ·exact hap.1 r h _ ⟨p,v,h',rfl⟩ hb
 obtain ⟨m2,l2,S2,r2,f1,f2,f3⟩:=S1.rowfro hr
 exact ⟨m2,hle.trans l2,hZ.trans l2,S2,RdS.ofZ r2 (LeM.refl m2) (hZ.trans l2),f1,f2,f3⟩
theorem St.zlend {α:Type}(S:St n m w0 l H a w){ee:TypeId}{A:Option Addr}{k cap:Nat}{T:Ty α}{xs:List α}{Z:Mem}{H1 H2:List Res}(hp:Pull H (Res.priv Z) H1)(hr:Pull H1 (Res.row (Ty.atZ Z T) ee A k cap xs) H2) :
  ∃ mm,LeM m mm∧LeM Z mm∧Frz mm w∧(RdS T A xs mm∧xs.length=k)∧k≤cap∧cap≤maxLen:=by
 obtain ⟨m',h1,hZ,S',h2,h3,h4⟩:=S.zfro' hp hr
 exact ⟨m',h1,hZ,S'.frz,⟨h2,h3⟩,h4⟩
theorem okz_lend {A:Option Addr}{n' cap:Nat}{R:Mem→Prop}{Z m:Mem}(hle:LeM Z m)(h:(Seg.sl A n' cap (atR Z R)).ok m):(Seg.sl A n' cap R).ok m :=
 ⟨h.1,h.2.1,h.2.2.1.2 _ _ hle h.2.2.1.1,h.2.2.1.2⟩
theorem St.plend (S:St n m w0 l H a w){Z:Mem}{H1:List Res}(hp:Pull H (Res.priv Z) H1):∃ mm,LeM m mm∧LeM Z mm∧Frz mm w:=by
 have hz:=S.holds _ hp.mem.1
 refine ⟨fun p=>match Z p with | some v=>some v | none=>m p,fun p v hv=>?_,fun p v hv=>by simp only [hv],fun p v hv=>?_⟩
 ·cases hq:Z p with
  | none=>simp only [hq]; exact hv
  | some u=>exact (S.frzH _ hp.mem.1 p v hv ⟨p,u,hq,rfl⟩).elim
 ·cases hq:Z p with
  | none=>simp only [hq] at hv; exact S.frz p v hv
  | some u=>simp only [hq] at hv; exact Res.priv.cell hz (hq.trans hv)
theorem St.zmerge (S:St n m w0 l H a w){Z1 Z2:Mem}{H1:List Res}{H':Mem→List Res}(hp:Pull H (Res.priv Z2) H1)(hf:∀ Z',Foc H1 (Res.priv Z1) (Res.priv Z') (H' Z')):∃ Z',LeM Z1 Z'∧LeM Z2 Z'∧St n m w0 l (H' Z') a w:=by
 have h2:=S.holds _ hp.mem.1
 have h1:=S.holds _ (hp.mem.2 _ (hf m0).mem)
 have hdis:∀ p u v,Z1 p=some u→Z2 p=some v→False:=fun p u v hu hv=>(hp.apart S.apart).1 _ (hf m0).mem p.block ⟨p,v,hv,rfl⟩ ⟨p,u,hu,rfl⟩
 let Z':Mem:=fun p=>match Z1 p with | some v=>some v | none=>Z2 p
 have hof:∀ p v,Z' p=some v→Z1 p=some v∨Z2 p=some v:=fun p v hv=>by
  cases hq:Z1 p with
  | none=>simp only [Z',hq] at hv; exact .inr hv
  | some u=>simp only [Z',hq] at hv; exact .inl hv
 refine ⟨Z',fun p v hv=>by simp only [Z',hv],fun p v hv=>?_,S.into hp (hf Z') (fun p v hv=>?_) (fun k hk=>?_)⟩
 ·cases hq:Z1 p with
  | none=>simp only [Z',hq]; exact hv
  | some u=>exact (hdis p u v hq hv).elim
 ·rcases hof p v hv with h | h
  ·exact h1 p v h
  ·exact h2 p v h
 ·obtain ⟨p,v,hv,rfl⟩:=hk
  rcases hof p v hv with h | h
  ·exact .inr ⟨p,v,h,rfl⟩
  ·exact .inl ⟨p,v,h,rfl⟩
theorem St.zjunk (S:St n m w0 l H a w){Z:Mem}{H':List Res}(hf:Foc H (Res.priv Z) (Res.junk Z) H'):St n m w0 l H' a w :=
 S.same hf (fun p v hv=>by
  obtain ⟨h1,cur,t,h2,h3⟩:=S.holds _ hf.mem p v hv
  exact ⟨h1,cur,t,h2,(Array.getElem?_eq_some_iff.1 h3).1⟩) (fun k hk=> .inl hk)
variable {ops:Array Oper} {Q:Exit→Act→World→Prop} {rest:List Oper} {ty:TypeId} {ps:String} {af:Array Edge} {t:Nat}
theorem s_callL {Ch:Type}(S:St n m w0 l H a w){f:FuncId}{cl:Operand}{xs:List Operand}{ts:Array TypeId}{ds' ds:List D}(d:Ch→D)(hd:∀ c m m',(d c).ok m→(d c).ok m')(hL:∃ mm,LeM m mm∧Frz mm w∧(okL mm ds'→okL mm ds))(hf:Fn_ P f)(hx:evos l xs=some ds')(hv:ds'.map D.val=ds.map D.val)(ht:Nat.blt t n=true)
  (hc:∀ mm,okL mm ds→Pre mm [] w→Calls P f (ds.map D.val).toArray w (RetX mm [] d (fun _=>[]) w))
  (K:∀ c a' w',St n m w0 ((t,d c)::l) H a' w'→wpList P ops Q rest a' w') (hcl:evo l cl=some (.v (.func (.func f) #[] #[])):=by rfl):wpList P ops Q (⟨some t, .call ⟨.value cl,xs.toArray,ts⟩,ty,ps,af,none⟩::rest) a w :=
 wpList_plain rfl fun K' hK=>by
  obtain ⟨mm,h1,h2,h3⟩:=hL
  unfold Oper.wp
  rw [run_callO hf a.eval _ cl xs ts rfl (S.evo hcl),(S.evos hx).1,Oper.upon_enter,hv]
  refine (hc mm (h3 (okL_all.2 fun d hd=>D.ok_mono h1 ((S.evos hx).2 d hd))) (Pre.nil h2)).mono fun e w' ⟨c,m',he,hdk,hp⟩=>?_
  subst he
  have hb:=hp.below.below'
  exact hK _ _ (K c _ _ ((S.world ⟨hb.os,hb.tape,hb.output,hb.size,fun k hk _=>hb.block k hk⟩).put ht (hd c m' m hdk)))
def flatHo:List Res→Prop
 | []=>True
 | r::l=>(∀ (m m':Mem) (w:World),r.holds m w→r.holds m' w)∧flatHo l
theorem flatHo.mem:∀ {l:List Res},flatHo l→∀ r∈l,∀ (m m':Mem) (w:World),r.holds m w→r.holds m' w
 | [],_,r,hr=>by cases hr
 | x::l,h,r,hr=>by
  rcases List.mem_cons.1 hr with rfl | hr
  ·exact h.1
  ·exact flatHo.mem h.2 r hr
theorem zeroCells_plain {z:Array Value}(h:z.toList.all plain=true)(hz:0<z.size)(k:Nat):∀ v∈(Builtin.zeroCells z k).toList,plain v=true:=by
 intro v hv
 simp only [Builtin.zeroCells,Array.toList_map,List.mem_map] at hv
 obtain ⟨i, -,rfl⟩:=hv
 have hi:i % z.size<z.size:=Nat.mod_lt _ hz
 rw [getElem!_pos z _ hi]
 exact List.all_eq_true.1 h _ (by simp)
theorem run_clearZ {α:Type}{T:Ty α}{A:Option Addr}{k cap:Nat}{xs:List α}{Z:Mem}{e et:TypeId}{zv:Value}(hu:P.underlying e=some (.slice et))(hz:zeroI P et=some zv)(hzp:zv.cells.toList.all plain=true)(hzs:zv.cells.size=T.size)(hT:0<T.size)(hok:(D.sl A k cap (atR Z (RdS T A xs))).ok m)(hl:xs.length=k)(hj:(Res.junk Z).holds m w) :
  ∃ w',(Builtin.clear_ #[e] ty #[.slice A k cap]).run P w = .ok (.tuple #[]) w'∧(Res.junk Z).holds m w'∧Bel (Res.junk Z).blk w w':=by
 have hrd:RdS T A xs Z:=hok.2.2.1.1
 rcases Nat.eq_zero_or_pos k with h0 | h0
 ·refine ⟨w,?_,hj,Bel.refl _ _⟩
  subst h0
  cases A <;> simp [Builtin.clear_,run_underlying hu]
 ·obtain ⟨ad,c,rfl,c1,c2⟩:=hrd 0 (by omega)
  have hcl:∀ i (hi:i<xs.length) (j:Nat),j<T.size→∃ v,Z (ad.add (i*T.size+j))=some v:=fun i hi j hj=>by
   obtain ⟨ad',c',e1,e2,e3⟩:=hrd i hi
   obtain rfl:=sI e1
   have hlen:(cellsOf (T.segs xs[i] c')).length=T.size:=by rw [len_cellsOf e2,T.len]
   exact ⟨_,e3 j _ (List.getElem?_eq_getElem (by omega))⟩
  have hall:∀ q,q<k*T.size→∃ v,Z (ad.add q)=some v:=fun q hq=>by
   have hi:q / T.size<xs.length:=Nat.div_lt_of_lt_mul (by rw [hl,Nat.mul_comm]; exact hq)
   obtain ⟨v,hv⟩:=hcl _ hi (q % T.size) (Nat.mod_lt _ hT)
   rw [Nat.mul_comm,Nat.div_add_mod] at hv
   exact ⟨v,hv⟩
  have hpos:0<k*T.size:=Nat.mul_pos h0 hT
  obtain ⟨v0,hv0⟩:=hall 0 hpos
  obtain ⟨hs0,cur,tt,hb0,ho0⟩:=hj _ _ hv0
  have hsp:ad.spot=none:=by simpa [Addr.add] using hs0
  obtain ⟨g,o,sp⟩:=ad
  obtain rfl:sp=none:=hsp
  have hadd:∀ q,(⟨g,o,none⟩:Addr).add q=⟨g,o+q,none⟩:=fun q=>by unfold Addr.add; split <;> simp_all
  have hb1:w.heap[g]?=some (.cells cur tt (0,0)):=by simpa [hadd] using hb0
  have hlast:o+k*T.size≤cur.size:=by
   obtain ⟨v1,hv1⟩:=hall (k*T.size - 1) (by omega)
   obtain ⟨_,cur',tt',hb',ho'⟩:=hj _ _ hv1
   rw [hadd] at hb' ho'
   have hb2:w.heap[g]?=some (.cells cur' tt' (0,0)):=hb'
   rw [hb1] at hb2
   obtain ⟨rfl, -, -⟩:=Obj.cells.inj (sI hb2)
   have:o+(k*T.size - 1)<cur.size:=ho'
   omega
  have hvl:(Builtin.zeroCells zv.cells k).toList.length=k*T.size:=by simp [Builtin.zeroCells,hzs]
  obtain ⟨w',r1,r2,r3⟩:=run_storeCells (P:=P) g tt (fun _=>True) (Builtin.zeroCells zv.cells k).toList o 0 w cur.toList (by simpa using hb1) (by rw [hvl]; simpa using hlast) (zeroCells_plain hzp (by omega) k)
  have hblk:(Res.junk Z).blk g:=⟨_,_,hv0,by rw [hadd]⟩
  refine ⟨w',?_,fun p v hv=>?_,⟨r3.os,r3.tape,r3.output,r3.size,fun i hi hn=>r3.block i hi (fun e=>hn (by cases e; exact hblk))⟩⟩
  ·obtain ⟨k',rfl⟩:∃ k',k=k'+1:=⟨k - 1,by omega⟩
   simp only [Builtin.clear_,List.getElem?_toArray,List.getElem?_cons_zero,Sem.run_bind,run_underlying hu,Result.andThen_ok,run_zeroI hz,r1,Sem.run_pure]
  ·obtain ⟨h1,cur',t',h2,h3⟩:=hj p v hv
   refine ⟨h1,?_⟩
   by_cases hpg:p.block=g
   ·rw [hpg,hb1] at h2
    obtain ⟨rfl, -, -⟩:=Obj.cells.inj (sI h2)
    refine ⟨_,tt,by rw [hpg]; exact r2,?_⟩
    simp only [List.size_toArray,List.length_append,List.length_take,List.length_drop,hvl,Array.length_toList]
    omega
   ·exact ⟨cur',t',(r3.block _ (Array.getElem?_eq_some_iff.1 h2).1 (fun e=>hpg (sI e))).trans h2,h3⟩
theorem s_clearZn {α:Type}(S:St n m w0 l H a w){T:Ty α}{x:Operand}{A:Option Addr}{k cap:Nat}{xs:List α}{Z:Mem}{e et:TypeId}{zv:Value}(hx:evo l x=some (.sl A k cap (atR Z (RdS T A xs))))(hl:xs.length=k)(hf:Foc H (Res.junk Z) (Res.junk Z) H)(hu:P.underlying e=some (.slice et))(hz:zeroI P et=some zv)(hzp:zv.cells.toList.all plain=true)(hzs:zv.cells.size=T.size)(hT:0<T.size)
  (K:∀ w',St n m w0 l H a w'→wpList P ops Q rest a w'):wpList P ops Q (⟨none, .call ⟨.builtin .clear, #[x], #[e]⟩,ty,ps,af,none⟩::rest) a w:=by
 obtain ⟨w',r1,r2,r3⟩:=run_clearZ (P:=P) (ty:=ty) hu hz hzp hzs hT (evo_ok S hx) hl (S.holds _ hf.mem)
 have hx':a.eval x = .slice A k cap:=S.evo hx
 refine wpList_plain rfl fun K' hK'=>?_
 have hrun:(execOp a.eval ⟨none, .call ⟨.builtin .clear, #[x], #[e]⟩,ty,ps,af,none⟩).run P w = .ok (.value (.tuple #[])) w':=by
  simp only [execOp,resolve,Sem.run_bind,Sem.run_pure,Result.andThen_ok]
  simp [invoke,builtin,hx',r1]
 unfold Oper.wp
 rw [hrun]
 exact hK' _ _ (K _ (S.turnB hf r3 r2 (fun k hk=> .inl hk)))
theorem run_clearO {α:Type}{T:Ty α}{A:Option Addr}{k cap:Nat}{xs:List α}{z:α}{c0:T.Ch}{e et:TypeId}{zv:Value}(hu:P.underlying e=some (.slice et))(hz:zeroI P et=some zv)(hzc:zv.cells.toList=cellsOf (T.segs z c0))(hzok:okS m (T.segs z c0))(hT:0<T.size)(hr:(Res.row T et A k cap xs).holds m w) :
  ∃ w',(Builtin.clear_ #[e] ty #[.slice A k cap]).run P w = .ok (.tuple #[]) w'∧(Res.row T et A k cap (List.replicate k z)).holds m w'∧w.grownBy w' (A.map (·.block)):=by
 obtain ⟨h0,cs,h1,h2,h3,h4⟩:=hr
 have hzs:zv.cells.size=T.size:=by
  have:zv.cells.toList.length=T.size:=by rw [hzc,len_cellsOf hzok,T.len]
  simpa using this
 have hmade:(Builtin.zeroCells zv.cells k).toList=cellsOf (segsL T (List.replicate k z) (List.replicate k c0)):=by
  rw [← made_cells hzok hzc hzs hT k]
  simp only [Builtin.zeroCells,madeCells,hzs]
 have hvl:(Builtin.zeroCells zv.cells k).toList.length=k*T.size:=by simp [Builtin.zeroCells,hzs]
 rcases h4 with ⟨e1,e2⟩ | ⟨g,cp,cur,e1,e2,e3,e4,e5,e6,e7⟩
 ·obtain ⟨rfl,rfl,rfl⟩:=Value.slice.inj e1
  refine ⟨w,?_,⟨rfl,[],rfl,tv,World.ownsRow_nil w 0 et _⟩,World.grownBy.refl w _⟩
  simp [Builtin.clear_,run_underlying hu]
 ·obtain ⟨rfl, -,rfl⟩:=Value.slice.inj e1
  rcases Nat.eq_zero_or_pos k with hk | hk
  ·subst hk
   refine ⟨w,?_,⟨rfl,[],rfl,tv,⟨by simp [segsL,cellsOf], .inr ⟨g,_,cur,rfl,e2,e3,e4,e5,e6,by simp [segsL,cellsOf]⟩⟩⟩,World.grownBy.refl w _⟩
   simp [Builtin.clear_,run_underlying hu]
  ·have hfit:k*T.size≤cur.toList.length:=by
    have:=Nat.mul_le_mul_right T.size e4
    simp only [Array.length_toList]
    omega
   obtain ⟨w',r1,r2,r3⟩:=run_storeCells (P:=P) g et (fun _=>True) (Builtin.zeroCells zv.cells k).toList 0 0 w cur.toList (by simpa using e3) (by rw [hvl]; simpa using hfit) (fun v hv=>by rw [hmade] at hv; exact plain_cells (m:=m) (rep_ok (m:=m) hzok k) v hv)
   refine ⟨w',?_,⟨by simp,List.replicate k c0,by simp,rep_ok hzok k,⟨?_, .inr ⟨g,_,_,rfl,e2,r2,e4,e5,?_,?_⟩⟩⟩,r3⟩
   ·obtain ⟨k',rfl⟩:∃ k',k=k'+1:=⟨k - 1,by omega⟩
    simp only [Builtin.clear_,List.getElem?_toArray,List.getElem?_cons_zero,Sem.run_bind,run_underlying hu,Result.andThen_ok,run_zeroI hz,r1,Sem.run_pure]
   ·rw [← hmade,hvl]
   ·simp only [Nat.zero_add,List.take_zero,List.nil_append,List.size_toArray,List.length_append,List.length_drop,hvl,Array.length_toList]
    simp only [Array.length_toList] at hfit
    omega
   ·rw [← hmade]
    simp only [Nat.zero_add,List.take_zero,List.nil_append]
    rw [← hvl,List.take_left]
theorem s_clearOn {α:Type}(S:St n m w0 l H a w){T:Ty α}{x:Operand}{A:Option Addr}{k cap:Nat}{xs:List α}{z:α}{c0:T.Ch}{e et:TypeId}{zv:Value}{H':List Res}(hx:evo l x=some (.v (.slice A k cap)))(hf:Foc H (Res.row T et A k cap xs) (Res.row T et A k cap (List.replicate k z)) H')(hu:P.underlying e=some (.slice et))(hz:zeroI P et=some zv)(hzc:zv.cells.toList=cellsOf (T.segs z c0))(hzok:okS m (T.segs z c0))(hT:0<T.size)
  (K:∀ w',St n m w0 l H' a w'→wpList P ops Q rest a w'):wpList P ops Q (⟨none, .call ⟨.builtin .clear, #[x], #[e]⟩,ty,ps,af,none⟩::rest) a w:=by
 obtain ⟨w',r1,r2,r3⟩:=run_clearO (P:=P) (ty:=ty) hu hz hzc hzok hT (S.holds _ hf.mem)
 have hx':a.eval x = .slice A k cap:=S.evo hx
 refine wpList_plain rfl fun K' hK'=>?_
 have hrun:(execOp a.eval ⟨none, .call ⟨.builtin .clear, #[x], #[e]⟩,ty,ps,af,none⟩).run P w = .ok (.value (.tuple #[])) w':=by
  simp only [execOp,resolve,Sem.run_bind,Sem.run_pure,Result.andThen_ok]
  simp [invoke,builtin,hx',r1]
 unfold Oper.wp
 rw [hrun]
 exact hK' _ _ (K _ (S.turn hf r3 r2 (fun k hk=> .inl hk)))
end
end GW
