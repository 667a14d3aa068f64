import Derived.Test.YtdajnflppnlhiaaGreatG0
import Derived.Test.YtdajnflppnlhiaaGreatGWPlain
import Derived.Sort.LotA
import Derived.Sort.Defs
import Derived.Laws.Bits64b
import Derived.Sort.LotB
import Derived.Sort.LotC
import Derived.Sort.LotD3
set_option linter.unusedVariables false
set_option linter.unusedSimpArgs false
set_option maxRecDepth 100000
set_option linter.unusedSectionVars false
namespace GW
open Go Go.RowKit
def SmallA (a:L71):Prop:=a.2.2.2.1.length≤3000∧a.2.2.2.2.length≤100
theorem great_loop (l:List L71)(hl:l.length≤50):∀ (r q i:Nat),i+r=l.length→r<q→ff1_.l1 l q (i:Int)=some true∨(ff1_.l1 l q (i:Int)=some false∧∀ a∈l.drop i,SmallA a)
 | 0,q,i,hi,hq=>by
  obtain ⟨q,rfl⟩:∃ m,q=m+1:=⟨q - 1,by omega⟩
  refine .inr ⟨?_,fun a ha=>by rw [List.drop_eq_nil_of_le (by omega)] at ha; cases ha⟩
  show ff1_.b1 _ _ _=_
  unfold ff1_.b1
  rw [iN (by simp; omega)]; rfl
 | r+1,q,i,hi,hq=>by
  obtain ⟨q,rfl⟩:∃ m,q=m+1:=⟨q - 1,by omega⟩
  have hw:wr .i64 ((i:Int)+1)=((i+1:Nat):Int):=by rw [wr_i64_id (by omega) (by omega)]; omega
  have e1:ff1_.l1 l (q+1) (i:Int)=ff1_.b1 l (ff1_.l1 l q) (i:Int):=rfl
  rw [e1]
  unfold ff1_.b1
  rw [iP (by simp; omega),iP (by omega)]
  by_cases c1:(3000:Int)<((gt l (i:Int)).2.2.2.1.length:Int)
  ·rw [iP (dT c1)]; exact .inl rfl
  ·rw [iN (by simpa using c1)]
   unfold ff1_.j2
   by_cases c2:(100:Int)<((gt l (i:Int)).2.2.2.2.length:Int)
   ·rw [dT c2]; exact .inl rfl
   ·rw [dF c2,iN (by simp),hw]
    rcases great_loop l hl r q (i+1) (by omega) (by omega) with h | ⟨h,h2⟩
    ·exact .inl h
    ·refine .inr ⟨h,fun a ha=>?_⟩
     rw [List.drop_eq_getElem_cons (by omega)] at ha
     rcases List.mem_cons.1 ha with rfl | ha
     ·have:gt l (i:Int)=l[i]:=by unfold gt; rw [Int.toNat_natCast,List.getD_eq_getElem?_getD,List.getElem?_eq_getElem (by omega)]; rfl
      rw [this] at c1 c2
      exact ⟨by omega,by omega⟩
     ·exact h2 a ha
theorem great13 (l:List L71)(k:Nat)(hk:51<k):ff1_.f k l=some true∨(ff1_.f k l=some false∧l.length≤50∧∀ a∈l,SmallA a):=by
 unfold ff1_.f
 by_cases c:(50:Int)<(l.length:Int)
 ·rw [iP (dT c)]; exact .inl rfl
 ·rw [iN (by simpa using c)]
  rcases great_loop l (by omega) l.length k 0 (by omega) (by omega) with h | ⟨h,h2⟩
  ·exact .inl h
  ·exact .inr ⟨h,by omega,by simpa using h2⟩
def findA:List L71→List Int→Option L71
 | [],_=>none
 | x::l,a=>if x.1=a then some x else findA l a
theorem findA_mem {l:List L71}{a:List Int}{x:L71}(h:findA l a=some x):x∈l∧x.1=a:=by
 induction l with
 | nil=>cases h
 | cons y l ih =>
  unfold findA at h
  by_cases c:y.1=a
  ·rw [iP c] at h; obtain rfl:=sI h; exact ⟨List.mem_cons_self,c⟩
  ·rw [iN c] at h; exact ⟨List.mem_cons_of_mem _ (ih h).1,(ih h).2⟩
theorem gt_dropA {α:Type} [Inhabited α] {xs:List α}{i:Nat}{x:α}{l:List α}(h:xs.drop i=x::l):gt xs (i:Int)=x∧i<xs.length∧xs.drop (i+1)=l:=by
 have hi:i<xs.length:=by
  refine Decidable.byContradiction fun c=>?_
  rw [List.drop_eq_nil_of_le (by omega)] at h
  cases h
 rw [List.drop_eq_getElem_cons hi] at h
 simp only [List.cons.injEq] at h
 refine ⟨?_,hi,h.2⟩
 unfold gt
 rw [Int.toNat_natCast,List.getD_eq_getElem?_getD,List.getElem?_eq_getElem hi]
 exact h.1
theorem next1 (i:Nat)(h:i<4611686018427387904):wr .i64 ((i:Int)+1)=((i+1:Nat):Int):=by rw [wr_i64_id (by omega) (by omega)]; omega
def Ad (a:List Int):Prop:=a.length=20∧∀ y∈a,inK .u8 y
theorem cb_lt:∀ a b:List UInt8,Lib.compareBytes a b<0↔a<b
 | [],[]=>by simp [Lib.compareBytes]
 | [],_::_=>by simp [Lib.compareBytes]
 | _::_,[]=>by simp [Lib.compareBytes]
 | a::u,b::v=>by
  have ih:=cb_lt u v
  show (if a<b then (-1:Int) else if b<a then 1 else Lib.compareBytes u v)<0↔_
  rw [List.cons_lt_cons_iff]
  by_cases c1:a<b
  ·simp [c1]
  ·rw [iN c1]
   by_cases c2:b<a
   ·rw [iP c2]
    have:a≠b:=fun e=>by subst e; exact c1 c2
    simp [c1,this]
   ·rw [iN c2,ih]
    have:a=b:=UInt8.le_antisymm (UInt8.not_lt.1 c2) (UInt8.not_lt.1 c1)
    simp [this,UInt8.lt_irrefl]
def akey (a:List Int):List UInt8:=u8s ((a.drop 0).take 20)
theorem akey_eq {a:List Int}(h:Ad a):akey a=u8s a:=by
 unfold akey
 rw [List.drop_zero,List.take_of_length_le (by rw [h.1]; omega)]
theorem u8_ltI {x y:Int}(hx:0≤x∧x<256)(hy:0≤y∧y<256):(UInt8.ofNat x.toNat<UInt8.ofNat y.toNat)↔x<y:=by
 rw [UInt8.lt_iff_toNat_lt,UInt8.toNat_ofNat',UInt8.toNat_ofNat',Nat.mod_eq_of_lt (by omega),Nat.mod_eq_of_lt (by omega)]
 omega
theorem u8_injI {x y:Int}(hx:0≤x∧x<256)(hy:0≤y∧y<256)(h:UInt8.ofNat x.toNat=UInt8.ofNat y.toNat):x=y:=by
 have:=congrArg UInt8.toNat h
 rw [UInt8.toNat_ofNat',UInt8.toNat_ofNat',Nat.mod_eq_of_lt (by omega),Nat.mod_eq_of_lt (by omega)] at this
 omega
theorem u8s_inj:∀ {a b:List Int},(∀ y∈a,inK .u8 y)→(∀ y∈b,inK .u8 y)→u8s a=u8s b→a=b
 | [],[],_,_,_=>rfl
 | [],_::_,_,_,h=>by simp [u8s] at h
 | _::_,[],_,_,h=>by simp [u8s] at h
 | x::a,y::b,ha,hb,h=>by
  have h1:UInt8.ofNat x.toNat::u8s a=UInt8.ofNat y.toNat::u8s b:=h
  simp only [List.cons.injEq] at h1
  rw [u8_injI (inK_u8 (ha x (by simp))) (inK_u8 (hb y (by simp))) h1.1,u8s_inj (fun z hz=>ha z (by simp [hz])) (fun z hz=>hb z (by simp [hz])) h1.2]
theorem akey_inj {a b:List Int}(ha:Ad a)(hb:Ad b)(h:akey a=akey b):a=b:=by
 rw [akey_eq ha,akey_eq hb] at h
 exact u8s_inj ha.2 hb.2 h
theorem less_loopA (a b:List Int)(ha:Ad a)(hb:Ad b):∀ (d q i:Nat),d<q→i+d=20→fg4_.l1 a b q (i:Int)=some (decide (u8s (a.drop i)<u8s (b.drop i))):=by
 intro d
 induction d with
 | zero =>
  intro q i hq hi
  obtain ⟨q,rfl⟩:∃ m,q=m+1:=⟨q - 1,by omega⟩
  show fg4_.b1 a b _ _=_
  unfold fg4_.b1 fg4_.j1
  rw [iN (by simp; omega),List.drop_of_length_le (by rw [ha.1]; omega),List.drop_of_length_le (by rw [hb.1]; omega)]
  simp [u8s]
 | succ d ih =>
  intro q i hq hi
  obtain ⟨q,rfl⟩:∃ m,q=m+1:=⟨q - 1,by omega⟩
  have la:=ha.1
  have lb:=hb.1
  show fg4_.b1 a b _ _=_
  unfold fg4_.b1
  have e1:rd a (i:Int)=a[i]'(by omega):=by simp [rd,List.getD_eq_getElem?_getD,List.getElem?_eq_getElem (show i<a.length by omega)]
  have e2:rd b (i:Int)=b[i]'(by omega):=by simp [rd,List.getD_eq_getElem?_getD,List.getElem?_eq_getElem (show i<b.length by omega)]
  have r1:=inK_u8 (ha.2 (a[i]'(by omega)) (List.getElem_mem _))
  have r2:=inK_u8 (hb.2 (b[i]'(by omega)) (List.getElem_mem _))
  rw [iP (by simp; omega),iP ⟨by omega,by omega⟩,wr_i64_id (by omega) (by omega),e1,e2,List.drop_eq_getElem_cons (show i<a.length by omega),List.drop_eq_getElem_cons (show i<b.length by omega)]
  have hih:=ih q (i+1) (by omega) (by omega)
  rw [show ((i+1:Nat):Int)=(i:Int)+1 by omega] at hih
  generalize a[i]'(by omega)=x at r1 ⊢
  generalize b[i]'(by omega)=y at r2 ⊢
  have hl:=u8_ltI r1 r2
  have hc:(u8s (x::a.drop (i+1))<u8s (y::b.drop (i+1)))↔UInt8.ofNat x.toNat<UInt8.ofNat y.toNat∨UInt8.ofNat x.toNat=UInt8.ofNat y.toNat∧u8s (a.drop (i+1))<u8s (b.drop (i+1)):=List.cons_lt_cons_iff
  by_cases c:x=y
  ·subst c
   rw [iN (by simp),hih]
   have h1:¬ UInt8.ofNat x.toNat<UInt8.ofNat x.toNat:=UInt8.lt_irrefl _
   simp only [hc,h1,false_or,true_and]
  ·rw [iP (by simpa using c)]
   have h1:UInt8.ofNat x.toNat≠UInt8.ofNat y.toNat:=fun e=>c (u8_injI r1 r2 e)
   simp only [hc,h1,false_and,or_false,hl]
theorem less_eqA {a b:List Int}(ha:Ad a)(hb:Ad b){k:Nat}(hk:30<k):fg4_.f k a b=some (decide (akey a<akey b)):=by
 rw [akey_eq ha,akey_eq hb]
 exact less_loopA a b ha hb 20 k 0 (by omega) (by omega)
section
variable {α β:Type} [DecidableEq α]
theorem aget_aput (kvs:List (α×β))(x:α)(y:β)(k:α):aget (aput kvs x y) k=if k=x then some y else aget kvs k:=by
 induction kvs with
 | nil=>rfl
 | cons p r ih =>
  obtain ⟨q,v⟩:=p
  unfold aput
  by_cases c:x=q
  ·rw [iP c]
   subst c
   show (if k=x then some y else aget r k)=if k=x then some y else if k=x then some v else aget r k
   by_cases c2:k=x
   ·rw [iP c2,iP c2]
   ·rw [iN c2,iN c2,iN c2]
  ·rw [iN c]
   show (if k=q then some v else aget (aput r x y) k)=if k=x then some y else if k=q then some v else aget r k
   rw [ih]
   by_cases c2:k=q
   ·rw [iP c2,iP c2,iN (fun e:k=x=>c (e.symm.trans c2))]
   ·rw [iN c2,iN c2]
theorem aget_adel (kvs:List (α×β))(x:α)(k:α):aget (adel kvs x) k=if k=x then none else aget kvs k:=by
 induction kvs with
 | nil=>show none=if k=x then none else none; split <;> rfl
 | cons p r ih =>
  obtain ⟨q,v⟩:=p
  by_cases c:q=x
  ·have h1:adel ((q,v)::r) x=adel r x:=by simp [adel,c]
   rw [h1,ih]
   show _=if k=x then none else if k=q then some v else aget r k
   by_cases c2:k=x
   ·rw [iP c2,iP c2]
   ·rw [iN c2,iN c2,iN (fun e:k=q=>c2 (e.trans c))]
  ·have h1:adel ((q,v)::r) x=(q,v)::adel r x:=by simp [adel,c]
   rw [h1]
   show (if k=q then some v else aget (adel r x) k)=if k=x then none else if k=q then some v else aget r k
   rw [ih]
   by_cases c2:k=q
   ·rw [iP c2,iP c2,iN (fun e:k=x=>c (c2.symm.trans e))]
   ·rw [iN c2,iN c2]
theorem aget_mem_iff {kvs:List (α×β)}(hn:(kvs.map Prod.fst).Nodup)(k:α)(v:β):aget kvs k=some v↔(k,v)∈kvs:=by
 induction kvs with
 | nil=>simp [aget]
 | cons p r ih =>
  obtain ⟨q,u⟩:=p
  simp only [List.map_cons,List.nodup_cons] at hn
  unfold aget
  by_cases c:k=q
  ·subst c
   rw [iP rfl]
   constructor
   ·intro h; obtain rfl:=sI h; exact List.mem_cons_self
   ·intro h
    rcases List.mem_cons.1 h with h | h
    ·simp only [Prod.mk.injEq,true_and] at h; rw [h]
    ·exact absurd (List.mem_map.2 ⟨_,h,rfl⟩) hn.1
  ·rw [iN c,ih hn.2]
   constructor
   ·exact fun h=>List.mem_cons_of_mem _ h
   ·intro h
    rcases List.mem_cons.1 h with h | h
    ·simp only [Prod.mk.injEq] at h; exact absurd h.1 c
    ·exact h
theorem adel_length_lt {kvs:List (α×β)}{p:α×β}(h:p∈kvs):(adel kvs p.1).length<kvs.length:=by
 unfold adel
 have h1:=List.length_filter_le (fun q:α×β => !decide (q.1=p.1)) kvs
 refine Nat.lt_of_le_of_ne h1 fun e=>?_
 have:=(List.length_filter_eq_length_iff.1 e) p h
 simp at this
theorem adel_nodup' {kvs:List (α×β)}(h:(kvs.map Prod.fst).Nodup)(x:α):((adel kvs x).map Prod.fst).Nodup :=
 List.Sublist.nodup (List.Sublist.map _ List.filter_sublist) h
end
def Wd (a:List Int):Prop:=a.length=4∧∀ y∈a,inK .u64 y
def wv (a:List Int):Int:=rd a 0+rd a 1*18446744073709551616+rd a 2*340282366920938463463374607431768211456+rd a 3*6277101735386680763835789423207666416102355444464034512896
theorem inK_of_u64 {x:Int}(h0:0≤x)(h1:x<18446744073709551616):inK .u64 x:=by
 have:x≤18446744073709551615:=by omega
 simpa [inK,Lit.wf,IntKind.min,IntKind.max,IntKind.signed,IntKind.bits] using And.intro h0 this
theorem Wd.lanes {a:List Int}(h:Wd a):∃ a0 a1 a2 a3:Int,a=[a0,a1,a2,a3]∧(0≤a0∧a0<18446744073709551616)∧(0≤a1∧a1<18446744073709551616)∧(0≤a2∧a2<18446744073709551616)∧(0≤a3∧a3<18446744073709551616):=by
 obtain ⟨hl,hx⟩:=h
 match a,hl with
 | [a0,a1,a2,a3],_=>exact ⟨a0,a1,a2,a3,rfl,inK_u64 (hx a0 (by simp)),inK_u64 (hx a1 (by simp)),inK_u64 (hx a2 (by simp)),inK_u64 (hx a3 (by simp))⟩
theorem Wd.mk {a0 a1 a2 a3:Int}(h0:0≤a0∧a0<18446744073709551616)(h1:0≤a1∧a1<18446744073709551616)(h2:0≤a2∧a2<18446744073709551616)(h3:0≤a3∧a3<18446744073709551616):Wd [a0,a1,a2,a3]:=by
 refine ⟨rfl,fun y hy=>?_⟩
 simp only [List.mem_cons,List.not_mem_nil,or_false] at hy
 rcases hy with rfl | rfl | rfl | rfl
 ·exact inK_of_u64 h0.1 h0.2
 ·exact inK_of_u64 h1.1 h1.2
 ·exact inK_of_u64 h2.1 h2.2
 ·exact inK_of_u64 h3.1 h3.2
theorem wv_lanes (a0 a1 a2 a3:Int):wv [a0,a1,a2,a3]=a0+a1*18446744073709551616+a2*340282366920938463463374607431768211456+a3*6277101735386680763835789423207666416102355444464034512896:=rfl
theorem Wd.lt {a:List Int}(h:Wd a):0≤wv a∧wv a<115792089237316195423570985008687907853269984665640564039457584007913129639936:=by
 obtain ⟨a0,a1,a2,a3,rfl,h0,h1,h2,h3⟩:=h.lanes
 rw [wv_lanes]; omega
theorem Wd.inj {a b:List Int}(h:Wd a)(k:Wd b)(e:wv a=wv b):a=b:=by
 obtain ⟨a0,a1,a2,a3,rfl,h0,h1,h2,h3⟩:=h.lanes
 obtain ⟨b0,b1,b2,b3,rfl,k0,k1,k2,k3⟩:=k.lanes
 rw [wv_lanes,wv_lanes] at e
 have e0:a0=b0:=by omega
 subst e0
 have e1:a1=b1:=by omega
 subst e1
 have e2:a2=b2:=by omega
 subst e2
 have e3:a3=b3:=by omega
 rw [e3]
theorem Wd.of {x:Int}(h:inK .u64 x):Wd [x,0,0,0]:=Wd.mk (inK_u64 h) (by omega) (by omega) (by omega)
theorem Wd.of' {x:Int}(h0:0≤x)(h1:x<18446744073709551616):Wd [x,0,0,0]:=Wd.mk ⟨h0,h1⟩ (by omega) (by omega) (by omega)
theorem Wd.zero:Wd [0,0,0,0]:=Wd.of' (by omega) (by omega)
def dv (B:Int):List Int→Int
 | []=>0
 | x::r=>x+B*dv B r
theorem rd_getD (a:List Int)(i:Nat):rd a (i:Int)=a.getD i 0:=rfl
def Dig (B:Int)(a:List Int):Prop:=∀ y∈a,0≤y∧y<B
theorem Dig.rd {B:Int}(hB:0<B){a:List Int}(h:Dig B a)(i:Nat):0≤a.getD i 0∧a.getD i 0<B:=by
 rw [List.getD_eq_getElem?_getD]
 by_cases hi:i<a.length
 ·rw [List.getElem?_eq_getElem hi]; exact h _ (List.getElem_mem hi)
 ·rw [List.getElem?_eq_none (by omega)]; exact ⟨Int.le_refl _,hB⟩
theorem Dig.set {B:Int}{a:List Int}(h:Dig B a)(i:Nat){v:Int}(hv:0≤v∧v<B):Dig B (a.set i v):=fun y hy=>by
 rcases List.mem_or_eq_of_mem_set hy with h1 | rfl
 ·exact h y h1
 ·exact hv
theorem Dig.nil (B:Int):Dig B []:=fun y hy=>by cases hy
theorem dv_lt {B:Int}(hB:0<B):∀ {a:List Int},Dig B a→0≤dv B a∧dv B a<B ^ a.length
 | [],_=>by simp [dv]
 | x::r,h=>by
  obtain ⟨h1,h2⟩:=h x (by simp)
  obtain ⟨h3,h4⟩:=dv_lt hB (a:=r) fun y hy=>h y (by simp [hy])
  have h5:B*dv B r≤B*(B ^ r.length - 1):=Int.mul_le_mul_of_nonneg_left (by omega) (by omega)
  have h6:0≤B*dv B r:=Int.mul_nonneg (by omega) h3
  simp only [dv,List.length_cons,Int.pow_succ]
  have h7:B*(B ^ r.length - 1)=B ^ r.length*B - B:=by grind
  omega
theorem dv_split (B:Int):∀ (a:List Int) (i:Nat),dv B a=dv B (a.take i)+a.getD i 0*B ^ i+B ^ (i+1)*dv B (a.drop (i+1))
 | [],i=>by simp [dv]
 | x::r,0=>by simp [dv,Int.pow_succ]
 | x::r,i+1=>by
  have:=dv_split B r i
  simp only [List.take_succ_cons,dv,List.getD_cons_succ,List.drop_succ_cons,Int.pow_succ] at this ⊢
  rw [this]
  grind
theorem dv_zero (B:Int):∀ (a:List Int),(∀ j,a.getD j 0=0)→dv B a=0
 | [],_=>rfl
 | x::r,h=>by
  have h0:x=0:=h 0
  rw [dv,dv_zero B r (fun j=>h (j+1)),h0,Int.mul_zero,Int.add_zero]
theorem dv_ext (B:Int):∀ (a b:List Int),(∀ j,a.getD j 0=b.getD j 0)→dv B a=dv B b
 | [],b,h=>(dv_zero B b (fun j=>(h j).symm.trans (by simp))).symm
 | x::r,[],h=>dv_zero B (x::r) (fun j=>(h j).trans (by simp))
 | x::r,y::s,h=>by
  have h0:x=y:=h 0
  rw [dv,dv,h0,dv_ext B r s (fun j=>h (j+1))]
theorem Dig.take {B:Int}{a:List Int}(h:Dig B a)(i:Nat):Dig B (a.take i):=fun y hy=>h y (List.take_subset _ _ hy)
theorem Dig.drop {B:Int}{a:List Int}(h:Dig B a)(i:Nat):Dig B (a.drop i):=fun y hy=>h y (List.drop_subset _ _ hy)
theorem getD_drop (a:List Int)(i j:Nat):(a.drop i).getD j 0=a.getD (i+j) 0:=by
 rw [List.getD_eq_getElem?_getD,List.getD_eq_getElem?_getD,List.getElem?_drop]
theorem dv_at {B:Int}(hB:0<B){a b:List Int}(ha:Dig B a)(hb:Dig B b)(i:Nat)(hi:∀ j,i<j→a.getD j 0=b.getD j 0)(h:a.getD i 0<b.getD i 0):dv B a<dv B b:=by
 have e:dv B (a.drop (i+1))=dv B (b.drop (i+1)):=dv_ext B _ _ (fun j=>by rw [getD_drop,getD_drop,hi _ (by omega)])
 rw [dv_split B a i,dv_split B b i,e]
 obtain ⟨_,h1⟩:=dv_lt hB (ha.take i)
 obtain ⟨h2,_⟩:=dv_lt hB (hb.take i)
 have h3:B ^ (a.take i).length≤B ^ i:=by
  have:∀ m n:Nat,m≤n→B ^ m≤B ^ n:=fun m n hmn=>by
   obtain ⟨d,rfl⟩:=Nat.exists_eq_add_of_le hmn
   rw [Int.pow_add]
   have:=Int.pow_pos (n:=B) (m:=d) hB
   have h4:B ^ m*1≤B ^ m*B ^ d:=Int.mul_le_mul_of_nonneg_left (by omega) (Int.le_of_lt (Int.pow_pos hB))
   omega
  exact this _ _ (by rw [List.length_take]; omega)
 have h4:(a.getD i 0+1)*B ^ i≤b.getD i 0*B ^ i:=Int.mul_le_mul_of_nonneg_right (by omega) (Int.le_of_lt (Int.pow_pos hB))
 rw [Int.add_mul,Int.one_mul] at h4
 omega
theorem of_lanesW (k:Nat)(x0 x1 x2 x3:Int):fh8_.f (k+40) [x0,x1,x2,x3]=some [wr .i64 (Int.tmod (shr x0 0) 256),wr .i64 (Int.tmod (shr x0 8) 256),wr .i64 (Int.tmod (shr x0 16) 256),wr .i64 (Int.tmod (shr x0 24) 256),wr .i64 (Int.tmod (shr x0 32) 256),wr .i64 (Int.tmod (shr x0 40) 256),wr .i64 (Int.tmod (shr x0 48) 256),wr .i64 (Int.tmod (shr x0 56) 256),wr .i64 (Int.tmod (shr x1 0) 256),wr .i64 (Int.tmod (shr x1 8) 256),wr .i64 (Int.tmod (shr x1 16) 256),wr .i64 (Int.tmod (shr x1 24) 256),wr .i64 (Int.tmod (shr x1 32) 256),wr .i64 (Int.tmod (shr x1 40) 256),wr .i64 (Int.tmod (shr x1 48) 256),wr .i64 (Int.tmod (shr x1 56) 256),wr .i64 (Int.tmod (shr x2 0) 256),wr .i64 (Int.tmod (shr x2 8) 256),wr .i64 (Int.tmod (shr x2 16) 256),wr .i64 (Int.tmod (shr x2 24) 256),wr .i64 (Int.tmod (shr x2 32) 256),wr .i64 (Int.tmod (shr x2 40) 256),wr .i64 (Int.tmod (shr x2 48) 256),wr .i64 (Int.tmod (shr x2 56) 256),wr .i64 (Int.tmod (shr x3 0) 256),wr .i64 (Int.tmod (shr x3 8) 256),wr .i64 (Int.tmod (shr x3 16) 256),wr .i64 (Int.tmod (shr x3 24) 256),wr .i64 (Int.tmod (shr x3 32) 256),wr .i64 (Int.tmod (shr x3 40) 256),wr .i64 (Int.tmod (shr x3 48) 256),wr .i64 (Int.tmod (shr x3 56) 256)]:=by kernel_rfl
theorem limb_dig (x:Int)(n:Nat)(h:0≤x)(h1:x<18446744073709551616):wr .i64 (Int.tmod (shr x n) 256)=x / 2 ^ n % 256:=by
 unfold shr
 have hp:(0:Int)<2 ^ n:=Int.pow_pos (by omega)
 rw [Int.fdiv_eq_ediv_of_nonneg _ (Int.le_of_lt hp)]
 have h2:0≤x / 2 ^ n:=Int.ediv_nonneg h (Int.le_of_lt hp)
 rw [tmod_pos h2,wr_i64_id (by omega) (by omega)]
theorem limb_dv (x:Int)(h:0≤x)(h1:x<18446744073709551616)(r:List Int):dv 256 (x / 2 ^ 0 % 256::x / 2 ^ 8 % 256::x / 2 ^ 16 % 256::x / 2 ^ 24 % 256::x / 2 ^ 32 % 256::x / 2 ^ 40 % 256::x / 2 ^ 48 % 256::x / 2 ^ 56 % 256::r)=x+18446744073709551616*dv 256 r:=by
 simp only [dv,Int.reducePow]
 generalize dv 256 r=y
 omega
theorem ofD_eq (k:Nat){a:List Int}(ha:Wd a):∃ d,fh8_.f (k+40) a=some d∧d.length=32∧Dig 256 d∧dv 256 d=wv a:=by
 obtain ⟨a0,a1,a2,a3,rfl,h0,h1,h2,h3⟩:=ha.lanes
 refine ⟨_,of_lanesW k a0 a1 a2 a3,rfl,?_,?_⟩
 ·intro y hy
  simp only [limb_dig a0 _ h0.1 h0.2,limb_dig a1 _ h1.1 h1.2,limb_dig a2 _ h2.1 h2.2,limb_dig a3 _ h3.1 h3.2,List.mem_cons,List.not_mem_nil,or_false] at hy
  rcases hy with rfl | rfl | rfl | rfl | rfl | rfl | rfl | rfl | rfl | rfl | rfl | rfl | rfl | rfl | rfl | rfl | rfl | rfl | rfl | rfl | rfl | rfl | rfl | rfl | rfl | rfl | rfl | rfl | rfl | rfl | rfl | rfl <;> omega
 ·simp only [limb_dig a0 _ h0.1 h0.2,limb_dig a1 _ h1.1 h1.2,limb_dig a2 _ h2.1 h2.2,limb_dig a3 _ h3.1 h3.2]
  rw [limb_dv a0 h0.1 h0.2,limb_dv a1 h1.1 h1.2,limb_dv a2 h2.1 h2.2,limb_dv a3 h3.1 h3.2,wv_lanes]
  simp only [dv]
  omega
def cmpI (a b:Int):Int:=if a=b then 0 else if a<b then -1 else 1
theorem cmp_step (x y:List Int)(q i:Nat)(hi:i<4)(h:rd x i=rd y i):fi3_.l1 x y (q+1) (i:Int)=fi3_.l1 x y q ((i:Int) - 1):=by
 show fi3_.b1 x y _ _=_
 unfold fi3_.b1
 rw [iP (by omega),iP (by simpa using h),wr_i64_id (by omega) (by omega)]
theorem cmp_stop (x y:List Int)(q i:Nat)(hi:i<4)(h:rd x i≠rd y i):fi3_.l1 x y (q+1) (i:Int)=some (if rd x i<rd y i then -1 else 1):=by
 show fi3_.b1 x y _ _=_
 unfold fi3_.b1
 rw [iP (by omega),iN (by simpa using h)]
 unfold fi3_.j1
 rw [iP (by omega)]
 by_cases c:rd x i<rd y i
 ·rw [iP (by simpa using c),iP c]
 ·rw [iN (by simpa using c),iN c]
theorem cmp_eq (k:Nat){a b:List Int}(ha:Wd a)(hb:Wd b):fi3_.f (k+5) a b=some (cmpI (wv a) (wv b)):=by
 unfold fi3_.f cmpI
 by_cases e:a=b
 ·subst e
  rw [iP (by simp),iP rfl]
 rw [iN (by simpa using e),iN (fun h=>e (ha.inj hb h))]
 obtain ⟨a0,a1,a2,a3,rfl,h0,h1,h2,h3⟩:=ha.lanes
 obtain ⟨b0,b1,b2,b3,rfl,k0,k1,k2,k3⟩:=hb.lanes
 have r0:∀ x0 x1 x2 x3:Int,rd [x0,x1,x2,x3] ((0:Nat):Int)=x0:=fun _ _ _ _=>rfl
 have r1:∀ x0 x1 x2 x3:Int,rd [x0,x1,x2,x3] ((1:Nat):Int)=x1:=fun _ _ _ _=>rfl
 have r2:∀ x0 x1 x2 x3:Int,rd [x0,x1,x2,x3] ((2:Nat):Int)=x2:=fun _ _ _ _=>rfl
 have r3:∀ x0 x1 x2 x3:Int,rd [x0,x1,x2,x3] ((3:Nat):Int)=x3:=fun _ _ _ _=>rfl
 have goal:∀ (p q:Int),(p<q↔wv [a0,a1,a2,a3]<wv [b0,b1,b2,b3])→some (if p<q then (-1:Int) else 1)=some (if wv [a0,a1,a2,a3]<wv [b0,b1,b2,b3] then -1 else 1):=fun p q h=>by
  by_cases c:p<q
  ·rw [iP c,iP (h.1 c)]
  ·rw [iN c,iN (fun u=>c (h.2 u))]
 simp only [wv_lanes] at goal ⊢
 rw [show (fi3_.l1 [a0,a1,a2,a3] [b0,b1,b2,b3] (k+5) 3)=fi3_.l1 [a0,a1,a2,a3] [b0,b1,b2,b3] (k+4+1) ((3:Nat):Int) from rfl]
 by_cases c3:a3=b3
 ·rw [cmp_step [a0,a1,a2,a3] [b0,b1,b2,b3] _ 3 (by omega) c3,show (((3:Nat):Int) - 1)=((2:Nat):Int) from rfl,show k+4=k+3+1 from rfl]
  by_cases c2:a2=b2
  ·rw [cmp_step [a0,a1,a2,a3] [b0,b1,b2,b3] _ 2 (by omega) c2,show (((2:Nat):Int) - 1)=((1:Nat):Int) from rfl,show k+3=k+2+1 from rfl]
   by_cases c1:a1=b1
   ·rw [cmp_step [a0,a1,a2,a3] [b0,b1,b2,b3] _ 1 (by omega) c1,show (((1:Nat):Int) - 1)=((0:Nat):Int) from rfl,show k+2=k+1+1 from rfl]
    by_cases c0:a0=b0
    ·exact absurd (by rw [c0,c1,c2,c3]) e
    ·rw [cmp_stop [a0,a1,a2,a3] [b0,b1,b2,b3] _ 0 (by omega) c0,r0,r0]; exact goal _ _ (by omega)
   ·rw [cmp_stop [a0,a1,a2,a3] [b0,b1,b2,b3] _ 1 (by omega) c1,r1,r1]; exact goal _ _ (by omega)
  ·rw [cmp_stop [a0,a1,a2,a3] [b0,b1,b2,b3] _ 2 (by omega) c2,r2,r2]; exact goal _ _ (by omega)
 ·rw [cmp_stop [a0,a1,a2,a3] [b0,b1,b2,b3] _ 3 (by omega) c3,r3,r3]; exact goal _ _ (by omega)
theorem cmpI_lt (a b:Int):decide (cmpI a b<0)=decide (a<b):=by
 unfold cmpI
 by_cases h:a=b
 ·subst h; simp
 ·rw [iN h]
  by_cases k:a<b
  ·rw [iP k]; simp [k]
  ·rw [iN k]; simp [k]
theorem cmpD_loop {x y:List Int}(hx:Dig 256 x)(hy:Dig 256 y)(hxl:x.length=32)(hyl:y.length=32):∀ (r q:Nat),r≤32→r<q→(∀ j,r≤j→x.getD j 0=y.getD j 0)→fd9_.l1 x y q ((r:Int) - 1)=some (cmpI (dv 256 x) (dv 256 y))
 | 0,q,hr,hq,h=>by
  obtain ⟨q,rfl⟩:∃ m,q=m+1:=⟨q - 1,by omega⟩
  show fd9_.b1 x y _ _=_
  unfold fd9_.b1 fd9_.j1
  rw [iN (by simp),dv_ext 256 x y (fun j=>h j (by omega))]
  simp [cmpI]
 | r+1,q,hr,hq,h=>by
  obtain ⟨q,rfl⟩:∃ m,q=m+1:=⟨q - 1,by omega⟩
  rw [show ((r+1:Nat):Int) - 1=(r:Int) from by omega]
  show fd9_.b1 x y _ _=_
  unfold fd9_.b1
  rw [iP (by simp),iP (by omega),rd_getD,rd_getD]
  by_cases c:x.getD r 0<y.getD r 0
  ·rw [iP (by simpa using c)]
   have:=dv_at (by omega) hx hy r (fun j hj=>h j (by omega)) c
   unfold cmpI
   rw [iN (by omega),iP this]
  rw [iN (by simpa using c)]
  by_cases c2:y.getD r 0<x.getD r 0
  ·rw [iP (by simpa using c2)]
   have:=dv_at (by omega) hy hx r (fun j hj=>(h j (by omega)).symm) c2
   unfold cmpI
   rw [iN (by omega),iN (by omega)]
  rw [iN (by simpa using c2),wr_i64_id (by omega) (by omega)]
  refine cmpD_loop hx hy hxl hyl r q (by omega) (by omega) (fun j hj=>?_)
  by_cases e:j=r
  ·subst e; omega
  ·exact h j (by omega)
theorem cmpD_eq (k:Nat){x y:List Int}(hx:Dig 256 x)(hy:Dig 256 y)(hxl:x.length=32)(hyl:y.length=32):fd9_.f (k+40) x y=some (cmpI (dv 256 x) (dv 256 y)) :=
 cmpD_loop hx hy hxl hyl 32 (k+40) (by omega) (by omega) (fun j hj=>by rw [List.getD_eq_getElem?_getD,List.getD_eq_getElem?_getD,List.getElem?_eq_none (by omega),List.getElem?_eq_none (by omega)])
theorem gt_atG {α:Type} [Inhabited α] (xs:List α){i:Int}(h0:0≤i)(h1:i<xs.length):gt xs i∈xs:=by
 unfold gt
 have h:i.toNat<xs.length:=by omega
 rw [List.getD_eq_getElem?_getD,List.getElem?_eq_getElem h]
 exact List.getElem_mem h
theorem gt_natG {α:Type} [Inhabited α] (xs:List α){i:Nat}(h1:i<xs.length):gt xs (i:Int)=xs[i]:=by
 unfold gt
 rw [Int.toNat_natCast,List.getD_eq_getElem?_getD,List.getElem?_eq_getElem h1]; rfl
theorem lessD_eq (k:Nat){a b:List Int}(ha:Wd a)(hb:Wd b):fg3_.f (k+40) a b=some (decide (wv a<wv b)):=by
 obtain ⟨d,d1,d2,d3,d4⟩:=ofD_eq k ha
 obtain ⟨e,e1,e2,e3,e4⟩:=ofD_eq k hb
 unfold fg3_.f
 rw [d1,oB,e1,oB,cmpD_eq k d3 e3 d2 e2,oB,cmpI_lt,d4,e4]
def SortS (l:List (List Int×List Int)):Prop:=l.Pairwise (fun a b=>wv a.1<wv b.1)∧∀ s∈l,s.2≠[0,0,0,0]
theorem pair_of_adj {α:Type}{R:α→α→Prop}(ht:∀ a b c,R a b→R b c→R a c):∀ (l:List α),(∀ i (h:i+1<l.length),R l[i] l[i+1])→l.Pairwise R
 | [],_=>List.Pairwise.nil
 | [a],_=>List.pairwise_singleton _ _
 | a::b::l,h=>by
  have h1:=pair_of_adj ht (b::l) (fun i hi=>h (i+1) (by simp at hi ⊢; omega))
  refine List.pairwise_cons.2 ⟨fun c hc=>?_,h1⟩
  have h0:R a b:=h 0 (by simp)
  rcases List.mem_cons.1 hc with rfl | hc
  ·exact h0
  ·exact ht _ _ _ h0 ((List.pairwise_cons.1 h1).1 c hc)
theorem rightD_loop (k:Nat)(x:L71)(hx:Gd69 x.2.2.2.2):∀ (r q i:Nat),i+r=x.2.2.2.2.length→r<q→∃ b,ff0_.l1 (k+40) x q (i:Int)=some b∧(b=true→∀ j,i≤j→(h:j<x.2.2.2.2.length)→x.2.2.2.2[j].2≠[0,0,0,0]∧(0<j→wv (gt x.2.2.2.2 ((j:Int) - 1)).1<wv x.2.2.2.2[j].1))
 | 0,q,i,hi,hq=>by
  obtain ⟨q,rfl⟩:∃ m,q=m+1:=⟨q - 1,by omega⟩
  refine ⟨true,?_,fun _ j h1 h2=>by omega⟩
  show ff0_.b1 _ _ _ _=_
  unfold ff0_.b1
  rw [iN (by simp; omega)]; rfl
 | r+1,q,i,hi,hq=>by
  obtain ⟨q,rfl⟩:∃ m,q=m+1:=⟨q - 1,by omega⟩
  have hm:=hx.2
  simp only [maxLen] at hm
  have hw:wr .i64 ((i:Int)+1)=((i+1:Nat):Int):=by rw [wr_i64_id (by omega) (by omega)]; omega
  obtain ⟨b,ih2,ih3⟩:=rightD_loop k x hx r q (i+1) (by omega) (by omega)
  have hc:decide ((i:Int)<((x.2.2.2.2).length:Int))=true:=dT (by omega)
  have hb:(0:Int)≤(i:Int)∧(i:Int)<((x.2.2.2.2).length:Int):=by omega
  have hil:i<x.2.2.2.2.length:=by omega
  have e2:ff0_.l1 (k+40) x (q+1) (i:Int)=ff0_.b1 (k+40) x (ff0_.l1 (k+40) x q) (i:Int):=rfl
  rw [e2]
  unfold ff0_.b1
  rw [iP hc,iP hb]
  by_cases c:(gt x.2.2.2.2 (i:Int)).2=[0,0,0,0]
  ·rw [dT c,iP rfl]
   exact ⟨false,rfl,fun h=>by cases h⟩
  ·rw [dF c,iN (show ¬ (false=true) by simp)]
   have j2:∀ t,ff0_.j2 (i:Int) (ff0_.l1 (k+40) x q) t=if t=true then some false else some b:=fun t=>by
    unfold ff0_.j2; rw [hw,ih2]
   have c':=c
   rw [gt_natG x.2.2.2.2 hil] at c'
   by_cases c0:0<i
   ·have h0:decide ((0:Int)<(i:Int))=true:=dT (by omega)
    have hp:wr .i64 ((i:Int) - 1)=(i:Int) - 1:=wr_i64_id (by omega) (by omega)
    rw [iP h0,hp,iP (by omega)]
    have g1:=(hx.1 _ (gt_atG x.2.2.2.2 (i:=(i:Int) - 1) (by omega) (by omega))).1
    have g2:=(hx.1 _ (gt_atG x.2.2.2.2 (i:=(i:Int)) (by omega) (by omega))).1
    have w1:Wd (gt x.2.2.2.2 ((i:Int) - 1)).1:=g1
    have w2:Wd (gt x.2.2.2.2 (i:Int)).1:=g2
    rw [lessD_eq k w1 w2,oB,j2]
    by_cases c3:wv (gt x.2.2.2.2 ((i:Int) - 1)).1<wv (gt x.2.2.2.2 (i:Int)).1
    ·rw [dT c3,iN (by simp)]
     refine ⟨b,rfl,fun hb j h1 h2=>?_⟩
     rcases Nat.eq_or_lt_of_le h1 with h1 | h1
     ·subst h1
      rw [gt_natG x.2.2.2.2 hil] at c3
      exact ⟨c',fun _=>c3⟩
     ·exact ih3 hb j h1 h2
    ·rw [dF c3,iP (by simp)]
     exact ⟨false,rfl,fun h=>by cases h⟩
   ·have h0:decide ((0:Int)<(i:Int))=false:=dF (by omega)
    rw [h0,iN (show ¬ (false=true) by simp),j2,iN (show ¬ (false=true) by simp)]
    refine ⟨b,rfl,fun hb j h1 h2=>?_⟩
    rcases Nat.eq_or_lt_of_le h1 with h1 | h1
    ·subst h1
     exact ⟨c',fun h=>absurd h c0⟩
    ·exact ih3 hb j h1 h2
theorem rightD_eq (k:Nat)(x:L71)(hx:Gd69 x.2.2.2.2)(hk:x.2.2.2.2.length<k+40):∃ b,ff0_.f (k+40) x=some b∧(b=true→SortS x.2.2.2.2):=by
 obtain ⟨b,h1,h2⟩:=rightD_loop k x hx x.2.2.2.2.length (k+40) 0 (by omega) (by omega)
 refine ⟨b,h1,fun hb=>⟨pair_of_adj (fun a b c=>by omega) _ fun i hi=>?_,fun s hs=>?_⟩⟩
 ·have h3:=(h2 hb (i+1) (by omega) hi).2 (by omega)
  have e:(((i+1:Nat):Int) - 1)=((i:Nat):Int):=by omega
  rw [e,gt_natG _ (by omega)] at h3
  exact h3
 ·obtain ⟨i,hi,rfl⟩:=List.mem_iff_getElem.1 hs
  exact (h2 hb i (by omega) hi).1
theorem right14_loop (k:Nat)(l:List L71)(hg:∀ a∈l,Gd69 a.2.2.2.2∧a.2.2.2.2.length≤100)(hk:100<k+40)(hl:l.length≤50):∀ (r q i:Nat),i+r=l.length→r<q→∃ b,ff5_.l1 (k+40) l q (i:Int)=some b∧(b=true→∀ a∈l.drop i,SortS a.2.2.2.2)
 | 0,q,i,hi,hq=>by
  obtain ⟨q,rfl⟩:∃ m,q=m+1:=⟨q - 1,by omega⟩
  refine ⟨true,?_,fun _ a ha=>by rw [List.drop_eq_nil_of_le (by omega)] at ha; cases ha⟩
  show ff5_.b1 _ _ _ _=_
  unfold ff5_.b1
  rw [iN (by simp; omega)]; rfl
 | r+1,q,i,hi,hq=>by
  obtain ⟨q,rfl⟩:∃ m,q=m+1:=⟨q - 1,by omega⟩
  have hw:wr .i64 ((i:Int)+1)=((i+1:Nat):Int):=by rw [wr_i64_id (by omega) (by omega)]; omega
  obtain ⟨b,ih,ih2⟩:=right14_loop k l hg hk hl r q (i+1) (by omega) (by omega)
  have hil:i<l.length:=by omega
  have e2:ff5_.l1 (k+40) l (q+1) (i:Int)=ff5_.b1 (k+40) l (ff5_.l1 (k+40) l q) (i:Int):=rfl
  rw [e2]
  unfold ff5_.b1
  rw [iP (by simp; omega),iP (by omega),gt_natG l hil]
  obtain ⟨h1,h2⟩:=hg l[i] (List.getElem_mem hil)
  obtain ⟨b2,c1,c2⟩:=rightD_eq k l[i] h1 (by omega)
  rw [c1,oB,hw,ih]
  cases b2 with
  | false=>exact ⟨false,rfl,fun h=>by cases h⟩
  | true =>
   refine ⟨b,rfl,fun hb a ha=>?_⟩
   rw [List.drop_eq_getElem_cons hil] at ha
   rcases List.mem_cons.1 ha with rfl | ha
   ·exact c2 rfl
   ·exact ih2 hb a ha
def Right14 (l:List L71):Prop:=l.length≤50∧∀ a∈l,SmallA a∧SortS a.2.2.2.2
theorem right14_eq (k:Nat)(l:List L71)(hg:∀ a∈l,Gd71 a)(hk:100<k):∃ b,ff5_.f (k+40) l=some b∧(b=true→Right14 l):=by
 unfold ff5_.f
 rcases great13 l (k+40) (by omega) with h | ⟨h,h1,h2⟩
 ·rw [h]; exact ⟨false,rfl,fun h=>by cases h⟩
 ·rw [h,oB,iN (by simp)]
  obtain ⟨b,c1,c2⟩:=right14_loop k l (fun a ha=>⟨(hg a ha).2.2.2.2,(h2 a ha).2⟩) (by omega) h1 l.length (k+40) 0 (by omega) (by omega)
  exact ⟨b,c1,fun hb=>⟨h1,fun a ha=>⟨h2 a ha,c2 hb a (by simpa using ha)⟩⟩⟩
theorem list_loop (xs:List L71)(a:List Int)(hl:xs.length<4611686018427387904):∀ (l:List L71) (q i:Nat),xs.drop i=l→i≤xs.length→l.length<q→fe9_.l1 xs a q (i:Int)=some (match findA l a with | some x=>(x,true) | none=>((a,0,[0,0,0,0],[],[]),true))
 | [],q,i,hd,hi,hq=>by
  obtain ⟨q,rfl⟩:∃ m,q=m+1:=⟨q - 1,by omega⟩
  have:xs.length≤i:=by simpa using hd
  show fe9_.b1 _ _ _ _=_
  unfold fe9_.b1
  rw [iN (by simp; omega)]; rfl
 | x::l,q,i,hd,hi,hq=>by
  simp only [List.length_cons] at hq
  obtain ⟨q,rfl⟩:∃ m,q=m+1:=⟨q - 1,by omega⟩
  obtain ⟨h1,h2,h3⟩:=gt_dropA hd
  show fe9_.b1 _ _ _ _=_
  unfold fe9_.b1 findA
  rw [iP (by simp; omega),iP (by omega),h1]
  by_cases c:x.1=a
  ·rw [dT c,iP rfl,iP c]
  ·rw [dF c,iN (by simp),iN c,next1 i (by omega)]
   exact list_loop xs a hl l q (i+1) h3 (by omega) (by omega)
def baseA (l:List L71)(a:List Int):L71:=match findA l a with | some x=>x | none=>(a,0,[0,0,0,0],[],[])
theorem list_eq (l:List L71)(a:List Int)(k:Nat)(hk:l.length<k)(hl:l.length<4611686018427387904):fe9_.f k l a=some (baseA l a,true):=by
 have h:=list_loop l a hl l k 0 rfl (by omega) hk
 unfold baseA
 cases hf:findA l a with
 | some x=>rw [hf] at h; exact h
 | none=>rw [hf] at h; exact h
theorem baseA_fst (l:List L71)(a:List Int):(baseA l a).1=a:=by
 unfold baseA
 cases hf:findA l a with
 | some x=>exact (findA_mem hf).2
 | none=>rfl
theorem stateList_loop (l:List L71)(hl:l.length≤50)(hs:∀ a∈l,SmallA a):∀ (r q i:Nat),i+r=l.length→r<q→fi8_.l1 l q (l.take i) (i:Int)=some l
 | 0,q,i,hi,hq=>by
  obtain ⟨q,rfl⟩:∃ m,q=m+1:=⟨q - 1,by omega⟩
  show fi8_.b1 _ _ _ _=_
  unfold fi8_.b1
  rw [iN (by simp; omega),List.take_of_length_le (by omega)]; rfl
 | r+1,q,i,hi,hq=>by
  obtain ⟨q,rfl⟩:∃ m,q=m+1:=⟨q - 1,by omega⟩
  have hil:i<l.length:=by omega
  have hw:wr .i64 ((i:Int)+1)=((i+1:Nat):Int):=by rw [wr_i64_id (by omega) (by omega)]; omega
  obtain ⟨s1,s2⟩:=hs l[i] (List.getElem_mem hil)
  show fi8_.b1 _ _ _ _=_
  unfold fi8_.b1 fc_.f fi1_.f
  rw [iP (by simp; omega),iP (by omega),gt_natG l hil,iP (by simp only [List.length_nil]; omega),oB,iP (by simp only [List.length_nil]; omega),oB,
   iP (by simp only [List.length_take,List.length_cons,List.length_nil]; omega),hw]
  have e:l.take i++[((l[i]).1,(l[i]).2.1,(l[i]).2.2.1,[]++(l[i]).2.2.2.1,[]++(l[i]).2.2.2.2)]=l.take (i+1):=by
   rw [List.take_succ_eq_append_getElem hil]; rfl
  rw [e]
  exact stateList_loop l hl hs r q (i+1) (by omega) (by omega)
theorem stateList_eq (l:List L71)(hl:l.length≤50)(hs:∀ a∈l,SmallA a)(k:Nat)(hk:50<k):fi8_.f k l=some l:=stateList_loop l hl hs l.length k 0 (by omega) (by omega)
abbrev KvS:=List ((List Int)×(List Int))
abbrev KvB:=List ((List Int)×Bool)
abbrev Hp:=(List ((List Int)×Option Nat))×(List L110)×(List KvS)×(List KvB)
abbrev Pst:=(List L71)×Hp×Int×(List L100)×(List Clo)×(List (List Int))
theorem atE_app {α:Type} [Inhabited α] (xs ys:List α){i:Nat}(h:i<xs.length):atE (xs++ys) i=atE xs i:=by
 rw [atE_get h,atE_get (by simp; omega),List.getElem_append_left h]
theorem atE_end {α:Type} [Inhabited α] (xs:List α)(y:α):atE (xs++[y]) xs.length=y:=by
 rw [atE_get (by simp)]; simp
theorem atE_set {α:Type} [Inhabited α] (xs:List α){i:Nat}(j:Nat)(y:α)(h:i<xs.length):atE (xs.set j y) i=if j=i then y else atE xs i:=by
 rw [atE_get (by simpa using h),atE_get h,List.getElem_set]
def eNew (B:L71)(s w:Nat):L110:=(B,B,false,s,false,false,w)
abbrev eS (x:L110):Nat:=x.2.2.2.1
abbrev eW (x:L110):Nat:=x.2.2.2.2.2.2
structure Wf (W:List L71)(h:Hp):Prop where
 ids:∀ a v,aget h.1 a=some v→∃ i,v=some i∧i<h.2.1.length∧(atE h.2.1 i).1=baseA W a∧(atE h.2.1 i).2.1.1=a
 maps:∀ i,i<h.2.1.length→eS (atE h.2.1 i)<h.2.2.1.length∧eW (atE h.2.1 i)<h.2.2.2.length
 apart:∀ i j,i<h.2.1.length→j<h.2.1.length→(eS (atE h.2.1 i)=eS (atE h.2.1 j)∨eW (atE h.2.1 i)=eW (atE h.2.1 j))→i=j
 keys:(h.1.map Prod.fst).Nodup∧∀ j,j<h.2.2.1.length→((atE h.2.2.1 j).map Prod.fst).Nodup
structure Ext (W:List L71)(h h':Hp):Prop where
 wf:Wf W h'
 ents:∀ i,i<h.2.1.length→i<h'.2.1.length∧atE h'.2.1 i=atE h.2.1 i
 sets:∀ j,j<h.2.2.1.length→j<h'.2.2.1.length∧∀ k,aget (atE h'.2.2.1 j) k=aget (atE h.2.2.1 j) k
 wrms:∀ j,j<h.2.2.2.length→j<h'.2.2.2.length∧∀ k,aget (atE h'.2.2.2 j) k=aget (atE h.2.2.2 j) k
 old:∀ a v,aget h.1 a=some v→aget h'.1 a=some v
 new:∀ a v,aget h.1 a=none→aget h'.1 a=some v→∃ i,v=some i∧h.2.1.length≤i∧(∃ s w,atE h'.2.1 i=eNew (baseA W a) s w∧h.2.2.1.length≤s∧h.2.2.2.length≤w∧(∀ k,aget (atE h'.2.2.1 s) k=none)∧∀ k,aget (atE h'.2.2.2 w) k=none)
 beyond:∀ i,h.2.1.length≤i→i<h'.2.1.length→h.2.2.1.length≤eS (atE h'.2.1 i)∧h.2.2.2.length≤eW (atE h'.2.1 i)
theorem Ext.refl {W:List L71}{h:Hp}(hw:Wf W h):Ext W h h :=
 ⟨hw,fun i hi=>⟨hi,rfl⟩,fun j hj=>⟨hj,fun _=>rfl⟩,fun j hj=>⟨hj,fun _=>rfl⟩,fun _ _ h=>h,fun a v h1 h2=>(by rw [h1] at h2; cases h2),fun i h1 h2=>(by omega)⟩
theorem len_le {P:Nat→Prop}{n m:Nat}(h:∀ i,i<n→i<m∧P i):n≤m:=by
 refine Decidable.byContradiction fun c=>?_
 have:=(h m (by omega)).1
 omega
theorem Ext.trans {W:List L71}{a b c:Hp}(h:Ext W a b)(k:Ext W b c):Ext W a c where
 wf:=k.wf
 ents:=fun i hi=>⟨(k.ents i (h.ents i hi).1).1,by rw [(k.ents i (h.ents i hi).1).2,(h.ents i hi).2]⟩
 sets:=fun i hi=>⟨(k.sets i (h.sets i hi).1).1,fun q=>by rw [(k.sets i (h.sets i hi).1).2,(h.sets i hi).2]⟩
 wrms:=fun i hi=>⟨(k.wrms i (h.wrms i hi).1).1,fun q=>by rw [(k.wrms i (h.wrms i hi).1).2,(h.wrms i hi).2]⟩
 old:=fun x v hx=>k.old x v (h.old x v hx)
 new:=fun x v hx hv=>by
  cases hb:aget b.1 x with
  | none =>
   obtain ⟨i,e,hi,s,w,e1,hs,hw,e2,e3⟩:=k.new x v hb hv
   have l1:=len_le h.ents
   have l2:=len_le h.sets
   have l3:=len_le h.wrms
   exact ⟨i,e,by omega,s,w,e1,by omega,by omega,e2,e3⟩
  | some u =>
   have:=k.old x u hb
   rw [hv] at this
   obtain rfl:=sI this
   obtain ⟨i,e,hi,s,w,e1,hs,hw,e2,e3⟩:=h.new x v hx hb
   obtain ⟨j,f,hj,_⟩:=h.wf.ids x v hb
   rw [e] at f
   obtain rfl:=sI f
   have hm:=h.wf.maps i hj
   rw [e1] at hm
   exact ⟨i,e,hi,s,w,by rw [(k.ents i hj).2,e1],hs,hw,fun q=>by rw [(k.sets s hm.1).2,e2],fun q=>by rw [(k.wrms w hm.2).2,e3]⟩
 beyond:=fun i hi hc=>by
  have l2:=len_le h.sets
  have l3:=len_le h.wrms
  by_cases c1:i<b.2.1.length
  ·rw [(k.ents i c1).2]; exact h.beyond i hi c1
  ·have:=k.beyond i (by omega) hc
   omega
abbrev setE (h:Hp)(i:Nat)(y:L110):Hp:=(h.1,h.2.1.set i y,h.2.2.1,h.2.2.2)
theorem ext_unset {W:List L71}{h h':Hp}(hw:Wf W h){i:Nat}(hi:i<h.2.1.length){y:L110}(y1:y.1=(atE h.2.1 i).1)(y2:y.2.1.1=(atE h.2.1 i).2.1.1){sm:List KvS}{wm:List KvB}
  (hs:∀ j,j<h.2.2.1.length→j<sm.length∧∀ k,aget (atE sm j) k=aget (atE h.2.2.1 j) k) (hm:∀ j,j<h.2.2.2.length→j<wm.length∧∀ k,aget (atE wm j) k=aget (atE h.2.2.2 j) k)
  (e:Ext W (h.1,h.2.1.set i y,sm,wm) h'):Ext W h (setE h' i (atE h.2.1 i)):=by
 have lE:(h.2.1.set i y).length=h.2.1.length:=by simp
 have lS:=len_le hs
 have lM:=len_le hm
 have ents:∀ j,j<h.2.1.length→j<h'.2.1.length∧atE h'.2.1 j=if i=j then y else atE h.2.1 j:=fun j hj=>by
  have:=e.ents j (by rw [lE]; exact hj)
  exact ⟨this.1,by rw [this.2]; exact atE_set _ _ _ hj⟩
 have hi':=(ents i hi).1
 have lE':=len_le ents
 have hat:∀ j,j<h'.2.1.length→atE (h'.2.1.set i (atE h.2.1 i)) j=if i=j then atE h.2.1 i else atE h'.2.1 j:=fun j hj=>atE_set _ _ _ hj
 have old:∀ j,j<h.2.1.length→atE (h'.2.1.set i (atE h.2.1 i)) j=atE h.2.1 j:=fun j hj=>by
  rw [hat j (ents j hj).1]
  split
  ·rename_i c; rw [c]
  ·rename_i c; rw [(ents j hj).2,iN c]
 have bey:∀ j,h.2.1.length≤j→j<h'.2.1.length→h.2.2.1.length≤eS (atE h'.2.1 j)∧h.2.2.2.length≤eW (atE h'.2.1 j):=fun j h1 h2=>by
  have:=e.beyond j (by rw [lE]; exact h1) h2
  simp only at this
  omega
 have sets:∀ j,j<h.2.2.1.length→j<h'.2.2.1.length∧∀ k,aget (atE h'.2.2.1 j) k=aget (atE h.2.2.1 j) k:=fun j hj=>by
  have:=e.sets j (hs j hj).1
  exact ⟨this.1,fun k=>by rw [this.2 k,(hs j hj).2 k]⟩
 have wrms:∀ j,j<h.2.2.2.length→j<h'.2.2.2.length∧∀ k,aget (atE h'.2.2.2 j) k=aget (atE h.2.2.2 j) k:=fun j hj=>by
  have:=e.wrms j (hm j hj).1
  exact ⟨this.1,fun k=>by rw [this.2 k,(hm j hj).2 k]⟩
 have mi:=hw.maps
 refine ⟨⟨?_,?_,?_,e.wf.keys⟩,fun j hj=>⟨by simpa using (ents j hj).1,old j hj⟩,sets,wrms,e.old,?_,?_⟩
 ·intro a v hv
  obtain ⟨j,ej,hj,h1,h2⟩:=e.wf.ids a v hv
  refine ⟨j,ej,by simpa using hj,?_,?_⟩
  ·show (atE (h'.2.1.set i (atE h.2.1 i)) j).1=_
   rw [hat j hj]
   split
   ·rename_i c; subst c; rw [← h1,(ents i hi).2,iP rfl,y1]
   ·exact h1
  ·show (atE (h'.2.1.set i (atE h.2.1 i)) j).2.1.1=_
   rw [hat j hj]
   split
   ·rename_i c; subst c; rw [← h2,(ents i hi).2,iP rfl,y2]
   ·exact h2
 ·intro j hj
  have hj':j<h'.2.1.length:=by simpa using hj
  show eS (atE (h'.2.1.set i (atE h.2.1 i)) j)<_∧eW (atE (h'.2.1.set i (atE h.2.1 i)) j)<_
  rw [hat j hj']
  split
  ·exact ⟨(sets _ (mi i hi).1).1,(wrms _ (mi i hi).2).1⟩
  ·exact e.wf.maps j hj'
 ·intro j q hj hq hjq
  have hj':j<h'.2.1.length:=by simpa using hj
  have hq':q<h'.2.1.length:=by simpa using hq
  simp only [hat j hj',hat q hq'] at hjq
  by_cases c1:i=j <;> by_cases c2:i=q
  ·omega
  ·rw [iP c1,iN c2] at hjq
   by_cases c3:q<h.2.1.length
   ·rw [(ents q c3).2,iN c2] at hjq
    have:=hw.apart i q hi c3 hjq
    omega
   ·have:=bey q (by omega) hq'
    have:=mi i hi
    omega
  ·rw [iN c1,iP c2] at hjq
   by_cases c3:j<h.2.1.length
   ·rw [(ents j c3).2,iN c1] at hjq
    have:=hw.apart j i c3 hi hjq
    omega
   ·have:=bey j (by omega) hj'
    have:=mi i hi
    omega
  ·rw [iN c1,iN c2] at hjq
   exact e.wf.apart j q hj' hq' hjq
 ·intro a v ha hv
  obtain ⟨j,ej,hj,s,w,e1,e2,e3,e4,e5⟩:=e.new a v ha hv
  rw [lE] at hj
  obtain ⟨j2,ej2,hj2,_⟩:=e.wf.ids a v hv
  rw [ej] at ej2
  obtain rfl:=sI ej2
  simp only at e2 e3
  refine ⟨j,ej,hj,s,w,?_,by omega,by omega,e4,e5⟩
  show atE (h'.2.1.set i (atE h.2.1 i)) j=_
  rw [hat j hj2,iN (by omega),e1]
 ·intro j hj hj'
  have hj2:j<h'.2.1.length:=by simpa using hj'
  show _≤eS (atE (h'.2.1.set i (atE h.2.1 i)) j)∧_≤eW (atE (h'.2.1.set i (atE h.2.1 i)) j)
  rw [hat j hj2,iN (by omega)]
  exact bey j hj hj2
def hAdd (W:List L71)(h:Hp)(a:List Int):Hp:=(aput h.1 a (some h.2.1.length),h.2.1++[eNew (baseA W a) h.2.2.1.length h.2.2.2.length],h.2.2.1++[[]],h.2.2.2++[[]])
theorem hAdd_ext {W:List L71}{h:Hp}(hw:Wf W h){a:List Int}(ha:aget h.1 a=none):Ext W h (hAdd W h a):=by
 have ents:∀ i,i<h.2.1.length→i<(hAdd W h a).2.1.length∧atE (hAdd W h a).2.1 i=atE h.2.1 i:=fun i hi=>⟨by simp [hAdd]; omega,atE_app _ _ hi⟩
 have hat:atE (hAdd W h a).2.1 h.2.1.length=eNew (baseA W a) h.2.2.1.length h.2.2.2.length:=atE_end _ _
 have hget:∀ b,aget (hAdd W h a).1 b=if b=a then some (some h.2.1.length) else aget h.1 b:=fun b=>aget_aput _ _ _ _
 have hlen:∀ i,i<(hAdd W h a).2.1.length→i<h.2.1.length∨i=h.2.1.length:=fun i hi=>by simp [hAdd] at hi; omega
 have hm:=hw.maps
 refine ⟨⟨?_,?_,?_,?_⟩,ents,?_,?_,?_,?_,?_⟩
 ·intro b v hb
  rw [hget] at hb
  by_cases c:b=a
  ·rw [iP c] at hb
   obtain rfl:=sI hb
   subst c
   exact ⟨_,rfl,by simp [hAdd],by rw [hat]; rfl,by rw [hat]; exact baseA_fst W b⟩
  ·rw [iN c] at hb
   obtain ⟨i,e,hi,h1,h2⟩:=hw.ids b v hb
   exact ⟨i,e,(ents i hi).1,by rw [(ents i hi).2]; exact h1,by rw [(ents i hi).2]; exact h2⟩
 ·intro i hi
  rcases hlen i hi with h1 | rfl
  ·rw [(ents i h1).2]
   have:=hm i h1
   exact ⟨by simp [hAdd]; omega,by simp [hAdd]; omega⟩
  ·rw [hat]
   exact ⟨by simp [hAdd,eNew],by simp [hAdd,eNew]⟩
 ·intro i j hi hj e
  rcases hlen i hi with h1 | rfl <;> rcases hlen j hj with h2 | rfl
  ·rw [(ents i h1).2,(ents j h2).2] at e
   exact hw.apart i j h1 h2 e
  ·rw [(ents i h1).2,hat] at e
   have:=hm i h1
   simp only [eNew,eS,eW] at e this
   omega
  ·rw [(ents j h2).2,hat] at e
   have:=hm j h2
   simp only [eNew,eS,eW] at e this
   omega
  ·rfl
 ·refine ⟨?_,fun j hj=>?_⟩
  ·show ((aput h.1 a (some h.2.1.length)).map Prod.fst).Nodup
   rw [aput_keys]
   split
   ·exact hw.keys.1
   ·rename_i c
    refine List.nodup_append.2 ⟨hw.keys.1,by simp,fun x hx y hy e=>?_⟩
    simp only [List.mem_singleton] at hy
    subst hy; subst e
    exact c hx
  ·have h1:j<h.2.2.1.length∨j=h.2.2.1.length:=by simp [hAdd] at hj; omega
   rcases h1 with h1 | rfl
   ·show ((atE (h.2.2.1++[[]]) j).map Prod.fst).Nodup
    rw [atE_app _ _ h1]; exact hw.keys.2 j h1
   ·show ((atE (h.2.2.1++[[]]) h.2.2.1.length).map Prod.fst).Nodup
    rw [atE_end]; simp
 ·exact fun j hj=>⟨by simp [hAdd]; omega,fun k=>by show aget (atE (h.2.2.1++[[]]) j) k=_; rw [atE_app _ _ hj]⟩
 ·exact fun j hj=>⟨by simp [hAdd]; omega,fun k=>by show aget (atE (h.2.2.2++[[]]) j) k=_; rw [atE_app _ _ hj]⟩
 ·intro b v hb
  rw [hget,iN (fun e=>by rw [e,ha] at hb; cases hb)]
  exact hb
 ·intro b v hb hv
  rw [hget] at hv
  by_cases c:b=a
  ·rw [iP c] at hv
   obtain rfl:=sI hv
   subst c
   exact ⟨_,rfl,Nat.le_refl _,_,_,hat,Nat.le_refl _,Nat.le_refl _,fun k=>by show aget (atE (h.2.2.1++[[]]) h.2.2.1.length) k=_; rw [atE_end]; rfl,fun k=>by show aget (atE (h.2.2.2++[[]]) h.2.2.2.length) k=_; rw [atE_end]; rfl⟩
  ·rw [iN c,hb] at hv; cases hv
 ·intro i h1 h2
  rcases hlen i h2 with h3 | rfl
  ·omega
  ·rw [hat]; exact ⟨Nat.le_refl _,Nat.le_refl _⟩
def Szh (n:Nat)(h:Hp):Prop:=h.1.length≤n∧∀ j,j<h.2.2.1.length→(atE h.2.2.1 j).length≤n
theorem Szh.mono {n m:Nat}{h:Hp}(s:Szh n h)(c:n≤m):Szh m h:=⟨by have:=s.1; omega,fun j hj=>by have:=s.2 j hj; omega⟩
theorem aput_len {α β:Type} [DecidableEq α] (x:α)(y:β):∀ l:List (α×β),(aput l x y).length≤l.length+1
 | []=>by simp [aput]
 | (q,v)::r=>by
  unfold aput
  split
  ·simp
  ·have:=aput_len x y r
   simp only [List.length_cons]; omega
theorem adel_len {α β:Type} [DecidableEq α] (x:α)(l:List (α×β)):(adel l x).length≤l.length:=List.length_filter_le _ _
theorem hAdd_szh {W:List L71}{h:Hp}{n:Nat}(a:List Int)(s:Szh n h):Szh (n+1) (hAdd W h a):=by
 refine ⟨?_,fun j hj=>?_⟩
 ·have:=aput_len a (some h.2.1.length) h.1
  have:=s.1
  show (aput h.1 a (some h.2.1.length)).length≤n+1
  omega
 ·show (atE (h.2.2.1++[[]]) j).length≤n+1
  have h1:j<h.2.2.1.length∨j=h.2.2.1.length:=by simp [hAdd] at hj; omega
  rcases h1 with h1 | rfl
  ·rw [atE_app _ _ h1]; have:=s.2 j h1; omega
  ·rw [atE_end]; simp
theorem at_ok {W:List L71}(hl:W.length≤50){h:Hp}(hw:Wf W h)(rf:Int)(lg:List L100)(un:List Clo)(ms:List (List Int))(a:List Int){k:Nat}(hk:50<k) :
  ∃ i h',fh6_.f k (W,h,rf,lg,un,ms) a=some (some i,((),h',(),lg,un,ms))∧Ext W h h'∧aget h'.1 a=some (some i)∧∀ n,Szh n h→Szh (n+1) h':=by
 unfold fh6_.f
 cases ha:aget h.1 a with
 | some v =>
  obtain ⟨i,rfl,hi,_⟩:=hw.ids a v ha
  exact ⟨i,h,by simp only [ha]; rfl,Ext.refl hw,ha,fun n s=>s.mono (by omega)⟩
 | none =>
  refine ⟨h.2.1.length,hAdd W h a,?_,hAdd_ext hw ha,?_,fun n s=>hAdd_szh a s⟩
  ·refine (iN (show ¬ ((lk (none:Option (Option Nat)) none).2=true) by simp [lk])).trans ?_
   show ((fe9_.f k W a).bind fun t1=>fh6_.j1 (W,h,rf,lg,un,ms) a t1.2 t1.1)=_
   rw [list_eq W a k (by omega) (by omega),oB]
   have hb:=baseA_fst W a
   have e:(a,(baseA W a).2.1,(baseA W a).2.2.1,(baseA W a).2.2.2.1,(baseA W a).2.2.2.2)=baseA W a:=by
    conv=>rhs; rw [show baseA W a=((baseA W a).1,(baseA W a).2) from rfl,hb]
   unfold fh6_.j1 fh6_.j2
   rw [iN (by simp),e]
   rfl
  ·show aget (aput h.1 a (some h.2.1.length)) a=_
   rw [aget_aput,iP rfl]
theorem set_wf {W:List L71}{h:Hp}(hw:Wf W h){i:Nat}(hi:i<h.2.1.length){y:L110}(y1:y.1=(atE h.2.1 i).1)(y2:y.2.1.1=(atE h.2.1 i).2.1.1){sm:List KvS}{wm:List KvB}
  (hs:h.2.2.1.length≤sm.length) (hm:h.2.2.2.length≤wm.length) (q1:eS y<sm.length) (q2:eW y<wm.length) (q3:eS y=eS (atE h.2.1 i)∨h.2.2.1.length≤eS y) (q4:eW y=eW (atE h.2.1 i)∨h.2.2.2.length≤eW y)
  (hk:∀ j,j<sm.length→((atE sm j).map Prod.fst).Nodup):Wf W (h.1,h.2.1.set i y,sm,wm):=by
 have hat:∀ j,j<h.2.1.length→atE (h.2.1.set i y) j=if i=j then y else atE h.2.1 j:=fun j hj=>atE_set _ _ _ hj
 refine ⟨?_,?_,?_,hw.keys.1,hk⟩
 ·intro a v hv
  obtain ⟨j,ej,hj,h1,h2⟩:=hw.ids a v hv
  refine ⟨j,ej,by simpa using hj,?_,?_⟩
  ·show (atE (h.2.1.set i y) j).1=_
   rw [hat j hj]
   split
   ·rename_i c; subst c; rw [y1,h1]
   ·exact h1
  ·show (atE (h.2.1.set i y) j).2.1.1=_
   rw [hat j hj]
   split
   ·rename_i c; subst c; rw [y2,h2]
   ·exact h2
 ·intro j hj
  have hj':j<h.2.1.length:=by simpa using hj
  show eS (atE (h.2.1.set i y) j)<sm.length∧eW (atE (h.2.1.set i y) j)<wm.length
  rw [hat j hj']
  split
  ·exact ⟨q1,q2⟩
  ·have:=hw.maps j hj'
   omega
 ·intro j q hj hq hjq
  have hj':j<h.2.1.length:=by simpa using hj
  have hq':q<h.2.1.length:=by simpa using hq
  simp only [hat j hj',hat q hq'] at hjq
  by_cases c1:i=j <;> by_cases c2:i=q
  ·omega
  ·rw [iP c1,iN c2] at hjq
   have h1:=hw.apart i q hi hq'
   have h2:=hw.maps q hq'
   refine absurd (h1 ?_) c2
   omega
  ·rw [iN c1,iP c2] at hjq
   have h1:=hw.apart i j hi hj'
   have h2:=hw.maps j hj'
   refine absurd (h1 ?_) c1
   omega
  ·rw [iN c1,iN c2] at hjq
   exact hw.apart j q hj' hq' hjq
abbrev Cst:=Hp×Int×(List L100)
def Und (W:List L71)(c:Clo)(s0 s1:Cst):Prop :=
 ∀ h',Ext W s1.1 h'→∀ un ms,∃ h'',fj_.f c (W,h',s1.2.1,s1.2.2,un,ms)=some (W,h'',s0.2.1,s0.2.2,un,ms)∧Ext W s0.1 h''
section
variable {W:List L71} {h:Hp} (hw:Wf W h) {i:Nat} (hi:i<h.2.1.length) (rf:Int) (lg:List L100)
include hw hi
theorem field_wf (y:L110)(y1:y.1=(atE h.2.1 i).1)(y2:y.2.1.1=(atE h.2.1 i).2.1.1)(q3:eS y=eS (atE h.2.1 i))(q4:eW y=eW (atE h.2.1 i)):Wf W (setE h i y):=by
 have:=hw.maps i hi
 exact set_wf hw hi y1 y2 (Nat.le_refl _) (Nat.le_refl _) (by omega) (by omega) (.inl q3) (.inl q4) hw.keys.2
theorem field_und {y:L110}{h':Hp}(e:Ext W (setE h i y) h')(y1:y.1=(atE h.2.1 i).1)(y2:y.2.1.1=(atE h.2.1 i).2.1.1):(i<h'.2.1.length∧atE h'.2.1 i=y)∧Ext W h (setE h' i (atE h.2.1 i)):=by
 refine ⟨?_,ext_unset hw hi y1 y2 (fun j hj=>⟨hj,fun _=>rfl⟩) (fun j hj=>⟨hj,fun _=>rfl⟩) e⟩
 have:=e.ents i (by simpa using hi)
 exact ⟨this.1,by rw [this.2]; exact (atE_set _ _ _ hi).trans (iP rfl)⟩
theorem und_nonce (n:Int):Und W (.c73 (atE h.2.1 i).2.1.2.1 (some i)) (h,rf,lg) (setE h i ((atE h.2.1 i).1,((atE h.2.1 i).2.1.1,n,(atE h.2.1 i).2.1.2.2),(atE h.2.1 i).2.2),rf,lg):=fun h' e un ms=>by
 obtain ⟨⟨e1,e2⟩,e3⟩:=field_und hw hi e rfl rfl
 refine ⟨_,?_,e3⟩
 simp only [fj_.f,fc1_.f,Option.isSome_some,if_true,Option.getD_some,e2,oB]
theorem und_balance (n:List Int):Und W (.c75 (atE h.2.1 i).2.1.2.2.1 (some i)) (h,rf,lg) (setE h i ((atE h.2.1 i).1,((atE h.2.1 i).2.1.1,(atE h.2.1 i).2.1.2.1,n,(atE h.2.1 i).2.1.2.2.2),(atE h.2.1 i).2.2),rf,lg):=fun h' e un ms=>by
 obtain ⟨⟨e1,e2⟩,e3⟩:=field_und hw hi e rfl rfl
 refine ⟨_,?_,e3⟩
 simp only [fj_.f,fb0_.f,Option.isSome_some,if_true,Option.getD_some,e2,oB]
theorem und_code (n:List Int):Und W (.c76 (atE h.2.1 i).2.1.2.2.2.1 (some i)) (h,rf,lg) (setE h i ((atE h.2.1 i).1,((atE h.2.1 i).2.1.1,(atE h.2.1 i).2.1.2.1,(atE h.2.1 i).2.1.2.2.1,n,(atE h.2.1 i).2.1.2.2.2.2),(atE h.2.1 i).2.2),rf,lg):=fun h' e un ms=>by
 obtain ⟨⟨e1,e2⟩,e3⟩:=field_und hw hi e rfl rfl
 refine ⟨_,?_,e3⟩
 simp only [fj_.f,fd3_.f,Option.isSome_some,if_true,Option.getD_some,e2,oB]
theorem und_destroy:Und W (.c85 (atE h.2.1 i).2.2.2.2.1 (some i)) (h,rf,lg) (setE h i ((atE h.2.1 i).1,(atE h.2.1 i).2.1,(atE h.2.1 i).2.2.1,(atE h.2.1 i).2.2.2.1,true,(atE h.2.1 i).2.2.2.2.2),rf,lg):=fun h' e un ms=>by
 obtain ⟨⟨e1,e2⟩,e3⟩:=field_und hw hi e rfl rfl
 refine ⟨_,?_,e3⟩
 simp only [fj_.f,fc8_.f,Option.isSome_some,if_true,Option.getD_some,e2,oB]
theorem und_touch (hf:(atE h.2.1 i).2.2.2.2.2.1=false):Und W (.c69 (some i)) (h,rf,lg) (setE h i ((atE h.2.1 i).1,(atE h.2.1 i).2.1,(atE h.2.1 i).2.2.1,(atE h.2.1 i).2.2.2.1,(atE h.2.1 i).2.2.2.2.1,true,(atE h.2.1 i).2.2.2.2.2.2),rf,lg):=fun h' e un ms=>by
 obtain ⟨⟨e1,e2⟩,e3⟩:=field_und hw hi e rfl rfl
 refine ⟨_,?_,e3⟩
 simp only [fj_.f,fe0_.f,Option.isSome_some,if_true,Option.getD_some,e2,oB]
 rw [← hf]
end
theorem und_add {W:List L71}{h:Hp}(rf rf':Int)(lg:List L100):Und W (.c83 rf ()) (h,rf,lg) (h,rf',lg):=fun h' e un ms=>by
 refine ⟨h',?_,e⟩
 simp only [fj_.f,fg_.f,oB]
theorem und_log {W:List L71}{h:Hp}(rf:Int)(lg:List L100)(x:L100):Und W (.c84 () (lg.length:Int)) (h,rf,lg) (h,rf,lg++[x]):=fun h' e un ms=>by
 refine ⟨h',?_,e⟩
 simp only [fj_.f,ff3_.f]
 rw [iP (by simp; omega),oB,Int.toNat_natCast,List.take_left']
 rfl
theorem ext_unsetS {W:List L71}{h h':Hp}(hw:Wf W h){j:Nat}(hj:j<h.2.2.1.length){m1 m2:KvS}(e:Ext W (h.1,h.2.1,h.2.2.1.set j m1,h.2.2.2) h')(h2:∀ k,aget m2 k=aget (atE h.2.2.1 j) k)(hn:(m2.map Prod.fst).Nodup) :
  Ext W h (h'.1,h'.2.1,h'.2.2.1.set j m2,h'.2.2.2):=by
 have lS:(h.2.2.1.set j m1).length=h.2.2.1.length:=by simp
 have hj':=(e.sets j (by rw [lS]; exact hj)).1
 have hat:∀ q,q<h'.2.2.1.length→atE (h'.2.2.1.set j m2) q=if j=q then m2 else atE h'.2.2.1 q:=fun q hq=>atE_set _ _ _ hq
 refine ⟨⟨e.wf.ids,fun i hi=>?_,e.wf.apart,e.wf.keys.1,fun q hq=>?_⟩,e.ents,fun q hq=>?_,e.wrms,e.old,fun a v ha hv=>?_,fun i h1 hi=>?_⟩
 ·have:=e.wf.maps i hi
  exact ⟨by simpa using this.1,this.2⟩
 ·have hq':q<h'.2.2.1.length:=by simpa using hq
  show ((atE (h'.2.2.1.set j m2) q).map Prod.fst).Nodup
  rw [hat q hq']
  split
  ·exact hn
  ·exact e.wf.keys.2 q hq'
 ·have:=e.sets q (by rw [lS]; exact hq)
  refine ⟨by simpa using this.1,fun k=>?_⟩
  show aget (atE (h'.2.2.1.set j m2) q) k=_
  rw [hat q this.1]
  split
  ·rename_i c; subst c; exact h2 k
  ·rename_i c
   rw [this.2 k]
   show aget (atE (h.2.2.1.set j m1) q) k=_
   rw [atE_set _ _ _ hq,iN c]
 ·obtain ⟨i,ei,hi,s,w,e1,e2,e3,e4,e5⟩:=e.new a v ha hv
  rw [lS] at e2
  obtain ⟨i2,ei2,hi2,_⟩:=e.wf.ids a v hv
  rw [ei] at ei2
  obtain rfl:=sI ei2
  have hs:=(e.wf.maps i hi2).1
  rw [e1] at hs
  refine ⟨i,ei,hi,s,w,e1,e2,e3,fun k=>?_,e5⟩
  show aget (atE (h'.2.2.1.set j m2) s) k=_
  rw [hat s hs,iN (by omega)]
  exact e4 k
 ·have:=e.beyond i h1 hi
  rw [lS] at this
  exact this
theorem ext_unsetW {W:List L71}{h h':Hp}(hw:Wf W h){j:Nat}(hj:j<h.2.2.2.length){m1 m2:KvB}(e:Ext W (h.1,h.2.1,h.2.2.1,h.2.2.2.set j m1) h')(h2:∀ k,aget m2 k=aget (atE h.2.2.2 j) k) :
  Ext W h (h'.1,h'.2.1,h'.2.2.1,h'.2.2.2.set j m2):=by
 have lS:(h.2.2.2.set j m1).length=h.2.2.2.length:=by simp
 have hj':=(e.wrms j (by rw [lS]; exact hj)).1
 have hat:∀ q,q<h'.2.2.2.length→atE (h'.2.2.2.set j m2) q=if j=q then m2 else atE h'.2.2.2 q:=fun q hq=>atE_set _ _ _ hq
 refine ⟨⟨e.wf.ids,fun i hi=>?_,e.wf.apart,e.wf.keys⟩,e.ents,e.sets,fun q hq=>?_,e.old,fun a v ha hv=>?_,fun i h1 hi=>?_⟩
 ·have:=e.wf.maps i hi
  exact ⟨this.1,by simpa using this.2⟩
 ·have:=e.wrms q (by rw [lS]; exact hq)
  refine ⟨by simpa using this.1,fun k=>?_⟩
  show aget (atE (h'.2.2.2.set j m2) q) k=_
  rw [hat q this.1]
  split
  ·rename_i c; subst c; exact h2 k
  ·rename_i c
   rw [this.2 k]
   show aget (atE (h.2.2.2.set j m1) q) k=_
   rw [atE_set _ _ _ hq,iN c]
 ·obtain ⟨i,ei,hi,s,w,e1,e2,e3,e4,e5⟩:=e.new a v ha hv
  rw [lS] at e3
  obtain ⟨i2,ei2,hi2,_⟩:=e.wf.ids a v hv
  rw [ei] at ei2
  obtain rfl:=sI ei2
  have hs:=(e.wf.maps i hi2).2
  rw [e1] at hs
  refine ⟨i,ei,hi,s,w,e1,e2,e3,e4,fun k=>?_⟩
  show aget (atE (h'.2.2.2.set j m2) w) k=_
  rw [hat w hs,iN (by omega)]
  exact e5 k
 ·have:=e.beyond i h1 hi
  rw [lS] at this
  exact this
theorem setS_wf {W:List L71}{h:Hp}(hw:Wf W h){j:Nat}(hj:j<h.2.2.1.length)(k v:List Int):Wf W (h.1,h.2.1,h.2.2.1.set j (aput (atE h.2.2.1 j) k v),h.2.2.2) :=
 ⟨hw.ids,fun i hi=>⟨by simpa using (hw.maps i hi).1,(hw.maps i hi).2⟩,hw.apart,hw.keys.1,fun q hq=>by
  have hq':q<h.2.2.1.length:=by simpa using hq
  show ((atE (h.2.2.1.set j _) q).map Prod.fst).Nodup
  rw [atE_set _ _ _ hq']
  split
  ·exact aput_nodup (hw.keys.2 j hj) _ _
  ·exact hw.keys.2 q hq'⟩
theorem setW_wf {W:List L71}{h:Hp}(hw:Wf W h){j:Nat}(hj:j<h.2.2.2.length)(m:KvB):Wf W (h.1,h.2.1,h.2.2.1,h.2.2.2.set j m) :=
 ⟨hw.ids,fun i hi=>⟨(hw.maps i hi).1,by simpa using (hw.maps i hi).2⟩,hw.apart,hw.keys⟩
theorem und_set {W:List L71}{h:Hp}(hw:Wf W h){j:Nat}(hj:j<h.2.2.1.length)(rf:Int)(lg:List L100)(k v z:List Int) :
  Und W (.c72 (lk (aget (atE h.2.2.1 j) k) z).2 (lk (aget (atE h.2.2.1 j) k) z).1 j k) (h,rf,lg) ((h.1,h.2.1,h.2.2.1.set j (aput (atE h.2.2.1 j) k v),h.2.2.2),rf,lg):=fun h' e un ms=>by
 have hs:=e.sets j (by simpa using hj)
 have h1:∀ q,aget (atE h'.2.2.1 j) q=if k=q then some v else aget (atE h.2.2.1 j) q:=fun q=>by
  rw [hs.2 q]
  show aget (atE (h.2.2.1.set j (aput (atE h.2.2.1 j) k v)) j) q=_
  rw [atE_set _ _ _ hj,iP rfl,aget_aput]
  by_cases c:k=q
  ·rw [iP c,iP c.symm]
  ·rw [iN c,iN (fun e=>c e.symm)]
 have hn:=e.wf.keys.2 j hs.1
 cases hg:aget (atE h.2.2.1 j) k with
 | some w =>
  refine ⟨_,?_,ext_unsetS hw hj (m2:=aput (atE h'.2.2.1 j) k w) e (fun q=>?_) (aput_nodup hn _ _)⟩
  ·simp only [fj_.f,ff8_.f,lk,if_true,oB]
  ·rw [aget_aput,h1 q]
   by_cases c:q=k
   ·rw [iP c,c,hg]
   ·rw [iN c,iN (fun e=>c e.symm)]
 | none =>
  refine ⟨_,?_,ext_unsetS hw hj (m2:=adel (atE h'.2.2.1 j) k) e (fun q=>?_) (adel_nodup' hn _)⟩
  ·simp only [fj_.f,ff8_.f,lk,Bool.false_eq_true,if_false,oB]
  ·rw [aget_adel,h1 q]
   by_cases c:q=k
   ·rw [iP c,c,hg]
   ·rw [iN c,iN (fun e=>c e.symm)]
theorem und_touchSlot {W:List L71}{h:Hp}(hw:Wf W h){i:Nat}(hi:i<h.2.1.length)(rf:Int)(lg:List L100)(k:List Int)(hg:aget (atE h.2.2.2 (eW (atE h.2.1 i))) k=none) :
  Und W (.c70 (some i) k) (h,rf,lg) ((h.1,h.2.1,h.2.2.1,h.2.2.2.set (eW (atE h.2.1 i)) (aput (atE h.2.2.2 (eW (atE h.2.1 i))) k true)),rf,lg):=fun h' e un ms=>by
 have hj:=(hw.maps i hi).2
 have hs:=e.wrms (eW (atE h.2.1 i)) (by simpa using hj)
 have he:=(e.ents i hi).2
 have h1:∀ q,aget (atE h'.2.2.2 (eW (atE h.2.1 i))) q=if k=q then some true else aget (atE h.2.2.2 (eW (atE h.2.1 i))) q:=fun q=>by
  rw [hs.2 q]
  show aget (atE (h.2.2.2.set _ _) _) q=_
  rw [atE_set _ _ _ hj,iP rfl,aget_aput]
  by_cases c:k=q
  ·rw [iP c,iP c.symm]
  ·rw [iN c,iN (fun e=>c e.symm)]
 refine ⟨_,?_,ext_unsetW hw hj (m2:=adel (atE h'.2.2.2 (eW (atE h.2.1 i))) k) e (fun q=>?_)⟩
 ·simp only [fj_.f,fb4_.f,Option.isSome_some,if_true,Option.getD_some,he,oB]
 ·rw [aget_adel,h1 q]
  by_cases c:q=k
  ·rw [iP c,c,hg]
  ·rw [iN c,iN (fun e=>c e.symm)]
abbrev hMake (h:Hp)(i:Nat):Hp:=(h.1,h.2.1.set i ((atE h.2.1 i).1,(atE h.2.1 i).2.1,true,h.2.2.1.length,(atE h.2.1 i).2.2.2.2),h.2.2.1++[[]],h.2.2.2)
theorem make_wf {W:List L71}{h:Hp}(hw:Wf W h){i:Nat}(hi:i<h.2.1.length):Wf W (hMake h i):=by
 have:=hw.maps i hi
 refine set_wf hw hi (y:=((atE h.2.1 i).1,(atE h.2.1 i).2.1,true,h.2.2.1.length,(atE h.2.1 i).2.2.2.2)) (sm:=h.2.2.1++[[]]) (wm:=h.2.2.2) rfl rfl (by simp) (Nat.le_refl _) (by simp [eS]) this.2 (.inr (Nat.le_refl _)) (.inl rfl) (fun j hj=>?_)
 by_cases c:j<h.2.2.1.length
 ·rw [atE_app _ _ c]; exact hw.keys.2 j c
 ·have:j=h.2.2.1.length:=by simp at hj; omega
  subst this
  rw [atE_end]; simp
theorem und_make {W:List L71}{h:Hp}(hw:Wf W h){i:Nat}(hi:i<h.2.1.length)(rf:Int)(lg:List L100) :
  Und W (.c77 (atE h.2.1 i).2.2.1 (atE h.2.1 i).2.2.2.1 (some i)) (h,rf,lg) (hMake h i,rf,lg):=fun h' e un ms=>by
 have e0:=ext_unset hw hi rfl rfl (sm:=h.2.2.1++[[]]) (wm:=h.2.2.2) (y:=((atE h.2.1 i).1,(atE h.2.1 i).2.1,true,h.2.2.1.length,(atE h.2.1 i).2.2.2.2)) (fun j hj=>⟨by simp; omega,fun k=>by rw [atE_app _ _ hj]⟩) (fun j hj=>⟨hj,fun _=>rfl⟩) e
 have e1:=e.ents i (by simpa using hi)
 have e2:atE h'.2.1 i=((atE h.2.1 i).1,(atE h.2.1 i).2.1,true,h.2.2.1.length,(atE h.2.1 i).2.2.2.2):=by rw [e1.2]; exact (atE_set _ _ _ hi).trans (iP rfl)
 refine ⟨_,?_,e0⟩
 have e3:∀ y:L110,atE (h'.2.1.set i y) i=y:=fun y=>(atE_set _ _ _ e1.1).trans (iP rfl)
 simp only [fj_.f,fe7_.f,Option.isSome_some,if_true,Option.getD_some,e2,e3,oB,List.set_set]
theorem Und.mono {W:List L71}{c:Clo}{s0:Cst}{h h':Hp}{r:Int×List L100}(u:Und W c s0 (h,r))(e:Ext W h h'):Und W c s0 (h',r):=fun h2 e2 un ms=>u h2 (e.trans e2) un ms
def Hist (W:List L71){δ:Type}(R:Cst→δ→Prop):List Clo→List δ→Cst→Prop
 | [],[],_=>True
 | c::u,w::p,s=>∃ s0,R s0 w∧Wf W s0.1∧Hist W R u p s0∧Und W c s0 s
 | _,_,_=>False
theorem Hist.mono {W:List L71}{δ:Type}{R:Cst→δ→Prop}{h h':Hp}{r:Int×List L100}(e:Ext W h h'):∀ {u:List Clo} {p:List δ},Hist W R u p (h,r)→Hist W R u p (h',r)
 | [],[],_=>trivial
 | c::u,w::p,⟨s0,h1,h2,h3,h4⟩=>⟨s0,h1,h2,h3,h4.mono e⟩
theorem gt_last {α:Type} [Inhabited α] (l:List α)(c:α):gt (l++[c]) (l.length:Int)=c:=by
 unfold gt; simp
theorem back_loop {W:List L71}{δ:Type}{R:Cst→δ→Prop}(hR:∀ h h' r w,R (h,r) w→Wf W h→Ext W h h'→R (h',r) w)(b:List Clo)(pb:List δ)(ms:List (List Int)) :
  ∀ (a:List Clo) (pa:List δ) (h:Hp) (rf:Int) (lg:List L100) (q:Nat),a.length=pa.length→Hist W R (a++b) (pa++pb) (h,rf,lg)→Wf W h→a.length<q→(a++b).length<1000000 →
   ∃ h' rf' lg',fg8_.l1 (b.length:Int) q ((a++b).length:Int) W h.1 h.2.1 h.2.2.1 h.2.2.2 rf lg (a++b).reverse ms=some (W,h',rf',lg',b.reverse,ms)∧Wf W h'∧Hist W R b pb (h',rf',lg')∧(∀ w,pa.getLast?=some w→R (h',rf',lg') w)∧(a=[]→(h',rf',lg')=(h,rf,lg))
 | [],[],h,rf,lg,q,_,hh,hw,hq,_=>by
  obtain ⟨q,rfl⟩:∃ m,q=m+1:=⟨q - 1,by simp at hq; omega⟩
  refine ⟨h,rf,lg,?_,hw,hh,fun w hw=>by simp at hw,fun _=>rfl⟩
  show fg8_.b1 _ _ _ _ _ _ _ _ _ _ _ _=_
  unfold fg8_.b1
  rw [iN (by simp)]
  rfl
 | c::a,w::pa,h,rf,lg,q,hl,⟨s0,h1,h2,h3,h4⟩,hw,hq,hn=>by
  obtain ⟨q,rfl⟩:∃ m,q=m+1:=⟨q - 1,by simp at hq; omega⟩
  simp only [List.length_cons,List.length_append,List.cons_append] at hq hn hl
  obtain ⟨h',e1,e2⟩:=h4 h (Ext.refl hw) ((c::a++b).reverse) ms
  obtain ⟨h0,rf0,lg0⟩:=s0
  obtain ⟨h2',rf2,lg2,i1,i2,i3,i4,i5⟩:=back_loop hR b pb ms a pa h' rf0 lg0 q (by omega) (h3.mono e2) e2.wf (by omega) (by simp; omega)
  refine ⟨h2',rf2,lg2,?_,i2,i3,fun v hv=>?_,fun e=>by cases e⟩
  ·show fg8_.b1 _ _ _ _ _ _ _ _ _ _ _ _=_
   unfold fg8_.b1
   have n1:wr .i64 (((c::a++b).length:Int) - 1)=((a++b).length:Int):=by rw [wr_i64_id (by simp; omega) (by simp; omega)]; simp
   have hrev:(c::a++b).reverse=(a++b).reverse++[c]:=by simp
   have hg:gt ((c::a++b).reverse) ((a++b).length:Int)=c:=by
    have:=gt_last (a++b).reverse c
    rw [List.length_reverse] at this
    rw [hrev]; exact this
   rw [iP (by simp; omega),n1,iP (by simp; omega),hg]
   have e1':fj_.f c (W,(h.1,h.2.1,h.2.2.1,h.2.2.2),rf,lg,(c::a++b).reverse,ms)=some (W,h',rf0,lg0,(c::a++b).reverse,ms):=e1
   rw [e1',oB]
   simp only
   rw [iP (by simp; omega),Int.toNat_natCast,hrev,List.take_left' (by simp; omega)]
   exact i1
  ·cases pa with
   | nil =>
    have ha:a=[]:=by
     cases a with
     | nil=>rfl
     | cons _ _=>simp at hl
    simp at hv
    subst hv
    rw [i5 ha]
    exact hR _ _ _ _ h1 h2 e2
   | cons x pa=>exact i4 v (by rw [← hv]; simp [List.getLast?_cons_cons])
theorem docBase_loop (s:ST37)(a:List Int)(hl:(ST37.un s).1.length<4611686018427387904):∀ (l:List L71) (q i:Nat),(ST37.un s).1.drop i=l→i≤(ST37.un s).1.length→l.length<q→fc0_.l1 s a q (i:Int)=some (match findA l a with | some x=>x | none=>(a,0,[0,0,0,0],[],[]))
 | [],q,i,hd,hi,hq=>by
  obtain ⟨q,rfl⟩:∃ m,q=m+1:=⟨q - 1,by omega⟩
  have:(ST37.un s).1.length≤i:=by simpa using hd
  show fc0_.b1 _ _ _ _=_
  unfold fc0_.b1
  rw [iN (by simp; omega)]; rfl
 | x::l,q,i,hd,hi,hq=>by
  simp only [List.length_cons] at hq
  obtain ⟨q,rfl⟩:∃ m,q=m+1:=⟨q - 1,by omega⟩
  obtain ⟨h1,h2,h3⟩:=gt_dropA hd
  show fc0_.b1 _ _ _ _=_
  unfold fc0_.b1 findA
  rw [iP (by simp; omega),iP (by omega),h1]
  by_cases c:x.1=a
  ·rw [dT c,iP rfl,iP c]
  ·rw [dF c,iN (by simp),iN c,next1 i (by omega)]
   exact docBase_loop s a hl l q (i+1) h3 (by omega) (by omega)
theorem docBase_eq (s:ST37)(a:List Int)(k:Nat)(hk:(ST37.un s).1.length<k)(hl:(ST37.un s).1.length<4611686018427387904):fc0_.f k s a=some (baseA (ST37.un s).1 a):=by
 have h:=docBase_loop s a hl (ST37.un s).1 k 0 rfl (by omega) hk
 unfold fc0_.f baseA
 exact h
abbrev DE:=L71×Bool×Bool
def findL:List DE→List Int→Option DE
 | [],_=>none
 | x::l,a=>if x.1.1=a then some x else findL l a
def atD (W:List L71)(L:List DE)(a:List Int):DE:=match findL L a with | some x=>x | none=>(baseA W a,false,false)
theorem docAt_loop (s:ST37)(a:List Int)(k:Nat)(hk:(ST37.un s).1.length<k)(hl:(ST37.un s).1.length<4611686018427387904)(hl2:(ST37.un s).2.1.length<4611686018427387904):∀ (l:List DE) (q i:Nat),(ST37.un s).2.1.drop i=l→i≤(ST37.un s).2.1.length→l.length<q→fd4_.l1 k s a q (i:Int)=some (match findL l a with | some x=>x | none=>(baseA (ST37.un s).1 a,false,false))
 | [],q,i,hd,hi,hq=>by
  obtain ⟨q,rfl⟩:∃ m,q=m+1:=⟨q - 1,by omega⟩
  have:(ST37.un s).2.1.length≤i:=by simpa using hd
  show fd4_.b1 _ _ _ _ _=_
  unfold fd4_.b1 fd4_.j1
  rw [iN (by simp; omega),docBase_eq s a k hk hl]; rfl
 | x::l,q,i,hd,hi,hq=>by
  simp only [List.length_cons] at hq
  obtain ⟨q,rfl⟩:∃ m,q=m+1:=⟨q - 1,by omega⟩
  obtain ⟨h1,h2,h3⟩:=gt_dropA hd
  show fd4_.b1 _ _ _ _ _=_
  unfold fd4_.b1 findL
  rw [iP (by simp; omega),iP (by omega),h1]
  by_cases c:x.1.1=a
  ·rw [dT c,iP rfl,iP c]
  ·rw [dF c,iN (by simp),iN c,next1 i (by omega)]
   exact docAt_loop s a k hk hl hl2 l q (i+1) h3 (by omega) (by omega)
theorem docAt_eq (s:ST37)(a:List Int)(k:Nat)(hk:(ST37.un s).1.length<k)(hl:(ST37.un s).1.length<4611686018427387904)(hl2:(ST37.un s).2.1.length<4611686018427387904)(hk2:(ST37.un s).2.1.length<k):fd4_.f k s a=some (atD (ST37.un s).1 (ST37.un s).2.1 a):=by
 have h:=docAt_loop s a k hk hl hl2 (ST37.un s).2.1 k 0 rfl (by omega) hk2
 unfold fd4_.f atD
 exact h
abbrev mkD (W:List L71)(L:List DE)(wm:List (List Int))(sl:List ((List Int)×(List Int)))(rf:Int)(lg:List L100)(p:List ST37):ST37:=ST37.mk (W,L,wm,sl,rf,lg,true,p)
theorem keep_eq (W:List L71)(L:List DE)(wm:List (List Int))(sl:List ((List Int)×(List Int)))(rf:Int)(lg:List L100)(p:List ST37)(hp:p.length<1000000):fb7_.f (mkD W L wm sl rf lg p)=some (mkD W L wm sl rf lg (p++[mkD W L wm sl rf lg []])):=by
 unfold fb7_.f
 refine (iN (show ¬ ((!true)=true) by simp)).trans ((iP (show (([]:List ST37).length+p.length)*160≤140737488355328 by simp; omega)).trans ((iP (show ((([]:List ST37)++p).length+[mkD W L wm sl rf lg []].length)*160≤140737488355328 by simp; omega)).trans ?_))
 rfl
theorem with_loop (x:DE)(t:ST37)(hl:(ST37.un t).2.1.length<1000000):∀ (l:List DE) (q i:Nat) (out:List DE),(ST37.un t).2.1.drop i=l→i≤(ST37.un t).2.1.length→l.length<q→out.length≤i →
  fb6_.l1 x t q (i:Int) out=some (ST37.mk ((ST37.un t).1,(out++l.filter fun y => !decide (y.1.1=x.1.1))++[x],(ST37.un t).2.2))
 | [],q,i,out,hd,hi,hq,ho=>by
  obtain ⟨q,rfl⟩:∃ m,q=m+1:=⟨q - 1,by omega⟩
  have:(ST37.un t).2.1.length≤i:=by simpa using hd
  show fb6_.b1 _ _ _ _ _=_
  unfold fb6_.b1 fb6_.j1
  rw [iN (by simp; omega),iP (by simp only [List.length_cons,List.length_nil]; omega)]
  simp
 | y::l,q,i,out,hd,hi,hq,ho=>by
  simp only [List.length_cons] at hq
  obtain ⟨q,rfl⟩:∃ m,q=m+1:=⟨q - 1,by omega⟩
  obtain ⟨h1,h2,h3⟩:=gt_dropA hd
  show fb6_.b1 _ _ _ _ _=_
  unfold fb6_.b1 fb6_.j2
  rw [iP (by simp; omega),iP (by omega),h1,next1 i (by omega)]
  by_cases c:y.1.1=x.1.1
  ·rw [dT c,iN (by simp),with_loop x t hl l q (i+1) out h3 (by omega) (by omega) (by omega),List.filter_cons_of_neg (by simp [c])]
  ·rw [dF c,iP (show (!false)=true from rfl),iP (by simp only [List.length_cons,List.length_nil]; omega),with_loop x t hl l q (i+1) _ h3 (by omega) (by omega) (by simp; omega),List.filter_cons_of_pos (by simp [c]),List.append_assoc out]
   rfl
def withD (L:List DE)(x:DE):List DE:=L.filter (fun y => !decide (y.1.1=x.1.1))++[x]
theorem with_eq (W:List L71)(L:List DE)(wm:List (List Int))(sl:List ((List Int)×(List Int)))(rf:Int)(lg:List L100)(p:List ST37)(hp:p.length<1000000)(hl:L.length<1000000)(x:DE)(k:Nat)(hk:L.length<k) :
  fb6_.f k (mkD W L wm sl rf lg p) x=some (mkD W (withD L x) wm sl rf lg (p++[mkD W L wm sl rf lg []])):=by
 unfold fb6_.f
 rw [keep_eq W L wm sl rf lg p hp,oB]
 exact with_loop x (mkD W L wm sl rf lg (p++[mkD W L wm sl rf lg []])) hl L k 0 [] rfl (Nat.zero_le _) hk (Nat.zero_le _)
theorem findL_none_filter {x a:List Int}(h:x=a):∀ L:List DE,findL (L.filter fun y => !decide (y.1.1=x)) a=none
 | []=>rfl
 | y::L=>by
  by_cases c:y.1.1=x
  ·rw [List.filter_cons_of_neg (by simp [c])]; exact findL_none_filter h L
  ·rw [List.filter_cons_of_pos (by simp [c])]
   show (if y.1.1=a then some y else _)=none
   rw [iN (fun e=>c (e.trans h.symm))]
   exact findL_none_filter h L
theorem findL_app (L:List DE)(x:DE)(a:List Int):findL (L++[x]) a=match findL L a with | some y=>some y | none=>if x.1.1=a then some x else none:=by
 induction L with
 | nil=>rfl
 | cons y L ih =>
  show (if y.1.1=a then some y else findL (L++[x]) a)=match (if y.1.1=a then some y else findL L a) with | some y=>some y | none=>_
  by_cases c:y.1.1=a
  ·rw [iP c,iP c]
  ·rw [iN c,iN c,ih]
theorem findL_filter {x a:List Int}(h:x≠a):∀ L:List DE,findL (L.filter fun y => !decide (y.1.1=x)) a=findL L a
 | []=>rfl
 | y::L=>by
  by_cases c:y.1.1=x
  ·rw [List.filter_cons_of_neg (by simp [c]),findL_filter h L]
   show _=if y.1.1=a then some y else findL L a
   rw [iN (fun e=>h (c.symm.trans e))]
  ·rw [List.filter_cons_of_pos (by simp [c])]
   show (if y.1.1=a then some y else _)=if y.1.1=a then some y else _
   rw [findL_filter h L]
theorem atD_with (W:List L71)(L:List DE)(x:DE)(a:List Int):atD W (withD L x) a=if x.1.1=a then x else atD W L a:=by
 unfold atD withD
 rw [findL_app]
 by_cases c:x.1.1=a
 ·rw [findL_none_filter c]; simp only [iP c]
 ·rw [findL_filter c]
  cases findL L a <;> simp only [iN c]
structure Vw where
 now:L71
 fresh:Bool
 dead:Bool
 warm:Bool
 sets:List Int→Option (List Int)
 wrms:List Int→Option Bool
def vwE (h:Hp)(e:L110):Vw:=⟨e.2.1,e.2.2.1,e.2.2.2.2.1,e.2.2.2.2.2.1,aget (atE h.2.2.1 (eS e)),aget (atE h.2.2.2 (eW e))⟩
def vw (W:List L71)(h:Hp)(a:List Int):Vw:=match aget h.1 a with
 | some v=>vwE h (atE h.2.1 (v.getD 0))
 | none=>⟨baseA W a,false,false,false,fun _=>none,fun _=>none⟩
theorem vw_some {W:List L71}{h:Hp}{a:List Int}{i:Nat}(e:aget h.1 a=some (some i)):vw W h a=vwE h (atE h.2.1 i):=by
 unfold vw; rw [e]; rfl
theorem vwE_ext {W:List L71}{h h':Hp}(hw:Wf W h)(e:Ext W h h'){i:Nat}(hi:i<h.2.1.length):vwE h' (atE h'.2.1 i)=vwE h (atE h.2.1 i):=by
 have hm:=hw.maps i hi
 unfold vwE
 rw [(e.ents i hi).2]
 congr 1
 ·exact funext (e.sets _ hm.1).2
 ·exact funext (e.wrms _ hm.2).2
theorem vw_ext {W:List L71}{h h':Hp}(hw:Wf W h)(e:Ext W h h')(a:List Int):vw W h' a=vw W h a:=by
 cases ha:aget h.1 a with
 | some v =>
  obtain ⟨i,rfl,hi,_⟩:=hw.ids a v ha
  rw [vw_some ha,vw_some (e.old a _ ha),vwE_ext hw e hi]
 | none =>
  have h1:vw W h a=⟨baseA W a,false,false,false,fun _=>none,fun _=>none⟩:=by unfold vw; rw [ha]
  rw [h1]
  cases hb:aget h'.1 a with
  | none=>unfold vw; rw [hb]
  | some v =>
   obtain ⟨i,rfl,hi,s,w,e1,e2,e3,e4,e5⟩:=e.new a v ha hb
   rw [vw_some hb,e1]
   unfold vwE eNew
   simp only
   congr 1
   ·exact funext e4
   ·exact funext e5
theorem ids_ne {W:List L71}{h:Hp}(hw:Wf W h){a b:List Int}{i j:Nat}(ha:aget h.1 a=some (some i))(hb:aget h.1 b=some (some j))(c:b≠a):j≠i:=fun e=>by
 obtain ⟨i2,e1,h1,h2,h3⟩:=hw.ids a _ ha
 obtain ⟨j2,e2,k1,k2,k3⟩:=hw.ids b _ hb
 obtain rfl:=sI e1
 obtain rfl:=sI e2
 subst e
 exact c (k3.symm.trans h3)
theorem ids_lt {W:List L71}{h:Hp}(hw:Wf W h){a:List Int}{i:Nat}(ha:aget h.1 a=some (some i)):i<h.2.1.length∧(atE h.2.1 i).1=baseA W a∧(atE h.2.1 i).2.1.1=a:=by
 obtain ⟨i2,e1,h1⟩:=hw.ids a _ ha
 obtain rfl:=sI e1
 exact h1
theorem vw_none {W:List L71}{h:Hp}{a:List Int}(e:aget h.1 a=none):vw W h a=⟨baseA W a,false,false,false,fun _=>none,fun _=>none⟩:=by
 unfold vw; rw [e]
theorem vw_gen {W:List L71}{h:Hp}(hw:Wf W h){a:List Int}{i:Nat}(ha:aget h.1 a=some (some i)){es:List L110}{sm:List KvS}{wm:List KvB}(he:∀ j,j<h.2.1.length→j≠i→atE es j=atE h.2.1 j)
  (hs:∀ j,j<h.2.1.length→j≠i→atE sm (eS (atE h.2.1 j))=atE h.2.2.1 (eS (atE h.2.1 j))) (hm:∀ j,j<h.2.1.length→j≠i→atE wm (eW (atE h.2.1 j))=atE h.2.2.2 (eW (atE h.2.1 j))) (b:List Int) :
  vw W (h.1,es,sm,wm) b=if b=a then vwE (h.1,es,sm,wm) (atE es i) else vw W h b:=by
 by_cases c:b=a
 ·rw [iP c,c]; exact vw_some ha
 ·rw [iN c]
  cases hb:aget h.1 b with
  | none=>rw [vw_none hb]; exact vw_none hb
  | some v =>
   obtain ⟨j,rfl,hj,_⟩:=hw.ids b v hb
   have hne:=ids_ne hw ha hb c
   rw [vw_some hb]
   refine (vw_some (h:=(h.1,es,sm,wm)) hb).trans ?_
   show vwE _ (atE es j)=_
   rw [he j hj hne]
   unfold vwE
   simp only [hs j hj hne,hm j hj hne]
theorem vw_set {W:List L71}{h:Hp}(hw:Wf W h){a:List Int}{i:Nat}(ha:aget h.1 a=some (some i))(y:L110)(b:List Int):vw W (setE h i y) b=if b=a then vwE h y else vw W h b:=by
 have hi:=(ids_lt hw ha).1
 rw [show setE h i y=(h.1,h.2.1.set i y,h.2.2.1,h.2.2.2) from rfl,vw_gen hw ha (fun j hj c=>(atE_set _ _ _ hj).trans (iN (fun e=>c e.symm))) (fun _ _ _=>rfl) (fun _ _ _=>rfl) b,(atE_set _ _ _ hi).trans (iP rfl)]
 rfl
theorem vw_make {W:List L71}{h:Hp}(hw:Wf W h){a:List Int}{i:Nat}(ha:aget h.1 a=some (some i))(b:List Int) :
  vw W (hMake h i) b=if b=a then { vwE h (atE h.2.1 i) with fresh:=true,sets:=fun _=>none } else vw W h b:=by
 have hi:=(ids_lt hw ha).1
 rw [vw_gen hw ha (es:=(hMake h i).2.1) (sm:=(hMake h i).2.2.1) (wm:=(hMake h i).2.2.2) (fun j hj c=>(atE_set _ _ _ hj).trans (iN (fun e=>c e.symm))) (fun j hj _=>atE_app _ _ (hw.maps j hj).1) (fun _ _ _=>rfl) b]
 by_cases c:b=a
 ·rw [iP c,iP c,show atE (hMake h i).2.1 i=((atE h.2.1 i).1,(atE h.2.1 i).2.1,true,h.2.2.1.length,(atE h.2.1 i).2.2.2.2) from (atE_set _ _ _ hi).trans (iP rfl)]
  unfold vwE
  congr 1
  show aget (atE (h.2.2.1++[[]]) h.2.2.1.length)=_
  rw [atE_end]; rfl
 ·rw [iN c,iN c]
theorem vw_setS {W:List L71}{h:Hp}(hw:Wf W h){a:List Int}{i:Nat}(ha:aget h.1 a=some (some i))(m:KvS)(b:List Int) :
  vw W (h.1,h.2.1,h.2.2.1.set (eS (atE h.2.1 i)) m,h.2.2.2) b=if b=a then { vwE h (atE h.2.1 i) with sets:=aget m } else vw W h b:=by
 have hi:=(ids_lt hw ha).1
 rw [vw_gen hw ha (fun _ _ _=>rfl) (fun j hj c=>(atE_set _ _ _ (hw.maps j hj).1).trans (iN (fun e=>c (hw.apart j i hj hi (.inl e.symm))))) (fun _ _ _=>rfl) b]
 by_cases c:b=a
 ·rw [iP c,iP c]
  unfold vwE
  congr 1
  show aget (atE (h.2.2.1.set _ m) _)=_
  rw [(atE_set _ _ _ (hw.maps i hi).1).trans (iP rfl)]
 ·rw [iN c,iN c]
theorem vw_setW {W:List L71}{h:Hp}(hw:Wf W h){a:List Int}{i:Nat}(ha:aget h.1 a=some (some i))(m:KvB)(b:List Int) :
  vw W (h.1,h.2.1,h.2.2.1,h.2.2.2.set (eW (atE h.2.1 i)) m) b=if b=a then { vwE h (atE h.2.1 i) with wrms:=aget m } else vw W h b:=by
 have hi:=(ids_lt hw ha).1
 rw [vw_gen hw ha (fun _ _ _=>rfl) (fun _ _ _=>rfl) (fun j hj c=>(atE_set _ _ _ (hw.maps j hj).2).trans (iN (fun e=>c (hw.apart j i hj hi (.inr e.symm))))) b]
 by_cases c:b=a
 ·rw [iP c,iP c]
  unfold vwE
  congr 1
  show aget (atE (h.2.2.2.set _ m) _)=_
  rw [(atE_set _ _ _ (hw.maps i hi).2).trans (iP rfl)]
 ·rw [iN c,iN c]
abbrev w0:List Int:=[0,0,0,0]
def slotD:KvS→List Int→List Int
 | [],_=>w0
 | s::l,k=>if s.1=k then s.2 else slotD l k
def setG (key v:List Int):Bool→KvS→KvS
 | d,[]=>if d=false∧v≠w0 then [(key,v)] else []
 | d,o::l =>
  if d=false∧wv key≤wv o.1 then (if v≠w0 then [(key,v)] else [])++((if o.1≠key then [o] else [])++setG key v true l)
  else (if o.1≠key then [o] else [])++setG key v d l
theorem set_j5 (key:List Int)(t:DE)(i:Nat)(hi:i<t.1.2.2.2.2.length)(hl:t.1.2.2.2.2.length<1000000)(rec1:Int→Bool→KvS→Option ST37)(out:KvS)(ho:out.length≤i+2)(d:Bool) :
  fd2_.j5 key t (i:Int) rec1 out d=rec1 ((i+1:Nat):Int) d (out++if (gt t.1.2.2.2.2 (i:Int)).1≠key then [gt t.1.2.2.2.2 (i:Int)] else []):=by
 unfold fd2_.j5 fd2_.j4
 rw [next1 i (by omega)]
 by_cases c:(gt t.1.2.2.2.2 (i:Int)).1=key
 ·rw [dT c,iN (by simp),iN (by simp [c]),List.append_nil]
 ·rw [dF c,iP (show (!false)=true from rfl),iP (by simp only [List.length_cons,List.length_nil]; omega),iP c]
theorem cmpI_le {x y:Int}:cmpI x y≤0↔x≤y:=by
 unfold cmpI
 split
 ·constructor <;> intro <;> omega
 ·split <;> constructor <;> intro <;> omega
theorem set_loop (k:Nat)(x1:ST37)(key v:List Int)(hk:Wd key)(t:DE)(hs:∀ s∈t.1.2.2.2.2,Wd s.1)(hl:t.1.2.2.2.2.length<1000000):∀ (l:KvS) (q i:Nat) (d:Bool) (out:KvS),t.1.2.2.2.2.drop i=l→i≤t.1.2.2.2.2.length→l.length<q→out.length≤i+(if d=true then 1 else 0) →
  fd2_.l1 (k+40) x1 key v t q (i:Int) d out=(fb6_.f (k+40) x1 ((t.1.1,t.1.2.1,t.1.2.2.1,t.1.2.2.2.1,out++setG key v d l),t.2.1,t.2.2)).bind fun t2=>some t2
 | [],q,i,d,out,hd,hi,hq,ho=>by
  obtain ⟨q,rfl⟩:∃ m,q=m+1:=⟨q - 1,by omega⟩
  have:t.1.2.2.2.2.length≤i:=by simpa using hd
  have ho2:out.length≤i+1:=by cases d <;> simp at ho <;> omega
  show fd2_.b1 _ _ _ _ _ _ _ _ _=_
  unfold fd2_.b1 fd2_.j1 fd2_.j3 fd2_.j2 setG
  rw [iN (by simp; omega)]
  cases d with
  | true=>rw [iN (by simp),iN (by simp),iN (by simp),List.append_nil]
  | false =>
   rw [iP (by rfl)]
   by_cases c:v=w0
   ·rw [dT c,iN (by simp),iN (fun e=>e.2 c),List.append_nil]
   ·rw [dF c,iP (by rfl),iP (by simp only [List.length_cons,List.length_nil]; omega),iP ⟨rfl,c⟩]
 | o::l,q,i,d,out,hd,hi,hq,ho=>by
  simp only [List.length_cons] at hq
  obtain ⟨q,rfl⟩:∃ m,q=m+1:=⟨q - 1,by omega⟩
  obtain ⟨h1,h2,h3⟩:=gt_dropA hd
  have hm:Wd o.1:=hs o (List.drop_subset i _ (by rw [hd]; exact List.mem_cons_self))
  have ho2:out.length≤i+1:=by cases d <;> simp at ho <;> omega
  show fd2_.b1 _ _ _ _ _ _ _ _ _=_
  unfold fd2_.b1 setG
  rw [iP (by simp; omega),iP (by omega),h1]
  cases d with
  | true =>
   rw [iN (by simp),iN (by simp)]
   unfold fd2_.j6
   rw [iN (by simp),set_j5 key t i h2 hl _ out (by omega) true,h1,set_loop k x1 key v hk t hs hl l q (i+1) true _ h3 (by omega) (by omega) (by simp only [List.length_append]; split <;> simp <;> omega),List.append_assoc]
  | false =>
   obtain ⟨d1,e1,e2,e3,e4⟩:=ofD_eq k hk
   obtain ⟨d2,f1,f2,f3,f4⟩:=ofD_eq k hm
   rw [iP (by rfl),e1,oB,f1,oB,cmpD_eq k e3 f3 e2 f2,oB,e4,f4]
   unfold fd2_.j6
   simp only [Bool.false_eq_true,if_false] at ho
   by_cases c:wv key≤wv o.1
   ·rw [dT (cmpI_le.2 c),iP (show (true:Bool)=true from rfl),iP (show (false:Bool)=false∧wv key≤wv o.1 from ⟨rfl,c⟩)]
    by_cases cv:v=w0
    ·rw [dT cv,iN (by simp),iN (fun e=>e cv),set_j5 key t i h2 hl _ out (by omega) true,h1,set_loop k x1 key v hk t hs hl l q (i+1) true _ h3 (by omega) (by omega) (by simp only [List.length_append]; split <;> simp <;> omega),List.nil_append,List.append_assoc]
    ·rw [dF cv,iP (show (!false)=true from rfl),iP cv,iP (by simp only [List.length_cons,List.length_nil]; omega),set_j5 key t i h2 hl _ _ (by simp; omega) true,h1,set_loop k x1 key v hk t hs hl l q (i+1) true _ h3 (by omega) (by omega) (by simp only [List.length_append]; split <;> simp <;> omega)]
     simp only [List.append_assoc]
   ·rw [dF (fun e=>c (cmpI_le.1 e)),iN (by simp),iN (fun e=>c e.2),set_j5 key t i h2 hl _ out (by omega) false,h1,set_loop k x1 key v hk t hs hl l q (i+1) false _ h3 (by omega) (by omega) (by simp only [List.length_append]; split <;> simp <;> omega),List.append_assoc]
def StOK (l:KvS):Prop:=l.Pairwise (fun a b=>wv a.1<wv b.1)∧∀ s∈l,s.2≠w0∧Wd s.1
theorem setG_true (key v:List Int):∀ l:KvS,setG key v true l=l.filter fun o => !decide (o.1=key)
 | []=>by unfold setG; rw [iN (by simp)]; rfl
 | o::l=>by
  unfold setG
  rw [iN (by simp),setG_true key v l]
  by_cases c:o.1=key
  ·rw [iN (by simp [c]),List.filter_cons_of_neg (by simp [c])]; rfl
  ·rw [iP c,List.filter_cons_of_pos (by simp [c])]; rfl
theorem slotD_filter (key q:List Int):∀ l:KvS,slotD (l.filter fun o => !decide (o.1=key)) q=if q=key then w0 else slotD l q
 | []=>by
  show w0=if q=key then w0 else w0
  split <;> rfl
 | o::l=>by
  by_cases c:o.1=key
  ·rw [List.filter_cons_of_neg (by simp [c]),slotD_filter key q l]
   by_cases d:q=key
   ·rw [iP d,iP d]
   ·rw [iN d,iN d]
    show _=if o.1=q then o.2 else slotD l q
    rw [iN (fun e=>d (e.symm.trans c))]
  ·rw [List.filter_cons_of_pos (by simp [c])]
   show (if o.1=q then o.2 else slotD (l.filter _) q)=_
   rw [slotD_filter key q l]
   by_cases d:q=key
   ·rw [iP d,iP d,iN (fun e=>c (e.trans d))]
   ·rw [iN d,iN d]; rfl
theorem cons_if (key:List Int)(o:List Int×List Int)(l:KvS):((if o.1≠key then [o] else [])++l.filter fun o => !decide (o.1=key))=(o::l).filter fun o => !decide (o.1=key):=by
 by_cases c:o.1=key
 ·rw [iN (by simp [c]),List.filter_cons_of_neg (by simp [c])]; rfl
 ·rw [iP c,List.filter_cons_of_pos (by simp [c])]; rfl
theorem slotD_put (key v q:List Int)(m:KvS)(hm:∀ q,slotD m q=if q=key then w0 else slotD m q):slotD ((if v≠w0 then [(key,v)] else [])++m) q=if q=key then v else slotD m q:=by
 by_cases c:v=w0
 ·rw [iN (by simp [c]),List.nil_append,hm q,c]
  by_cases d:q=key
  ·rw [iP d,iP d]
  ·rw [iN d,iN d]
 ·rw [iP c]
  show (if key=q then v else slotD m q)=_
  by_cases d:q=key
  ·rw [iP d,iP d.symm]
  ·rw [iN d,iN (fun e=>d e.symm)]
theorem slotD_set (key v q:List Int):∀ l:KvS,slotD (setG key v false l) q=if q=key then v else slotD l q
 | []=>by
  unfold setG
  have:=slotD_put key v q [] (fun q=>by show w0=if q=key then w0 else w0; split <;> rfl)
  rw [List.append_nil] at this
  by_cases c:v=w0
  ·rw [iN (fun e=>e.2 c)]
   rw [iN (by simp [c])] at this
   exact this
  ·rw [iP ⟨rfl,c⟩]
   rw [iP c] at this
   exact this
 | o::l=>by
  unfold setG
  by_cases c:wv key≤wv o.1
  ·rw [iP (show (false:Bool)=false∧wv key≤wv o.1 from ⟨rfl,c⟩),setG_true,cons_if,slotD_put key v q _ (fun q=>by
    rw [slotD_filter]
    by_cases d:q=key
    ·rw [iP d,iP d]
    ·rw [iN d,iN d]),slotD_filter]
   by_cases d:q=key
   ·rw [iP d,iP d]
   ·rw [iN d,iN d,iN d]
  ·have hne:o.1≠key:=fun e=>c (by rw [e]; exact Int.le_refl _)
   rw [iN (fun e=>c e.2),iP hne]
   show (if o.1=q then o.2 else slotD (setG key v false l) q)=if q=key then v else (if o.1=q then o.2 else slotD l q)
   rw [slotD_set key v q l]
   by_cases d:q=key
   ·rw [iP d,iP d,iN (fun e=>hne (e.trans d))]
   ·rw [iN d,iN d]
theorem setG_mem {key v:List Int}:∀ {l:KvS} {s:List Int×List Int},s∈setG key v false l→(s=(key,v)∧v≠w0)∨s∈l
 | [],s,h=>by
  unfold setG at h
  by_cases c:v=w0
  ·rw [iN (fun e=>e.2 c)] at h; simp at h
  ·rw [iP ⟨rfl,c⟩] at h; exact .inl ⟨by simpa using h,c⟩
 | o::l,s,h=>by
  unfold setG at h
  by_cases c:wv key≤wv o.1
  ·rw [iP (show (false:Bool)=false∧wv key≤wv o.1 from ⟨rfl,c⟩),setG_true,cons_if] at h
   rcases List.mem_append.1 h with h | h
   ·by_cases cv:v=w0
    ·rw [iN (by simp [cv])] at h; simp at h
    ·rw [iP cv] at h; exact .inl ⟨by simpa using h,cv⟩
   ·exact .inr (List.mem_filter.1 h).1
  ·have hne:o.1≠key:=fun e=>c (by rw [e]; exact Int.le_refl _)
   rw [iN (fun e=>c e.2),iP hne] at h
   rcases List.mem_append.1 h with h | h
   ·simp only [List.mem_singleton] at h
    exact .inr (by rw [h]; exact List.mem_cons_self)
   ·rcases setG_mem h with h | h
    ·exact .inl h
    ·exact .inr (List.mem_cons_of_mem _ h)
theorem setG_ok {key v:List Int}(hk:Wd key):∀ {l:KvS},StOK l→StOK (setG key v false l):=fun {l} hl=>by
 refine ⟨?_,fun s hs=>?_⟩
 ·obtain ⟨h1,h2⟩:=hl
  induction l with
  | nil =>
   unfold setG
   split
   ·exact List.pairwise_singleton _ _
   ·exact List.Pairwise.nil
  | cons o l ih =>
   have hp:=List.pairwise_cons.1 h1
   unfold setG
   by_cases c:wv key≤wv o.1
   ·rw [iP (show (false:Bool)=false∧wv key≤wv o.1 from ⟨rfl,c⟩),setG_true,cons_if]
    have hf:((o::l).filter fun o => !decide (o.1=key)).Pairwise (fun a b=>wv a.1<wv b.1):=h1.filter _
    by_cases cv:v=w0
    ·rw [iN (by simp [cv])]; exact hf
    ·rw [iP cv]
     refine List.pairwise_cons.2 ⟨fun b hb=>?_,hf⟩
     obtain ⟨hb1,hb2⟩:=List.mem_filter.1 hb
     have hne:b.1≠key:=by simpa using hb2
     have hle:wv key≤wv b.1:=by
      rcases List.mem_cons.1 hb1 with e | e
      ·rw [e]; exact c
      ·have:=hp.1 b e
       omega
     have:wv key≠wv b.1:=fun e=>hne (((h2 b hb1).2).inj hk e.symm)
     show wv key<wv b.1
     omega
   ·have hne:o.1≠key:=fun e=>c (by rw [e]; exact Int.le_refl _)
    rw [iN (fun e=>c e.2),iP hne]
    refine List.pairwise_cons.2 ⟨fun b hb=>?_,ih hp.2 (fun s hs=>h2 s (List.mem_cons_of_mem _ hs))⟩
    rcases setG_mem hb with ⟨e,_⟩ | e
    ·rw [e]; show wv o.1<wv key; omega
    ·exact hp.1 b e
 ·rcases setG_mem hs with ⟨e,hv⟩ | e
  ·rw [e]; exact ⟨hv,hk⟩
  ·exact hl.2 s e
theorem slotD_mem {l:KvS}(h:StOK l){s:List Int×List Int}(hs:s∈l):slotD l s.1=s.2:=by
 obtain ⟨h1,h2⟩:=h
 induction l with
 | nil=>cases hs
 | cons o l ih =>
  have hp:=List.pairwise_cons.1 h1
  show (if o.1=s.1 then o.2 else slotD l s.1)=s.2
  rcases List.mem_cons.1 hs with e | e
  ·rw [e,iP rfl]
  ·have:=hp.1 s e
   rw [iN (fun e=>by rw [e] at this; omega)]
   exact ih e hp.2 (fun s hs=>h2 s (List.mem_cons_of_mem _ hs))
theorem slotD_has {l:KvS}{k:List Int}(h:slotD l k≠w0):(k,slotD l k)∈l:=by
 induction l with
 | nil=>exact absurd rfl h
 | cons o l ih =>
  by_cases c:o.1=k
  ·have e:slotD (o::l) k=o.2:=iP c
   rw [e, ← c]; exact List.mem_cons_self
  ·have e:slotD (o::l) k=slotD l k:=iN c
   rw [e] at h ⊢
   exact List.mem_cons_of_mem _ (ih h)
def ldV (v:Vw)(B:L71)(k:List Int):List Int:=match v.sets k with
 | some w=>w
 | none=>if v.fresh=true then w0 else slotD B.2.2.2.2 k
structure EntR (v:Vw)(B:L71)(x:DE):Prop where
 nonce:x.1.2.1=v.now.2.1
 bal:x.1.2.2.1=v.now.2.2.1
 code:x.1.2.2.2.1=v.now.2.2.2.1
 fresh:x.2.1=v.fresh
 dead:x.2.2=v.dead
 sto:StOK x.1.2.2.2.2
 ld:∀ k,Wd k→slotD x.1.2.2.2.2 k=ldV v B k
 wk:∀ k y,v.sets k=some y→Wd k
structure Rel (W:List L71)(h:Hp)(L:List DE)(wm:List (List Int))(sl:KvS):Prop where
 nd:(L.map fun x=>x.1.1).Nodup
 addr:∀ a,(atD W L a).1.1=a
 ent:∀ a,EntR (vw W h a) (baseA W a) (atD W L a)
 cold:∀ a,a∈wm↔(vw W h a).warm=true
 colds:∀ a k,(a,k)∈sl↔(vw W h a).wrms k=some true
 nof:∀ a k,(vw W h a).wrms k≠some false
theorem Rel.ext {W:List L71}{h h':Hp}{L:List DE}{wm:List (List Int)}{sl:KvS}(r:Rel W h L wm sl)(hw:Wf W h)(e:Ext W h h'):Rel W h' L wm sl :=
 ⟨r.nd,r.addr,fun a=>by rw [vw_ext hw e]; exact r.ent a,fun a=>by rw [vw_ext hw e]; exact r.cold a,fun a k=>by rw [vw_ext hw e]; exact r.colds a k,fun a k=>by rw [vw_ext hw e]; exact r.nof a k⟩
theorem withD_nodup {L:List DE}(h:(L.map fun x=>x.1.1).Nodup)(x:DE):((withD L x).map fun x=>x.1.1).Nodup:=by
 unfold withD
 rw [List.map_append]
 refine List.nodup_append.2 ⟨List.Pairwise.sublist (List.Sublist.map _ List.filter_sublist) h,by simp,fun a ha b hb e=>?_⟩
 simp only [List.map_cons,List.map_nil,List.mem_singleton] at hb
 obtain ⟨y,hy,rfl⟩:=List.mem_map.1 ha
 have:=(List.mem_filter.1 hy).2
 simp only [Bool.not_eq_true',decide_eq_false_iff_not] at this
 exact this (e.trans hb)
theorem Rel.put {W:List L71}{h h1:Hp}{L:List DE}{wm:List (List Int)}{sl:KvS}(r:Rel W h L wm sl){a:List Int}{v:Vw}(hv:∀ b,vw W h1 b=if b=a then v else vw W h b)(hwm:v.warm=(vw W h a).warm)(hws:v.wrms=(vw W h a).wrms){x:DE}(hx:x.1.1=a)(he:EntR v (baseA W a) x):Rel W h1 (withD L x) wm sl where
 nd:=withD_nodup r.nd x
 addr:=fun b=>by
  rw [atD_with]
  split
  ·rename_i c; exact c
  ·exact r.addr b
 ent:=fun b=>by
  rw [atD_with,hv b,hx]
  by_cases c:b=a
  ·rw [iP c,iP c.symm,c]; exact he
  ·rw [iN c,iN (fun e=>c e.symm)]; exact r.ent b
 cold:=fun b=>by
  rw [hv b]
  by_cases c:b=a
  ·rw [iP c,hwm,c]; exact r.cold a
  ·rw [iN c]; exact r.cold b
 colds:=fun b k=>by
  rw [hv b]
  by_cases c:b=a
  ·rw [iP c,hws,c]; exact r.colds a k
  ·rw [iN c]; exact r.colds b k
 nof:=fun b k=>by
  rw [hv b]
  by_cases c:b=a
  ·rw [iP c,hws]; exact r.nof a k
  ·rw [iN c]; exact r.nof b k
section
variable {W:List L71} {h:Hp} {L:List DE} {wm:List (List Int)} {sl:KvS} (r:Rel W h L wm sl) (hw:Wf W h) {a:List Int} {i:Nat} (ha:aget h.1 a=some (some i))
include r hw ha
theorem ent_at:EntR (vwE h (atE h.2.1 i)) (baseA W a) (atD W L a):=by rw [← vw_some (W:=W) ha]; exact r.ent a
theorem rel_nonce (n:Int):Rel W (setE h i ((atE h.2.1 i).1,((atE h.2.1 i).2.1.1,n,(atE h.2.1 i).2.1.2.2),(atE h.2.1 i).2.2)) (withD L (((atD W L a).1.1,n,(atD W L a).1.2.2),(atD W L a).2)) wm sl:=by
 have e:=ent_at r hw ha
 exact r.put (vw_set hw ha _) (by rw [vw_some (W:=W) ha]; rfl) (by rw [vw_some (W:=W) ha]; rfl) (r.addr a) ⟨rfl,e.bal,e.code,e.fresh,e.dead,e.sto,e.ld,e.wk⟩
theorem rel_balance (n:List Int):Rel W (setE h i ((atE h.2.1 i).1,((atE h.2.1 i).2.1.1,(atE h.2.1 i).2.1.2.1,n,(atE h.2.1 i).2.1.2.2.2),(atE h.2.1 i).2.2)) (withD L (((atD W L a).1.1,(atD W L a).1.2.1,n,(atD W L a).1.2.2.2),(atD W L a).2)) wm sl:=by
 have e:=ent_at r hw ha
 exact r.put (vw_set hw ha _) (by rw [vw_some (W:=W) ha]; rfl) (by rw [vw_some (W:=W) ha]; rfl) (r.addr a) ⟨e.nonce,rfl,e.code,e.fresh,e.dead,e.sto,e.ld,e.wk⟩
theorem rel_code (n:List Int):Rel W (setE h i ((atE h.2.1 i).1,((atE h.2.1 i).2.1.1,(atE h.2.1 i).2.1.2.1,(atE h.2.1 i).2.1.2.2.1,n,(atE h.2.1 i).2.1.2.2.2.2),(atE h.2.1 i).2.2)) (withD L (((atD W L a).1.1,(atD W L a).1.2.1,(atD W L a).1.2.2.1,n,(atD W L a).1.2.2.2.2),(atD W L a).2)) wm sl:=by
 have e:=ent_at r hw ha
 exact r.put (vw_set hw ha _) (by rw [vw_some (W:=W) ha]; rfl) (by rw [vw_some (W:=W) ha]; rfl) (r.addr a) ⟨e.nonce,e.bal,rfl,e.fresh,e.dead,e.sto,e.ld,e.wk⟩
theorem rel_destroy:Rel W (setE h i ((atE h.2.1 i).1,(atE h.2.1 i).2.1,(atE h.2.1 i).2.2.1,(atE h.2.1 i).2.2.2.1,true,(atE h.2.1 i).2.2.2.2.2)) (withD L ((atD W L a).1,(atD W L a).2.1,true)) wm sl:=by
 have e:=ent_at r hw ha
 exact r.put (vw_set hw ha _) (by rw [vw_some (W:=W) ha]; rfl) (by rw [vw_some (W:=W) ha]; rfl) (r.addr a) ⟨e.nonce,e.bal,e.code,e.fresh,rfl,e.sto,e.ld,e.wk⟩
theorem rel_make:Rel W (hMake h i) (withD L (((atD W L a).1.1,(atD W L a).1.2.1,(atD W L a).1.2.2.1,(atD W L a).1.2.2.2.1,([]:KvS)),true,(atD W L a).2.2)) wm sl:=by
 have e:=ent_at r hw ha
 exact r.put (vw_make hw ha) (by rw [vw_some (W:=W) ha]) (by rw [vw_some (W:=W) ha]) (r.addr a) ⟨e.nonce,e.bal,e.code,rfl,e.dead,⟨List.Pairwise.nil,fun s hs=>by cases hs⟩,fun k hk=>rfl,fun k y h=>by cases h⟩
theorem rel_set {key v:List Int}(hk:Wd key):Rel W (h.1,h.2.1,h.2.2.1.set (eS (atE h.2.1 i)) (aput (atE h.2.2.1 (eS (atE h.2.1 i))) key v),h.2.2.2)
  (withD L (((atD W L a).1.1,(atD W L a).1.2.1,(atD W L a).1.2.2.1,(atD W L a).1.2.2.2.1,setG key v false (atD W L a).1.2.2.2.2),(atD W L a).2)) wm sl:=by
 have e:=ent_at r hw ha
 refine r.put (vw_setS hw ha _) (by rw [vw_some (W:=W) ha]) (by rw [vw_some (W:=W) ha]) (r.addr a) ⟨e.nonce,e.bal,e.code,e.fresh,e.dead,setG_ok hk e.sto,fun q hq=>?_,fun q y h=>by
  simp only [aget_aput] at h
  split at h
  ·rename_i c; rw [c]; exact hk
  ·exact e.wk q y h⟩
 show slotD (setG key v false (atD W L a).1.2.2.2.2) q=_
 rw [slotD_set]
 unfold ldV
 simp only [aget_aput]
 by_cases c:q=key
 ·rw [iP c,iP c]
 ·rw [iN c,iN c]
  exact e.ld q hq
theorem rel_touch:Rel W (setE h i ((atE h.2.1 i).1,(atE h.2.1 i).2.1,(atE h.2.1 i).2.2.1,(atE h.2.1 i).2.2.2.1,(atE h.2.1 i).2.2.2.2.1,true,(atE h.2.1 i).2.2.2.2.2.2)) L (wm++[a]) sl:=by
 have e:=ent_at r hw ha
 have hv:=vw_set hw ha ((atE h.2.1 i).1,(atE h.2.1 i).2.1,(atE h.2.1 i).2.2.1,(atE h.2.1 i).2.2.2.1,(atE h.2.1 i).2.2.2.2.1,true,(atE h.2.1 i).2.2.2.2.2.2)
 have en:=r.nof a
 rw [vw_some (W:=W) ha] at en
 refine ⟨r.nd,r.addr,fun b=>?_,fun b=>?_,fun b k=>?_,fun b k=>by
  rw [hv b]
  by_cases c:b=a
  ·rw [iP c]; exact en k
  ·rw [iN c]; exact r.nof b k⟩
 ·rw [hv b]
  by_cases c:b=a
  ·rw [iP c,c]; exact ⟨e.nonce,e.bal,e.code,e.fresh,e.dead,e.sto,e.ld,e.wk⟩
  ·rw [iN c]; exact r.ent b
 ·rw [hv b,List.mem_append,List.mem_singleton]
  by_cases c:b=a
  ·rw [iP c]; exact ⟨fun _=>rfl,fun _=> .inr c⟩
  ·rw [iN c, ← r.cold b]; exact ⟨fun h=>h.resolve_right c, .inl⟩
 ·rw [hv b]
  by_cases c:b=a
  ·rw [iP c,c,r.colds a k,vw_some (W:=W) ha]; rfl
  ·rw [iN c]; exact r.colds b k
theorem rel_touchSlot (key:List Int):Rel W (h.1,h.2.1,h.2.2.1,h.2.2.2.set (eW (atE h.2.1 i)) (aput (atE h.2.2.2 (eW (atE h.2.1 i))) key true)) L wm (sl++[(a,key)]):=by
 have e:=ent_at r hw ha
 have hv:=vw_setW hw ha (aput (atE h.2.2.2 (eW (atE h.2.1 i))) key true)
 have en:=r.nof a
 rw [vw_some (W:=W) ha] at en
 refine ⟨r.nd,r.addr,fun b=>?_,fun b=>?_,fun b k=>?_,fun b k=>by
  rw [hv b]
  by_cases c:b=a
  ·rw [iP c]
   simp only [aget_aput]
   split
   ·simp
   ·exact en k
  ·rw [iN c]; exact r.nof b k⟩
 ·rw [hv b]
  by_cases c:b=a
  ·rw [iP c,c]; exact ⟨e.nonce,e.bal,e.code,e.fresh,e.dead,e.sto,e.ld,e.wk⟩
  ·rw [iN c]; exact r.ent b
 ·rw [hv b]
  by_cases c:b=a
  ·rw [iP c,c,r.cold a,vw_some (W:=W) ha]
  ·rw [iN c]; exact r.cold b
 ·rw [hv b,List.mem_append,List.mem_singleton,r.colds b k]
  by_cases c:b=a
  ·subst c
   rw [iP rfl,vw_some (W:=W) ha]
   simp only [aget_aput]
   by_cases d:k=key
   ·rw [iP d,d]; simp
   ·rw [iN d]
    constructor
    ·rintro (h | h)
     ·exact h
     ·exact absurd (Prod.mk.inj h).2 d
    ·exact .inl
  ·rw [iN c]
   constructor
   ·rintro (h | h)
    ·exact h
    ·exact absurd (Prod.mk.inj h).1 c
   ·exact .inl
end
structure Dd where
 L:List DE
 wm:List (List Int)
 sl:KvS
 rf:Int
 lg:List L100
abbrev Dd.st (W:List L71)(d:Dd)(p:List ST37):ST37:=mkD W d.L d.wm d.sl d.rf d.lg p
abbrev rowD (W:List L71)(p:List Dd):List ST37:=p.map fun w=>w.st W []
def RR (W:List L71)(s:Cst)(d:Dd):Prop:=Rel W s.1 d.L d.wm d.sl∧s.2.1=d.rf∧s.2.2=d.lg
theorem RR.ext {W:List L71}{h h':Hp}{r:Int×List L100}{d:Dd}(c:RR W (h,r) d)(hw:Wf W h)(e:Ext W h h'):RR W (h',r) d:=⟨c.1.ext hw e,c.2.1,c.2.2⟩
structure Sz (n:Nat)(d:Dd):Prop where
 l:d.L.length≤n
 wm:d.wm.length≤n
 sl:d.sl.length≤n
 lg:d.lg.length≤n
 ent:∀ x∈d.L,x.1.2.2.2.2.length≤100+n∧x.1.2.2.2.1.length≤3000∧(∀ y∈x.1.2.2.2.1,inK .u8 y)∧Ad x.1.1
 logs:∀ g∈d.lg,g.2.1.length≤2∧g.2.2.length≤300
theorem Sz.mono {n m:Nat}{d:Dd}(s:Sz n d)(c:n≤m):Sz m d :=
 ⟨by have:=s.l; omega,by have:=s.wm; omega,by have:=s.sl; omega,by have:=s.lg; omega,fun x hx=>⟨by have:=(s.ent x hx).1; omega,(s.ent x hx).2⟩,s.logs⟩
def d0:Dd:=⟨[],[],[],0,[]⟩
structure Inv (W:List L71)(t:Nat)(h:Hp)(rf:Int)(lg:List L100)(un:List Clo)(d:Dd)(p:List Dd):Prop where
 wf:Wf W h
 rel:RR W (h,rf,lg) d
 hist:Hist W (RR W) un.reverse p.reverse (h,rf,lg)
 len:un.length=p.length
 sz:Sz t d
 szp:∀ w∈p,Sz t w
 szh:∃ n,Szh n h∧n+un.length≤t
 fst:(p++[d]).head?=some d0
theorem Inv.mono {W:List L71}{t t':Nat}{h:Hp}{rf:Int}{lg:List L100}{un:List Clo}{d:Dd}{p:List Dd}(i:Inv W t h rf lg un d p)(c:t≤t'):Inv W t' h rf lg un d p :=
 ⟨i.wf,i.rel,i.hist,i.len,i.sz.mono c,fun w hw=>(i.szp w hw).mono c,by obtain ⟨n,h1,h2⟩:=i.szh; exact ⟨n,h1,by omega⟩,i.fst⟩
theorem Inv.ext {W:List L71}{t:Nat}{h h':Hp}{rf:Int}{lg:List L100}{un:List Clo}{d:Dd}{p:List Dd}(i:Inv W t h rf lg un d p)(e:Ext W h h')(z:∀ n,Szh n h→Szh (n+1) h'):Inv W (t+1) h' rf lg un d p :=
 ⟨e.wf,i.rel.ext i.wf e,i.hist.mono e,i.len,i.sz.mono (by omega),fun w hw=>(i.szp w hw).mono (by omega),by obtain ⟨n,h1,h2⟩:=i.szh; exact ⟨n+1,z n h1,by omega⟩,i.fst⟩
theorem Inv.step {W:List L71}{t:Nat}{h h1 h2:Hp}{rf rf2:Int}{lg lg2:List L100}{un:List Clo}{d d2:Dd}{p:List Dd}{c:Clo}(i:Inv W t h rf lg un d p)(e:Ext W h h1)(z:∀ n,Szh n h→Szh (n+2) h2)(u:Und W c (h1,rf,lg) (h2,rf2,lg2))(w2:Wf W h2)(r2:RR W (h2,rf2,lg2) d2)(s2:Sz (t+4) d2):Inv W (t+4) h2 rf2 lg2 (un++[c]) d2 (p++[d]) where
 wf:=w2
 rel:=r2
 hist:=by
  rw [List.reverse_append,List.reverse_append]
  exact ⟨(h1,rf,lg),i.rel.ext i.wf e,e.wf,i.hist.mono e,u⟩
 len:=by simp [i.len]
 sz:=s2
 szp:=fun w hw=>by
  rcases List.mem_append.1 hw with hw | hw
  ·exact (i.szp w hw).mono (by omega)
  ·simp only [List.mem_singleton] at hw; rw [hw]; exact i.sz.mono (by omega)
 szh:=by
  obtain ⟨n,h1,h2⟩:=i.szh
  exact ⟨n+2,z n h1,by simp; omega⟩
 fst:=by rw [List.head?_append,i.fst]; rfl
theorem Inv.lens {W:List L71}{t:Nat}{h:Hp}{rf:Int}{lg:List L100}{un:List Clo}{d:Dd}{p:List Dd}(i:Inv W t h rf lg un d p):un.length≤t∧p.length≤t∧(rowD W p).length=p.length:=by
 obtain ⟨n,h1,h2⟩:=i.szh
 have:=i.len
 refine ⟨by omega,by omega,by simp⟩
theorem Szh.setE {n:Nat}{h:Hp}(s:Szh n h)(i:Nat)(y:L110):Szh n (setE h i y):=s
theorem Szh.setS {n:Nat}{h:Hp}(s:Szh n h)(j:Nat)(k v:List Int):Szh (n+1) (h.1,h.2.1,h.2.2.1.set j (aput (atE h.2.2.1 j) k v),h.2.2.2):=by
 refine ⟨by have:=s.1; show h.1.length≤n+1; omega,fun q hq=>?_⟩
 have hq':q<h.2.2.1.length:=by simpa using hq
 show (atE (h.2.2.1.set j _) q).length≤n+1
 rw [atE_set _ _ _ hq']
 have h1:=s.2 q hq'
 split
 ·rename_i c
  subst c
  have:=aput_len k v (atE h.2.2.1 j)
  omega
 ·omega
theorem Szh.delS {n:Nat}{h:Hp}(s:Szh n h)(j:Nat)(k:List Int):Szh n (h.1,h.2.1,h.2.2.1.set j (adel (atE h.2.2.1 j) k),h.2.2.2):=by
 refine ⟨s.1,fun q hq=>?_⟩
 have hq':q<h.2.2.1.length:=by simpa using hq
 show (atE (h.2.2.1.set j _) q).length≤n
 rw [atE_set _ _ _ hq']
 have h1:=s.2 q hq'
 split
 ·rename_i c
  subst c
  have:=adel_len k (atE h.2.2.1 j)
  omega
 ·omega
theorem Szh.make {n:Nat}{h:Hp}(s:Szh n h)(i:Nat):Szh n (hMake h i):=by
 refine ⟨s.1,fun q hq=>?_⟩
 show (atE (h.2.2.1++[[]]) q).length≤n
 have h1:q<h.2.2.1.length∨q=h.2.2.1.length:=by simp at hq; omega
 rcases h1 with h1 | rfl
 ·rw [atE_app _ _ h1]; exact s.2 q h1
 ·rw [atE_end]; simp
theorem clo_szh {n:Nat}{W:List L71}{h:Hp}{rf:Int}{lg:List L100}{un:List Clo}{ms:List (List Int)}(s:Szh n h):∀ (c:Clo) {W':List L71} {h':Hp} {rf':Int} {lg':List L100} {un':List Clo} {ms':List (List Int)},fj_.f c (W,h,rf,lg,un,ms)=some (W',h',rf',lg',un',ms')→Szh (n+1) h'
 | .c69 x0,W',h',rf',lg',un',ms',e=>by
  simp only [fj_.f,fe0_.f] at e
  split at e
  ·simp only [oB,Option.some.injEq,Prod.mk.injEq] at e
   obtain ⟨-,rfl, -⟩:=e
   exact (s.setE _ _).mono (by omega)
  ·cases e
 | .c70 x0 x1,W',h',rf',lg',un',ms',e=>by
  simp only [fj_.f,fb4_.f] at e
  split at e
  ·simp only [oB,Option.some.injEq,Prod.mk.injEq] at e
   obtain ⟨-,rfl, -⟩:=e
   exact Szh.mono (n:=n) s (by omega)
  ·cases e
 | .c72 x0 x1 x2 x3,W',h',rf',lg',un',ms',e=>by
  simp only [fj_.f,ff8_.f] at e
  split at e
  ·simp only [oB,Option.some.injEq,Prod.mk.injEq] at e
   obtain ⟨-,rfl, -⟩:=e
   exact s.setS _ _ _
  ·simp only [oB,Option.some.injEq,Prod.mk.injEq] at e
   obtain ⟨-,rfl, -⟩:=e
   exact (s.delS _ _).mono (by omega)
 | .c73 x0 x1,W',h',rf',lg',un',ms',e=>by
  simp only [fj_.f,fc1_.f] at e
  split at e
  ·simp only [oB,Option.some.injEq,Prod.mk.injEq] at e
   obtain ⟨-,rfl, -⟩:=e
   exact (s.setE _ _).mono (by omega)
  ·cases e
 | .c75 x0 x1,W',h',rf',lg',un',ms',e=>by
  simp only [fj_.f,fb0_.f] at e
  split at e
  ·simp only [oB,Option.some.injEq,Prod.mk.injEq] at e
   obtain ⟨-,rfl, -⟩:=e
   exact (s.setE _ _).mono (by omega)
  ·cases e
 | .c76 x0 x1,W',h',rf',lg',un',ms',e=>by
  simp only [fj_.f,fd3_.f] at e
  split at e
  ·simp only [oB,Option.some.injEq,Prod.mk.injEq] at e
   obtain ⟨-,rfl, -⟩:=e
   exact (s.setE _ _).mono (by omega)
  ·cases e
 | .c77 x0 x1 x2,W',h',rf',lg',un',ms',e=>by
  simp only [fj_.f,fe7_.f] at e
  split at e
  ·simp only [oB,Option.some.injEq,Prod.mk.injEq] at e
   obtain ⟨-,rfl, -⟩:=e
   exact Szh.mono (n:=n) s (by omega)
  ·cases e
 | .c83 x0 x1,W',h',rf',lg',un',ms',e=>by
  simp only [fj_.f,fg_.f,oB,Option.some.injEq,Prod.mk.injEq] at e
  obtain ⟨-,rfl, -⟩:=e
  exact s.mono (by omega)
 | .c84 x0 x1,W',h',rf',lg',un',ms',e=>by
  simp only [fj_.f,ff3_.f] at e
  split at e
  ·simp only [oB,Option.some.injEq,Prod.mk.injEq] at e
   obtain ⟨-,rfl, -⟩:=e
   exact s.mono (by omega)
  ·cases e
 | .c85 x0 x1,W',h',rf',lg',un',ms',e=>by
  simp only [fj_.f,fc8_.f] at e
  split at e
  ·simp only [oB,Option.some.injEq,Prod.mk.injEq] at e
   obtain ⟨-,rfl, -⟩:=e
   exact (s.setE _ _).mono (by omega)
  ·cases e
structure WG (W:List L71):Prop where
 len:W.length≤50
 acc:∀ x∈W,SmallA x∧StOK x.2.2.2.2∧(∀ y∈x.2.2.2.1,inK .u8 y)∧Ad x.1
theorem baseA_ok {W:List L71}(hW:WG W)(a:List Int):SmallA (baseA W a)∧StOK (baseA W a).2.2.2.2∧∀ y∈(baseA W a).2.2.2.1,inK .u8 y:=by
 unfold baseA
 cases hf:findA W a with
 | some x =>
  obtain ⟨h1,h2,h3,h4⟩:=hW.acc x (findA_mem hf).1
  exact ⟨h1,h2,h3⟩
 | none=>exact ⟨⟨by simp,by simp⟩,⟨List.Pairwise.nil,fun s hs=>by cases hs⟩,fun y hy=>by cases hy⟩
theorem findL_mem {L:List DE}{a:List Int}{x:DE}(h:findL L a=some x):x∈L∧x.1.1=a:=by
 induction L with
 | nil=>cases h
 | cons y L ih =>
  unfold findL at h
  split at h
  ·rename_i c
   obtain rfl:=sI h
   exact ⟨List.mem_cons_self,c⟩
  ·exact ⟨List.mem_cons_of_mem _ (ih h).1,(ih h).2⟩
theorem atD_sz {W:List L71}(hW:WG W){t:Nat}{d:Dd}(s:Sz t d)(a:List Int):(atD W d.L a).1.2.2.2.2.length≤100+t∧(atD W d.L a).1.2.2.2.1.length≤3000∧∀ y∈(atD W d.L a).1.2.2.2.1,inK .u8 y:=by
 unfold atD
 cases hf:findL d.L a with
 | some x =>
  have:=s.ent x (findL_mem hf).1
  exact ⟨this.1,this.2.1,this.2.2.1⟩
 | none =>
  obtain ⟨⟨h1,h2⟩, -,h3⟩:=baseA_ok hW a
  exact ⟨by show (baseA W a).2.2.2.2.length≤100+t; omega,h1,h3⟩
theorem withD_len (L:List DE)(x:DE):(withD L x).length≤L.length+1:=by
 unfold withD
 have:=List.length_filter_le (fun y:DE => !decide (y.1.1=x.1.1)) L
 simp only [List.length_append,List.length_singleton]
 omega
theorem Sz.put {t:Nat}{d:Dd}(s:Sz t d){x:DE}(h1:x.1.2.2.2.2.length≤100+(t+4))(h2:x.1.2.2.2.1.length≤3000)(h3:∀ y∈x.1.2.2.2.1,inK .u8 y)(h4:Ad x.1.1):Sz (t+4) { d with L:=withD d.L x }:=by
 have s':=s.mono (m:=t+4) (by omega)
 refine ⟨?_,s'.wm,s'.sl,s'.lg,fun y hy=>?_,s.logs⟩
 ·have:=withD_len d.L x
  have:=s.l
  show (withD d.L x).length≤t+4
  omega
 ·rcases List.mem_append.1 (show y∈d.L.filter _++[x] from hy) with hy | hy
  ·exact s'.ent y (List.mem_filter.1 hy).1
  ·simp only [List.mem_singleton] at hy
   rw [hy]; exact ⟨h1,h2,h3,h4⟩
theorem setG_len (key v:List Int):∀ (d:Bool) (l:KvS),(setG key v d l).length≤l.length+(if d=true then 0 else 1)
 | d,[]=>by
  unfold setG
  cases d with
  | true=>simp
  | false=>split <;> simp
 | d,o::l=>by
  have h1:(if o.1≠key then [o] else []).length≤1:=by split <;> simp
  have h2:(if v≠w0 then [(key,v)] else []).length≤1:=by split <;> simp
  have i1:=setG_len key v true l
  have i2:=setG_len key v d l
  unfold setG
  split
  ·rename_i c
   rw [c.1]
   simp only [List.length_append,List.length_cons,if_true,Bool.false_eq_true,if_false] at i1 ⊢
   omega
  ·simp only [List.length_append,List.length_cons]
   omega
section
variable {W:List L71} (hW:WG W) {k t:Nat} (hk:5000<k) (ht:t≤1000) {h:Hp} {rf:Int} {lg:List L100} {un:List Clo} {d:Dd} {p:List Dd} (i:Inv W t h rf lg un d p) (ms:List (List Int)) {a:List Int} (ha:Ad a)
include hW hk ht i
theorem doc_at:fd4_.f k (d.st W (rowD W p)) a=some (atD W d.L a):=by
 have h1:=hW.len
 have h2:=i.sz.l
 exact docAt_eq (d.st W (rowD W p)) a k (show W.length<k by omega) (show W.length<_ by omega) (show d.L.length<_ by omega) (show d.L.length<k by omega)
theorem doc_with (x:DE):fb6_.f k (d.st W (rowD W p)) x=some (({ d with L:=withD d.L x }:Dd).st W (rowD W (p++[d]))):=by
 have h2:=i.sz.l
 obtain ⟨l1,l2,l3⟩:=i.lens
 rw [with_eq W d.L d.wm d.sl d.rf d.lg (rowD W p) (by omega) (by omega) x k (by omega),rowD,rowD,List.map_append]
 rfl
theorem doc_keep:fb7_.f (d.st W (rowD W p))=some (d.st W (rowD W (p++[d]))):=by
 obtain ⟨l1,l2,l3⟩:=i.lens
 rw [keep_eq W d.L d.wm d.sl d.rf d.lg (rowD W p) (by omega),rowD,rowD,List.map_append]
 rfl
theorem doneP (h:Hp)(rf:Int)(lg:List L100)(ms:List (List Int))(c:Clo):fd1_.f (W,h,rf,lg,un,ms) c=some ((),(),(),(),un++[c],()):=by
 obtain ⟨l1,l2,l3⟩:=i.lens
 unfold fd1_.f
 rw [iP (by simp; omega)]
include ha
theorem step_nonce (n:Int):∃ h2 un2 d2,fd5_.f k (W,h,rf,lg,un,ms) a n=some ((),h2,(),lg,un2,ms)∧fa3_.f k (d.st W (rowD W p)) a n=some (d2.st W (rowD W (p++[d])))∧Inv W (t+4) h2 rf lg un2 d2 (p++[d])∧un2.length=un.length+1:=by
 obtain ⟨j,h1,e1,e2,e3,e4⟩:=at_ok hW.len i.wf rf lg un ms a (k:=k) (by omega)
 have hi:=(ids_lt e2.wf e3).1
 have r:=i.rel.ext i.wf e2
 obtain ⟨z1,z2,z3⟩:=atD_sz hW i.sz a
 refine ⟨_,_,_,?_,?_,i.step (h2:=setE h1 j ((atE h1.2.1 j).1,((atE h1.2.1 j).2.1.1,n,(atE h1.2.1 j).2.1.2.2),(atE h1.2.1 j).2.2)) (d2:={ d with L:=withD d.L (((atD W d.L a).1.1,n,(atD W d.L a).1.2.2),(atD W d.L a).2) }) e2 (c:= .c73 (atE h1.2.1 j).2.1.2.1 (some j)) (fun n s=>(e4 n s).mono (by omega)) (und_nonce e2.wf hi rf lg n) (field_wf e2.wf hi _ rfl rfl rfl rfl) ⟨rel_nonce r.1 e2.wf e3 n,r.2⟩ (i.sz.put (by show (atD W d.L a).1.2.2.2.2.length≤_; omega) z2 z3 (by show Ad (atD W d.L a).1.1; rw [r.1.addr a]; exact ha)),by simp⟩
 ·unfold fd5_.f
  rw [e1,oB,iP (by rfl)]
  exact (congrArg (fun o=>Option.bind o _) (doneP hW hk ht i _ _ _ _ _)).trans rfl
 ·unfold fa3_.f
  rw [doc_at hW hk ht i,oB,doc_with hW hk ht i,oB]
theorem step_balance (n:List Int):∃ h2 un2 d2,fc3_.f k (W,h,rf,lg,un,ms) a n=some ((),h2,(),lg,un2,ms)∧fa0_.f k (d.st W (rowD W p)) a n=some (d2.st W (rowD W (p++[d])))∧Inv W (t+4) h2 rf lg un2 d2 (p++[d])∧un2.length=un.length+1:=by
 obtain ⟨j,h1,e1,e2,e3,e4⟩:=at_ok hW.len i.wf rf lg un ms a (k:=k) (by omega)
 have hi:=(ids_lt e2.wf e3).1
 have r:=i.rel.ext i.wf e2
 obtain ⟨z1,z2,z3⟩:=atD_sz hW i.sz a
 refine ⟨_,_,_,?_,?_,i.step (h2:=setE h1 j ((atE h1.2.1 j).1,((atE h1.2.1 j).2.1.1,(atE h1.2.1 j).2.1.2.1,n,(atE h1.2.1 j).2.1.2.2.2),(atE h1.2.1 j).2.2)) (d2:={ d with L:=withD d.L (((atD W d.L a).1.1,(atD W d.L a).1.2.1,n,(atD W d.L a).1.2.2.2),(atD W d.L a).2) }) e2 (c:= .c75 (atE h1.2.1 j).2.1.2.2.1 (some j)) (fun n s=>(e4 n s).mono (by omega)) (und_balance e2.wf hi rf lg n) (field_wf e2.wf hi _ rfl rfl rfl rfl) ⟨rel_balance r.1 e2.wf e3 n,r.2⟩ (i.sz.put (by show (atD W d.L a).1.2.2.2.2.length≤_; omega) z2 z3 (by show Ad (atD W d.L a).1.1; rw [r.1.addr a]; exact ha)),by simp⟩
 ·unfold fc3_.f
  rw [e1,oB,iP (by rfl)]
  exact (congrArg (fun o=>Option.bind o _) (doneP hW hk ht i _ _ _ _ _)).trans rfl
 ·unfold fa0_.f
  rw [doc_at hW hk ht i,oB,doc_with hW hk ht i,oB]
theorem step_code (n:List Int)(hn:n.length≤300)(hb:∀ y∈n,inK .u8 y):∃ h2 un2 d2,fe1_.f k (W,h,rf,lg,un,ms) a n=some ((),h2,(),lg,un2,ms)∧fa4_.f k (d.st W (rowD W p)) a n=some (d2.st W (rowD W (p++[d])))∧Inv W (t+4) h2 rf lg un2 d2 (p++[d])∧un2.length=un.length+1:=by
 obtain ⟨j,h1,e1,e2,e3,e4⟩:=at_ok hW.len i.wf rf lg un ms a (k:=k) (by omega)
 have hi:=(ids_lt e2.wf e3).1
 have r:=i.rel.ext i.wf e2
 obtain ⟨z1,z2,z3⟩:=atD_sz hW i.sz a
 refine ⟨_,_,_,?_,?_,i.step (h2:=setE h1 j ((atE h1.2.1 j).1,((atE h1.2.1 j).2.1.1,(atE h1.2.1 j).2.1.2.1,(atE h1.2.1 j).2.1.2.2.1,n,(atE h1.2.1 j).2.1.2.2.2.2),(atE h1.2.1 j).2.2)) (d2:={ d with L:=withD d.L (((atD W d.L a).1.1,(atD W d.L a).1.2.1,(atD W d.L a).1.2.2.1,n,(atD W d.L a).1.2.2.2.2),(atD W d.L a).2) }) e2 (c:= .c76 (atE h1.2.1 j).2.1.2.2.2.1 (some j)) (fun n s=>(e4 n s).mono (by omega)) (und_code e2.wf hi rf lg n) (field_wf e2.wf hi _ rfl rfl rfl rfl) ⟨rel_code r.1 e2.wf e3 n,r.2⟩ (i.sz.put (by show (atD W d.L a).1.2.2.2.2.length≤_; omega) (by show n.length≤_; omega) hb (by show Ad (atD W d.L a).1.1; rw [r.1.addr a]; exact ha)),by simp⟩
 ·unfold fe1_.f fc_.f
  rw [e1,oB,iP (by rfl),iP (by simp; omega)]
  exact (congrArg (fun o=>Option.bind o _) (doneP hW hk ht i _ _ _ _ _)).trans rfl
 ·unfold fa4_.f
  rw [doc_at hW hk ht i,oB,iP (by simp; omega),doc_with hW hk ht i,oB]
  rfl
theorem step_destroy:∃ h2 un2 d2,fe_.f k (W,h,rf,lg,un,ms) a=some ((),h2,(),lg,un2,ms)∧fa6_.f k (d.st W (rowD W p)) a=some (d2.st W (rowD W (p++[d])))∧Inv W (t+4) h2 rf lg un2 d2 (p++[d])∧un2.length=un.length+1:=by
 obtain ⟨j,h1,e1,e2,e3,e4⟩:=at_ok hW.len i.wf rf lg un ms a (k:=k) (by omega)
 have hi:=(ids_lt e2.wf e3).1
 have r:=i.rel.ext i.wf e2
 obtain ⟨z1,z2,z3⟩:=atD_sz hW i.sz a
 refine ⟨_,_,_,?_,?_,i.step (h2:=setE h1 j ((atE h1.2.1 j).1,(atE h1.2.1 j).2.1,(atE h1.2.1 j).2.2.1,(atE h1.2.1 j).2.2.2.1,true,(atE h1.2.1 j).2.2.2.2.2)) (d2:={ d with L:=withD d.L ((atD W d.L a).1,(atD W d.L a).2.1,true) }) e2 (c:= .c85 (atE h1.2.1 j).2.2.2.2.1 (some j)) (fun n s=>(e4 n s).mono (by omega)) (und_destroy e2.wf hi rf lg) (field_wf e2.wf hi _ rfl rfl rfl rfl) ⟨rel_destroy r.1 e2.wf e3,r.2⟩ (i.sz.put (by show (atD W d.L a).1.2.2.2.2.length≤_; omega) z2 z3 (by show Ad (atD W d.L a).1.1; rw [r.1.addr a]; exact ha)),by simp⟩
 ·unfold fe_.f
  rw [e1,oB,iP (by rfl)]
  exact (congrArg (fun o=>Option.bind o _) (doneP hW hk ht i _ _ _ _ _)).trans rfl
 ·unfold fa6_.f
  rw [doc_at hW hk ht i,oB,doc_with hW hk ht i,oB]
theorem step_make:∃ h2 un2 d2,fg9_.f k (W,h,rf,lg,un,ms) a=some ((),h2,(),lg,un2,ms)∧fb5_.f k (d.st W (rowD W p)) a=some (d2.st W (rowD W (p++[d])))∧Inv W (t+4) h2 rf lg un2 d2 (p++[d])∧un2.length=un.length+1:=by
 obtain ⟨j,h1,e1,e2,e3,e4⟩:=at_ok hW.len i.wf rf lg un ms a (k:=k) (by omega)
 have hi:=(ids_lt e2.wf e3).1
 have r:=i.rel.ext i.wf e2
 obtain ⟨z1,z2,z3⟩:=atD_sz hW i.sz a
 refine ⟨_,_,_,?_,?_,i.step (h2:=hMake h1 j) (d2:={ d with L:=withD d.L (((atD W d.L a).1.1,(atD W d.L a).1.2.1,(atD W d.L a).1.2.2.1,(atD W d.L a).1.2.2.2.1,([]:KvS)),true,(atD W d.L a).2.2) }) e2 (c:= .c77 (atE h1.2.1 j).2.2.1 (atE h1.2.1 j).2.2.2.1 (some j)) (fun n s=>((e4 n s).make j).mono (by omega)) (und_make e2.wf hi rf lg) (make_wf e2.wf hi) ⟨rel_make r.1 e2.wf e3,r.2⟩ (i.sz.put (by simp) z2 z3 (by show Ad (atD W d.L a).1.1; rw [r.1.addr a]; exact ha)),by simp⟩
 ·unfold fg9_.f fg9_.j1
  rw [e1,oB,iP (by rfl)]
  exact (congrArg (fun o=>Option.bind o _) (doneP hW hk ht i _ _ _ _ _)).trans rfl
 ·unfold fb5_.f
  rw [doc_at hW hk ht i,oB,doc_with hW hk ht i,oB]
theorem step_set {key v:List Int}(hkey:Wd key):∃ h2 un2 d2,fh3_.f k (W,h,rf,lg,un,ms) a key v=some ((),h2,(),lg,un2,ms)∧fd2_.f k (d.st W (rowD W p)) a key v=some (d2.st W (rowD W (p++[d])))∧Inv W (t+4) h2 rf lg un2 d2 (p++[d])∧un2.length=un.length+1:=by
 obtain ⟨j,h1,e1,e2,e3,e4⟩:=at_ok hW.len i.wf rf lg un ms a (k:=k) (by omega)
 have hi:=(ids_lt e2.wf e3).1
 have hs:=(e2.wf.maps j hi).1
 have r:=i.rel.ext i.wf e2
 obtain ⟨z1,z2,z3⟩:=atD_sz hW i.sz a
 have hg:=setG_len key v false (atD W d.L a).1.2.2.2.2
 simp only [Bool.false_eq_true,if_false] at hg
 refine ⟨_,_,_,?_,?_,i.step (h2:=(h1.1,h1.2.1,h1.2.2.1.set (eS (atE h1.2.1 j)) (aput (atE h1.2.2.1 (eS (atE h1.2.1 j))) key v),h1.2.2.2)) (d2:={ d with L:=withD d.L (((atD W d.L a).1.1,(atD W d.L a).1.2.1,(atD W d.L a).1.2.2.1,(atD W d.L a).1.2.2.2.1,setG key v false (atD W d.L a).1.2.2.2.2),(atD W d.L a).2) }) e2 (c:= .c72 (lk (aget (atE h1.2.2.1 (eS (atE h1.2.1 j))) key) [0,0,0,0]).2 (lk (aget (atE h1.2.2.1 (eS (atE h1.2.1 j))) key) [0,0,0,0]).1 (eS (atE h1.2.1 j)) key) (fun n s=>((e4 n s).setS (eS (atE h1.2.1 j)) key v).mono (by omega)) (und_set e2.wf hs rf lg key v _) (setS_wf e2.wf hs key v) ⟨rel_set (v:=v) r.1 e2.wf e3 hkey,r.2⟩ (i.sz.put (by show (setG key v false (atD W d.L a).1.2.2.2.2).length≤_; omega) z2 z3 (by show Ad (atD W d.L a).1.1; rw [r.1.addr a]; exact ha)),by simp⟩
 ·unfold fh3_.f
  rw [e1,oB,iP (by rfl)]
  exact (congrArg (fun o=>Option.bind o _) (doneP hW hk ht i _ _ _ _ _)).trans rfl
 ·obtain ⟨k,rfl⟩:∃ m,k=m+40:=⟨k - 40,by omega⟩
  have e:=(i.rel.1.ent a).sto
  unfold fd2_.f
  rw [doc_at hW hk ht i,oB]
  refine (set_loop k (d.st W (rowD W p)) key v hkey (atD W d.L a) (fun s hs=>(e.2 s hs).2) (by omega) (atD W d.L a).1.2.2.2.2 (k+40) 0 false [] rfl (Nat.zero_le _) (by omega) (by simp)).trans ?_
  rw [List.nil_append,doc_with hW hk ht i,oB]
end
theorem cold_loop (s:ST37)(a:List Int)(hl:(ST37.un s).2.2.1.length<4611686018427387904):∀ (l:List (List Int)) (q i:Nat),(ST37.un s).2.2.1.drop i=l→i≤(ST37.un s).2.2.1.length→l.length<q→fb8_.l1 s a q (i:Int)=some (decide (a∉l))
 | [],q,i,hd,hi,hq=>by
  obtain ⟨q,rfl⟩:∃ m,q=m+1:=⟨q - 1,by omega⟩
  have:(ST37.un s).2.2.1.length≤i:=by simpa using hd
  show fb8_.b1 _ _ _ _=_
  unfold fb8_.b1
  rw [iN (by simp; omega)]; rfl
 | x::l,q,i,hd,hi,hq=>by
  simp only [List.length_cons] at hq
  obtain ⟨q,rfl⟩:∃ m,q=m+1:=⟨q - 1,by omega⟩
  obtain ⟨h1,h2,h3⟩:=gt_dropA hd
  show fb8_.b1 _ _ _ _=_
  unfold fb8_.b1
  rw [iP (by simp; omega),iP (by omega),h1]
  by_cases c:x=a
  ·rw [dT c,iP rfl,c]; simp
  ·rw [dF c,iN (by simp),next1 i (by omega),cold_loop s a hl l q (i+1) h3 (by omega) (by omega)]
   congr 1
   refine decide_eq_decide.2 ?_
   simp only [List.mem_cons,not_or]
   exact ⟨fun h=>⟨fun e=>c e.symm,h⟩,fun h=>h.2⟩
theorem coldS_loop (s:ST37)(a key:List Int)(hl:(ST37.un s).2.2.2.1.length<4611686018427387904):∀ (l:KvS) (q i:Nat),(ST37.un s).2.2.2.1.drop i=l→i≤(ST37.un s).2.2.2.1.length→l.length<q→fa2_.l1 s a key q (i:Int)=some (decide ((a,key)∉l))
 | [],q,i,hd,hi,hq=>by
  obtain ⟨q,rfl⟩:∃ m,q=m+1:=⟨q - 1,by omega⟩
  have:(ST37.un s).2.2.2.1.length≤i:=by simpa using hd
  show fa2_.b1 _ _ _ _ _=_
  unfold fa2_.b1
  rw [iN (by simp; omega)]; rfl
 | x::l,q,i,hd,hi,hq=>by
  simp only [List.length_cons] at hq
  obtain ⟨q,rfl⟩:∃ m,q=m+1:=⟨q - 1,by omega⟩
  obtain ⟨h1,h2,h3⟩:=gt_dropA hd
  show fa2_.b1 _ _ _ _ _=_
  unfold fa2_.b1 fa2_.j2
  rw [iP (by simp; omega),iP (by omega),h1,next1 i (by omega),coldS_loop s a key hl l q (i+1) h3 (by omega) (by omega)]
  obtain ⟨x1,x2⟩:=x
  by_cases c:x1=a
  ·subst c
   by_cases c2:x2=key
   ·subst c2; simp
   ·have:¬ key=x2:=fun e=>c2 e.symm
    simp [c2,this]
  ·have:¬ a=x1:=fun e=>c e.symm
   simp [c,this]
section
variable {W:List L71} (hW:WG W) {k t:Nat} (hk:5000<k) (ht:t≤1000) {h:Hp} {rf:Int} {lg:List L100} {un:List Clo} {d:Dd} {p:List Dd} (i:Inv W t h rf lg un d p) (ms:List (List Int)) {a:List Int} (ha:Ad a)
include hW hk ht i
theorem step_touch:∃ b h2 un2 d2 p2,ff6_.f k (W,h,rf,lg,un,ms) a=some (b,((),h2,(),lg,un2,ms))∧fb3_.f k (d.st W (rowD W p)) a=some (b,d2.st W (rowD W p2))∧Inv W (t+4) h2 rf lg un2 d2 p2∧un.length≤un2.length∧(a∉d.wm→b=true)∧d2.sl=d.sl∧(p++[d]) <+: (p2++[d2]):=by
 obtain ⟨j,h1,e1,e2,e3,e4⟩:=at_ok hW.len i.wf rf lg un ms a (k:=k) (by omega)
 have hi:=(ids_lt e2.wf e3).1
 have r:=i.rel.ext i.wf e2
 have hwm:=i.sz.wm
 have hc:=cold_loop (d.st W (rowD W p)) a (show d.wm.length<_ by omega) d.wm k 0 rfl (Nat.zero_le _) (show d.wm.length<k by omega)
 have hv:a∈d.wm↔(atE h1.2.1 j).2.2.2.2.2.1=true:=by rw [r.1.cold a,vw_some (W:=W) e3]; rfl
 by_cases c:a∈d.wm
 ·refine ⟨false,h1,un,d,p,?_,?_,(i.ext e2 e4).mono (by omega),Nat.le_refl _,fun h=>absurd c h,rfl,List.prefix_rfl⟩
  ·unfold ff6_.f
   rw [e1,oB,iP (by rfl)]
   exact iP (hv.1 c)
  ·unfold fb3_.f
   refine (congrArg (fun o=>Option.bind o _) hc).trans ?_
   rw [oB,iP (by simpa using c)]
 ·have hf:(atE h1.2.1 j).2.2.2.2.2.1=false:=by
   cases hb:(atE h1.2.1 j).2.2.2.2.2.1 with
   | true=>exact absurd (hv.2 hb) c
   | false=>rfl
  obtain ⟨l1,l2,l3⟩:=i.lens
  have s':=i.sz.mono (m:=t+4) (by omega)
  refine ⟨true,_,_,{ d with wm:=d.wm++[a] },p++[d],?_,?_,i.step (h2:=setE h1 j ((atE h1.2.1 j).1,(atE h1.2.1 j).2.1,(atE h1.2.1 j).2.2.1,(atE h1.2.1 j).2.2.2.1,(atE h1.2.1 j).2.2.2.2.1,true,(atE h1.2.1 j).2.2.2.2.2.2)) e2 (c:= .c69 (some j)) (fun n s=>(e4 n s).mono (by omega)) (und_touch e2.wf hi rf lg hf) (field_wf e2.wf hi _ rfl rfl rfl rfl) ⟨rel_touch r.1 e2.wf e3,r.2⟩ ⟨s'.l,by simp; omega,s'.sl,s'.lg,s'.ent,s'.logs⟩,by simp,fun _=>rfl,rfl,List.prefix_append _ _⟩
  ·unfold ff6_.f
   rw [e1,oB,iP (by rfl)]
   refine (iN (by rw [show (atE (some j,((),h1,(),lg,un,ms)).2.2.1.2.1 ((some j,((),h1,(),lg,un,ms)).1.getD 0)).2.2.2.2.2.1=false from hf]; simp)).trans ?_
   exact (congrArg (fun o=>Option.bind o _) (doneP hW hk ht i _ _ _ _ _)).trans rfl
  ·unfold fb3_.f
   refine (congrArg (fun o=>Option.bind o _) hc).trans ?_
   rw [oB,iN (by simpa using c),doc_keep hW hk ht i,oB]
   exact (iP (show (([]:List (List Int)).length+d.wm.length)*20≤140737488355328 by simp; omega)).trans ((iP (show ((([]:List (List Int))++d.wm).length+[a].length)*20≤140737488355328 by simp; omega)).trans rfl)
theorem step_touchSlot (key:List Int):∃ b h2 un2 d2 p2,fc6_.f k (W,h,rf,lg,un,ms) a key=some (b,((),h2,(),lg,un2,ms))∧fa1_.f k (d.st W (rowD W p)) a key=some (b,d2.st W (rowD W p2))∧Inv W (t+4) h2 rf lg un2 d2 p2∧un.length≤un2.length∧((a,key)∉d.sl→b=true)∧(p++[d]) <+: (p2++[d2]):=by
 obtain ⟨j,h1,e1,e2,e3,e4⟩:=at_ok hW.len i.wf rf lg un ms a (k:=k) (by omega)
 have hi:=(ids_lt e2.wf e3).1
 have hj:=(e2.wf.maps j hi).2
 have r:=i.rel.ext i.wf e2
 have hsl:=i.sz.sl
 have hc:=coldS_loop (d.st W (rowD W p)) a key (show d.sl.length<_ by omega) d.sl k 0 rfl (Nat.zero_le _) (show d.sl.length<k by omega)
 have hv:(a,key)∈d.sl↔aget (atE h1.2.2.2 (eW (atE h1.2.1 j))) key=some true:=by rw [r.1.colds a key,vw_some (W:=W) e3]; rfl
 have hn:aget (atE h1.2.2.2 (eW (atE h1.2.1 j))) key≠some false:=by
  have:=r.1.nof a key
  rw [vw_some (W:=W) e3] at this
  exact this
 by_cases c:(a,key)∈d.sl
 ·refine ⟨false,h1,un,d,p,?_,?_,(i.ext e2 e4).mono (by omega),Nat.le_refl _,fun h=>absurd c h,List.prefix_rfl⟩
  ·unfold fc6_.f
   rw [e1,oB,iP (by rfl)]
   refine iP ?_
   show (lk (aget (atE h1.2.2.2 (eW (atE h1.2.1 j))) key) false).1=true
   rw [hv.1 c]; rfl
  ·unfold fa1_.f
   refine (congrArg (fun o=>Option.bind o _) hc).trans ?_
   rw [oB,iP (by simpa using c)]
 ·have hf:aget (atE h1.2.2.2 (eW (atE h1.2.1 j))) key=none:=by
   cases hb:aget (atE h1.2.2.2 (eW (atE h1.2.1 j))) key with
   | none=>rfl
   | some v =>
    cases v with
    | true=>exact absurd (hv.2 hb) c
    | false=>exact absurd hb hn
  obtain ⟨l1,l2,l3⟩:=i.lens
  have s':=i.sz.mono (m:=t+4) (by omega)
  refine ⟨true,_,_,{ d with sl:=d.sl++[(a,key)] },p++[d],?_,?_,i.step (h2:=(h1.1,h1.2.1,h1.2.2.1,h1.2.2.2.set (eW (atE h1.2.1 j)) (aput (atE h1.2.2.2 (eW (atE h1.2.1 j))) key true))) e2 (c:= .c70 (some j) key) (fun n s=>(show Szh (n+1) h1 from e4 n s).mono (by omega)) (und_touchSlot e2.wf hi rf lg key hf) (setW_wf e2.wf hj _) ⟨rel_touchSlot r.1 e2.wf e3 key,r.2⟩ ⟨s'.l,s'.wm,by simp; omega,s'.lg,s'.ent,s'.logs⟩,by simp,fun _=>rfl,List.prefix_append _ _⟩
  ·unfold fc6_.f
   rw [e1,oB,iP (by rfl)]
   refine (iN ?_).trans ?_
   ·show ¬ (lk (aget (atE h1.2.2.2 (eW (atE h1.2.1 j))) key) false).1=true
    rw [hf]; simp [lk]
   ·exact (congrArg (fun o=>Option.bind o _) (doneP hW hk ht i _ _ _ _ _)).trans rfl
  ·unfold fa1_.f
   refine (congrArg (fun o=>Option.bind o _) hc).trans ?_
   rw [oB,iN (by simpa using c),doc_keep hW hk ht i,oB]
   exact (iP (show (([]:KvS).length+d.sl.length)*56≤140737488355328 by simp; omega)).trans ((iP (show ((([]:KvS)++d.sl).length+[(a,key)].length)*56≤140737488355328 by simp; omega)).trans rfl)
theorem step_add (n:Int):∃ un2 d2,fh_.f (W,h,rf,lg,un,ms) n=some ((),(),wr .i64 (rf+n),(),un2,())∧fc7_.f (d.st W (rowD W p)) n=some (d2.st W (rowD W (p++[d])))∧Inv W (t+4) h (wr .i64 (rf+n)) lg un2 d2 (p++[d])∧un2.length=un.length+1:=by
 have s':=i.sz.mono (m:=t+4) (by omega)
 have e:rf=d.rf:=i.rel.2.1
 refine ⟨_,{ d with rf:=wr .i64 (d.rf+n) },?_,?_,i.step (Ext.refl i.wf) (c:= .c83 rf ()) (fun n s=>s.mono (by omega)) (und_add rf (wr .i64 (rf+n)) lg) i.wf ⟨i.rel.1,by rw [e],i.rel.2.2⟩ ⟨s'.l,s'.wm,s'.sl,s'.lg,s'.ent,s'.logs⟩,by simp⟩
 ·unfold fh_.f
  exact (congrArg (fun o=>Option.bind o _) (doneP hW hk ht i _ _ _ _ _)).trans rfl
 ·unfold fc7_.f
  rw [doc_keep hW hk ht i,oB]
  rfl
theorem own_eq (x:L100)(h1:x.2.1.length≤1000)(h2:x.2.2.length≤10000):fi9_.f x=some x:=by
 unfold fi9_.f fi5_.f fc_.f
 rw [iP (by simp; omega),oB,iP (by simp; omega)]
 rfl
theorem step_log (x:L100)(h1:x.2.1.length≤2)(h2:x.2.2.length≤300):∃ un2 d2,fh2_.f (W,h,rf,lg,un,ms) x=some ((),(),(),lg++[x],un2,())∧fc9_.f (d.st W (rowD W p)) x=some (d2.st W (rowD W (p++[d])))∧Inv W (t+4) h rf (lg++[x]) un2 d2 (p++[d])∧un2.length=un.length+1:=by
 have s':=i.sz.mono (m:=t+4) (by omega)
 have e:lg=d.lg:=i.rel.2.2
 have hl:=i.sz.lg
 refine ⟨_,{ d with lg:=d.lg++[x] },?_,?_,i.step (Ext.refl i.wf) (c:= .c84 () (lg.length:Int)) (fun n s=>s.mono (by omega)) (und_log rf lg x) i.wf ⟨i.rel.1,i.rel.2.1,by rw [e]⟩ ⟨s'.l,s'.wm,s'.sl,by simp; omega,s'.ent,fun g hg=>?_⟩,by simp⟩
 ·unfold fh2_.f
  refine (congrArg (fun o=>Option.bind o _) (doneP hW hk ht i _ _ _ _ _)).trans ?_
  rw [oB,own_eq hW hk ht i x (by omega) (by omega),oB,iP (by rw [e]; simp; omega)]
 ·unfold fc9_.f
  rw [doc_keep hW hk ht i,oB]
  exact (iP (show (([]:List L100).length+d.lg.length)*72≤140737488355328 by simp; omega)).trans ((iP (show ((([]:List L100)++d.lg).length+[x].length)*72≤140737488355328 by simp; omega)).trans rfl)
 ·rcases List.mem_append.1 hg with hg | hg
  ·exact i.sz.logs g hg
  ·simp only [List.mem_singleton] at hg
   rw [hg]; exact ⟨h1,h2⟩
end
theorem back_szh (x2:Int)(hx:0≤x2):∀ (q:Nat) (y1:Int) {n:Nat} {W:List L71} {h:Hp} {rf:Int} {lg:List L100} {un:List Clo} {ms:List (List Int)} {r:Pst},y1<1000000→Szh n h→fg8_.l1 x2 q y1 W h.1 h.2.1 h.2.2.1 h.2.2.2 rf lg un ms=some r→Szh (n+(y1 - x2).toNat) r.2.1
 | 0,y1,n,W,h,rf,lg,un,ms,r,hy,s,e=>by cases e
 | q+1,y1,n,W,h,rf,lg,un,ms,r,hy,s,e=>by
  have e2:fg8_.b1 x2 (fg8_.l1 x2 q) y1 W h.1 h.2.1 h.2.2.1 h.2.2.2 rf lg un ms=some r:=e
  unfold fg8_.b1 at e2
  by_cases c:x2<y1
  ·rw [iP (by simpa using c),wr_i64_id (by omega) (by omega)] at e2
   split at e2
   ·cases hc:fj_.f (gt un (y1 - 1)) (W,(h.1,h.2.1,h.2.2.1,h.2.2.2),rf,lg,un,ms) with
    | none=>rw [hc] at e2; cases e2
    | some t =>
     obtain ⟨W',h',rf',lg',un',ms'⟩:=t
     have s':=clo_szh s _ hc
     rw [hc,oB] at e2
     split at e2
     ·have:=back_szh x2 hx q (y1 - 1) (by omega) s' e2
      exact this.mono (by omega)
     ·cases e2
   ·cases e2
  ·rw [iN (by simpa using c)] at e2
   obtain rfl:=sI e2
   exact Szh.mono (n:=n) s (by omega)
theorem rowD_get {W:List L71}{p:List Dd}{m:Nat}(hm:m<p.length):gt (rowD W p) (m:Int)=(p[m]).st W []:=by
 rw [gt_natG (rowD W p) (by simpa using hm)]
 simp
theorem step_back {W:List L71}{k t:Nat}(hk:5000<k)(ht:t≤1000){h:Hp}{rf:Int}{lg:List L100}{un:List Clo}{d:Dd}{p:List Dd}(i:Inv W t h rf lg un d p)(ms:List (List Int)){m:Nat}(hm:m≤un.length) :
  ∃ h2 rf2 lg2 d2,fg8_.f k (W,h,rf,lg,un,ms) (m:Int)=some (W,h2,rf2,lg2,un.take m,ms)∧fc4_.f (d.st W (rowD W p)) (m:Int)=some (d2.st W (rowD W (p.take m)))∧Inv W t h2 rf2 lg2 (un.take m) d2 (p.take m)∧p.take m++[d2]=(p++[d]).take (m+1):=by
 obtain ⟨l1,l2,l3⟩:=i.lens
 have hl:=i.len
 rcases Nat.lt_or_ge m un.length with hm2 | hm2
 ·have hmp:m<p.length:=by omega
  have hu:un.reverse=(un.drop m).reverse++(un.take m).reverse:=by rw [← List.reverse_append,List.take_append_drop]
  have hp:p.reverse=(p.drop m).reverse++(p.take m).reverse:=by rw [← List.reverse_append,List.take_append_drop]
  have hh:=i.hist
  rw [hu,hp] at hh
  have hb:=back_loop (R:=RR W) (W:=W) (fun h h' r w c hw e=>RR.ext c hw e) (un.take m).reverse (p.take m).reverse ms (un.drop m).reverse (p.drop m).reverse h rf lg k (by simp; omega) hh i.wf (by simp; omega) (by simp; omega)
  obtain ⟨h',rf',lg',b1,b2,b3,b4,b5⟩:=hb
  rw [← hu] at b1
  simp only [List.reverse_reverse,List.length_reverse,List.length_take] at b1
  rw [show min m un.length=m by omega] at b1
  have hd:(p.drop m).reverse.getLast?=some p[m]:=by
   rw [List.getLast?_reverse,List.drop_eq_getElem_cons hmp]; rfl
  have hr:=b4 _ hd
  obtain ⟨n,n1,n2⟩:=i.szh
  have hz:=back_szh (m:Int) (by omega) k (un.length:Int) (by omega) n1 b1
  have hmem:p[m]∈p:=List.getElem_mem hmp
  refine ⟨h',rf',lg',p[m],?_,?_,⟨b2,hr,b3,by simp; omega,i.szp _ hmem,fun w hw=>i.szp w (List.mem_of_mem_take hw),?_,?_⟩,?_⟩
  ·unfold fg8_.f fg7_.f
   rw [iN (by simp),oB]
   exact b1
  ·unfold fc4_.f fc4_.j1
   rw [iN (by simp)]
   have h1:((rowD W p).length:Int)=(p.length:Int):=by omega
   refine (iN ?_).trans ((iP ?_).trans ((iP ?_).trans ((iP ?_).trans ?_)))
   ·show ¬ decide (((rowD W p).length:Int)≤(m:Int))=true
    simp; omega
   ·show (0:Int)≤(m:Int)∧(m:Int)<((rowD W p).length:Int)
    omega
   ·show (0:Int)≤0∧(0:Int)≤(m:Int)∧(m:Int)≤((rowD W p).length:Int)
    omega
   ·show (([]:List ST37).length+((rowD W p).take (Int.toNat (m:Int))).length)*160≤140737488355328
    simp; omega
   ·show some (ST37.mk ((ST37.un (gt (rowD W p) (m:Int))).1,(ST37.un (gt (rowD W p) (m:Int))).2.1,(ST37.un (gt (rowD W p) (m:Int))).2.2.1,(ST37.un (gt (rowD W p) (m:Int))).2.2.2.1,(ST37.un (gt (rowD W p) (m:Int))).2.2.2.2.1,(ST37.un (gt (rowD W p) (m:Int))).2.2.2.2.2.1,(ST37.un (gt (rowD W p) (m:Int))).2.2.2.2.2.2.1,([]:List ST37)++((rowD W p).take (Int.toNat (m:Int)))))=_
    rw [rowD_get hmp,Int.toNat_natCast,List.nil_append,rowD, ← List.map_take]
    rfl
  ·refine ⟨_,hz,?_⟩
   simp only [List.length_take]
   omega
  ·have hf:=i.fst
   rw [← List.take_succ_eq_append_getElem hmp]
   cases p with
   | nil=>simp at hmp
   | cons x p=>exact hf
  ·rw [← List.take_succ_eq_append_getElem hmp,List.take_append_of_le_length (by omega)]
 ·obtain rfl:m=un.length:=by omega
  refine ⟨h,rf,lg,d,?_,?_,?_,?_⟩
  ·obtain ⟨k,rfl⟩:∃ m,k=m+1:=⟨k - 1,by omega⟩
   unfold fg8_.f fg7_.f
   rw [iN (by simp),oB]
   show fg8_.b1 _ _ _ _ _ _ _ _ _ _ _ _=_
   unfold fg8_.b1
   rw [iN (by simp),List.take_of_length_le (Nat.le_refl _)]
  ·unfold fc4_.f fc4_.j1
   rw [iN (by simp)]
   refine (iP (dT ?_)).trans ?_
   ·show ((rowD W p).length:Int)≤(un.length:Int)
    omega
   ·rw [List.take_of_length_le (by omega)]
  ·rw [List.take_of_length_le (Nat.le_refl _),List.take_of_length_le (by omega)]; exact i
  ·rw [List.take_of_length_le (by omega),List.take_of_length_le (by simp; omega)]

section
variable {W:List L71} {k:Nat} {h h1:Hp} {rf:Int} {lg:List L100} {un:List Clo} {ms:List (List Int)} {a:List Int} {j:Nat} (e1:fh6_.f k (W,h,rf,lg,un,ms) a=some (some j,((),h1,(),lg,un,ms)))
include e1
end
section
variable {W:List L71} (hW:WG W) {k t:Nat} (hk:5000<k) (ht:t≤1000) {h:Hp} {rf:Int} {lg:List L100} {un:List Clo} {d:Dd} {p:List Dd} (i:Inv W t h rf lg un d p) (ms:List (List Int)) {a:List Int} (ha:Ad a)
include hW hk ht i
theorem doc_base:fc0_.f k (d.st W (rowD W p)) a=some (baseA W a):=by
 have h1:=hW.len
 exact docBase_eq (d.st W (rowD W p)) a k (show W.length<k by omega) (show W.length<_ by omega)
end
section
variable {α:Type} [Inhabited α]
theorem at_toArray (xs:List α)(i:Nat):xs.toArray[i]! = gt xs (i:Int):=by
 unfold gt
 rw [Int.toNat_natCast,List.getD_eq_getElem?_getD]
 by_cases h:i<xs.length
 ·rw [getElem!_pos xs.toArray i (by simpa using h),List.getElem?_eq_getElem h]; simp
 ·rw [getElem!_neg xs.toArray i (by simpa using h),List.getElem?_eq_none (by omega)]; rfl
theorem swp_toArray (xs:List α)(i j:Nat):Sort.swp xs.toArray i j=((xs.set i (gt xs (j:Int))).set j (gt xs (i:Int))).toArray:=by
 unfold Sort.swp
 rw [at_toArray,at_toArray]
 simp
theorem swp_len (xs:List α)(i j:Nat):(Sort.swp xs.toArray i j).toList.length=xs.length:=by rw [swp_toArray]; simp
theorem insInner_size (lt:α→α→Bool)(a:Nat):∀ (j:Nat) (d:Array α),(Sort.insInner lt a j d).size=d.size
 | 0,d=>rfl
 | j+1,d=>by
  unfold Sort.insInner
  split
  ·rw [insInner_size lt a j]; simp [Sort.swp]
  ·rfl
end
def ltC {α:Type}(cf:α→α→Int)(x y:α):Bool:=decide (cf x y<0)
section
variable {g:SortG} {K:Nat} {cf:g.α→g.α→Int} (hC:∀ x y,g.cmp K x y=some (cf x y))
include hC
theorem ins_inner (a:Nat)(y2:Int)(rec1:List g.α→Int→Option (List g.α)):∀ (j q:Nat) (xs:List g.α),j<xs.length→xs.length<4611686018427387904→j<q →
  fb_.l2 g K (a:Int) y2 rec1 q xs (j:Int)=fb_.j1 g y2 rec1 (Sort.insInner (ltC cf) a j xs.toArray).toList
 | 0,q,xs,hj,hl,hq=>by
  obtain ⟨q,rfl⟩:∃ m,q=m+1:=⟨q - 1,by omega⟩
  show fb_.b2 g K _ _ _ _ _ _=_
  unfold fb_.b2
  rw [iN (by simp)]
  rfl
 | j+1,q,xs,hj,hl,hq=>by
  obtain ⟨q,rfl⟩:∃ m,q=m+1:=⟨q - 1,by omega⟩
  have hw:wr .i64 (((j+1:Nat):Int) - 1)=(j:Int):=by rw [wr_i64_id (by omega) (by omega)]; omega
  show fb_.b2 g K _ _ _ _ _ _=_
  unfold fb_.b2 Sort.insInner
  rw [hw]
  by_cases c:a<j+1
  ·rw [iP (dT (by omega)),iP (by omega),iP (by omega),hC,oB]
   unfold fb_.j2
   rw [at_toArray,at_toArray]
   by_cases c2:cf (gt xs ((j+1:Nat):Int)) (gt xs (j:Int))<0
   ·rw [iP (dT c2),hw,iP (by omega),iP (by omega),iP (by rw [List.length_set]; omega),show ltC cf (gt xs ((j+1:Nat):Int)) (gt xs (j:Int))=true from dT c2,iP (by simpa using c)]
    rw [Int.toNat_natCast,Int.toNat_natCast,ins_inner a y2 rec1 j q _ (by simp; omega) (by simpa using hl) (by omega),swp_toArray]
   ·rw [iN (by simpa using c2),show ltC cf (gt xs ((j+1:Nat):Int)) (gt xs (j:Int))=false from dF c2,iN (by simp)]
  ·rw [iN (by simp; omega),iN (by simp; omega)]
   rfl
theorem ins_outer (a b:Nat):∀ (r i q:Nat) (xs:List g.α),b≤i+r→b≤xs.length→i<4611686018427387904→xs.length<4611686018427387904→xs.length<K→r<q →
  fb_.l1 g K (a:Int) (b:Int) q xs (i:Int)=some (Sort.insOuter (ltC cf) a b i xs.toArray).toList
 | r,i,q,xs,hi,hb,hi2,hl,hk,hq=>by
  obtain ⟨q,rfl⟩:∃ m,q=m+1:=⟨q - 1,by omega⟩
  show fb_.b1 g _ _ _ _ _ _=_
  unfold fb_.b1
  rw [Sort.insOuter]
  by_cases c:i<b
  ·rw [iP (dT (by omega)),iP c]
   obtain ⟨r,rfl⟩:∃ m,r=m+1:=⟨r - 1,by omega⟩
   rw [ins_inner hC a _ _ i K xs (by omega) hl (by omega)]
   unfold fb_.j1
   have hs:=insInner_size (ltC cf) a i xs.toArray
   have hs':(Sort.insInner (ltC cf) a i xs.toArray).toList.length=xs.length:=by simpa using hs
   rw [show wr .i64 ((i:Int)+1)=((i+1:Nat):Int) by rw [wr_i64_id (by omega) (by omega)]; omega]
   rw [ins_outer a b r (i+1) q _ (by omega) (by omega) (by omega) (by omega) (by omega) (by omega)]
  ·rw [iN (by simp; omega),iN c]
theorem ins_eq (a b:Nat)(xs:List g.α)(ha:a≤b)(hb:b≤xs.length)(hl:xs.length<4611686018427387904 - 1)(hk:xs.length+1<K) :
  fb_.f g K xs (a:Int) (b:Int)=some (Sort.insertionSort (ltC cf) xs.toArray a b).toList:=by
 unfold fb_.f
 rw [show wr .i64 ((a:Int)+1)=((a+1:Nat):Int) by rw [wr_i64_id (by omega) (by omega)]; omega]
 exact ins_outer hC a b b (a+1) K xs (by omega) hb (by omega) (by omega) (by omega) (by omega)
end
theorem siftDown_size {α:Type} [Inhabited α] (lt:α→α→Bool)(hi first:Nat):∀ (r root:Nat) (d:Array α),hi≤root+r→(Sort.siftDown lt hi first root d).size=d.size
 | r,root,d,h=>by
  rw [Sort.siftDown]
  by_cases c:2*root+1≥hi
  ·rw [dif_pos c]
  ·rw [dif_neg c]
   obtain ⟨r,rfl⟩:∃ m,r=m+1:=⟨r - 1,by omega⟩
   split
   ·split
    ·rfl
    ·split
     ·rw [siftDown_size lt hi first r _ _ (by omega)]; simp [Sort.swp]
     ·rfl
   ·split
    ·rfl
    ·rw [siftDown_size lt hi first r _ _ (by omega)]; simp [Sort.swp]
theorem heapBuild_size {α:Type} [Inhabited α] (lt:α→α→Bool)(hi first:Nat):∀ (n:Nat) (d:Array α),(Sort.heapBuild lt hi first n d).size=d.size
 | 0,d=>rfl
 | n+1,d=>by
  show (Sort.heapBuild lt hi first n (Sort.siftDown lt hi first n d)).size=_
  rw [heapBuild_size lt hi first n,siftDown_size lt hi first hi n d (by omega)]
theorem wrn {x:Int}(n:Nat)(h:x=(n:Int))(hn:n<9223372036854775808):wr .i64 x=(n:Int):=by rw [h,wr_i64_id (by omega) (by omega)]
section
variable {g:SortG} {K:Nat} {cf:g.α→g.α→Int} (hC:∀ x y,g.cmp K x y=some (cf x y))
include hC
theorem sift_j1 (first root c:Nat)(xs:List g.α)(rec1:List g.α→Int→Option (List g.α))(hl:xs.length<2305843009213693952)(h1:first+root<xs.length)(h2:first+c<xs.length) :
  fe5_.j1 g K (first:Int) xs (root:Int) rec1 (c:Int)=if ltC cf (gt xs ((first+root:Nat):Int)) (gt xs ((first+c:Nat):Int))=true then rec1 (Sort.swp xs.toArray (first+root) (first+c)).toList (c:Int) else some xs:=by
 have f1:wr .i64 ((first:Int)+(root:Int))=((first+root:Nat):Int):=wrn _ (by omega) (by omega)
 have f2:wr .i64 ((first:Int)+(c:Int))=((first+c:Nat):Int):=wrn _ (by omega) (by omega)
 unfold fe5_.j1
 simp only [f1,f2]
 rw [iP (by omega),iP (by omega),hC,oB]
 by_cases c2:cf (gt xs ((first+root:Nat):Int)) (gt xs ((first+c:Nat):Int))<0
 ·rw [dT c2,show ltC cf (gt xs ((first+root:Nat):Int)) (gt xs ((first+c:Nat):Int))=true from dT c2,iN (by simp),iP rfl,iP (by rw [List.length_set]; omega)]
  rw [Int.toNat_natCast,Int.toNat_natCast,swp_toArray]
 ·rw [dF c2,show ltC cf (gt xs ((first+root:Nat):Int)) (gt xs ((first+c:Nat):Int))=false from dF c2,iP (by simp),iN (by simp)]
theorem sift_eq (hi first:Nat):∀ (r root q:Nat) (xs:List g.α),hi≤root+r→r<q→first+hi≤xs.length→xs.length<2305843009213693952→root<4000000000000000000 →
  fe5_.l1 g K (hi:Int) (first:Int) q xs (root:Int)=some (Sort.siftDown (ltC cf) hi first root xs.toArray).toList
 | r,root,q,xs,h,hq,hb,hl,h0=>by
  obtain ⟨q,rfl⟩:∃ m,q=m+1:=⟨q - 1,by omega⟩
  rw [Sort.siftDown]
  have e0:wr .i64 (2*(root:Int))=((2*root:Nat):Int):=wrn _ (by omega) (by omega)
  have e1:wr .i64 (((2*root:Nat):Int)+1)=((2*root+1:Nat):Int):=wrn _ (by omega) (by omega)
  have e2:wr .i64 (((2*root+1:Nat):Int)+1)=((2*root+1+1:Nat):Int):=wrn _ (by omega) (by omega)
  show fe5_.b1 g K _ _ _ _ _=_
  unfold fe5_.b1
  by_cases c:2*root+1≥hi
  ·rw [dif_pos c]
   simp only [e0,e1]
   rw [iP (dT (by omega))]
  ·rw [dif_neg c]
   obtain ⟨r,rfl⟩:∃ m,r=m+1:=⟨r - 1,by omega⟩
   simp only [e0,e1,e2]
   rw [iN (by simp; omega)]
   simp only [at_toArray]
   have hj4:∀ b:Bool,fe5_.j2 g K (first:Int) xs (root:Int) (fe5_.l1 g K (hi:Int) (first:Int) q) b=fe5_.j1 g K (first:Int) xs (root:Int) (fe5_.l1 g K (hi:Int) (first:Int) q) ((if b=true then 2*root+2 else 2*root+1:Nat):Int):=fun b=>by
    unfold fe5_.j2
    simp only [e0,e1,e2]
    cases b <;> rfl
   by_cases c1:2*root+1+1<hi
   ·have f1:wr .i64 ((first:Int)+((2*root+1:Nat):Int))=((first+(2*root+1):Nat):Int):=wrn _ (by omega) (by omega)
    have f2:wr .i64 (((first+(2*root+1):Nat):Int)+1)=((first+(2*root+1)+1:Nat):Int):=wrn _ (by omega) (by omega)
    simp only [f1,f2]
    rw [iP (dT (by omega)),iP (by omega),iP (by omega),hC,oB,hj4]
    by_cases c2:cf (gt xs ((first+(2*root+1):Nat):Int)) (gt xs ((first+(2*root+1)+1:Nat):Int))<0
    ·rw [dT c2,show ltC cf (gt xs ((first+(2*root+1):Nat):Int)) (gt xs ((first+(2*root+1)+1:Nat):Int))=true from dT c2,iP rfl,iP (by simpa using c1),sift_j1 hC first root (2*root+2) xs _ hl (by omega) (by omega)]
     cases h3:ltC cf (gt xs ((first+root:Nat):Int)) (gt xs ((first+(2*root+2):Nat):Int)) with
     | true =>
      rw [iP rfl,iN (by simp),dif_pos (by omega),sift_eq hi first r (2*root+2) q _ (by omega) (by omega) (by rw [swp_len]; omega) (by rw [swp_len]; omega) (by omega)]
     | false=>rw [iN (by simp),iP (by simp)]
    ·rw [dF c2,show ltC cf (gt xs ((first+(2*root+1):Nat):Int)) (gt xs ((first+(2*root+1)+1:Nat):Int))=false from dF c2,iN (show ¬ (false=true) by simp),iN (by simp),sift_j1 hC first root (2*root+1) xs _ hl (by omega) (by omega)]
     cases h3:ltC cf (gt xs ((first+root:Nat):Int)) (gt xs ((first+(2*root+1):Nat):Int)) with
     | true =>
      rw [iP rfl,iN (by simp),sift_eq hi first r (2*root+1) q _ (by omega) (by omega) (by rw [swp_len]; omega) (by rw [swp_len]; omega) (by omega)]
     | false=>rw [iN (by simp),iP (by simp)]
   ·rw [iN (by simp; omega),hj4,iN (show ¬ (false=true) by simp),iN (by simp; omega),sift_j1 hC first root (2*root+1) xs _ hl (by omega) (by omega)]
    cases h3:ltC cf (gt xs ((first+root:Nat):Int)) (gt xs ((first+(2*root+1):Nat):Int)) with
    | true =>
     rw [iP rfl,iN (by simp),sift_eq hi first r (2*root+1) q _ (by omega) (by omega) (by rw [swp_len]; omega) (by rw [swp_len]; omega) (by omega)]
    | false=>rw [iN (by simp),iP (by simp)]
theorem siftf_eq (hi first root:Nat)(xs:List g.α)(hk:hi+1<K)(hb:first+hi≤xs.length)(hl:xs.length<2305843009213693952)(h0:root<4000000000000000000) :
  fe5_.f g K xs (root:Int) (hi:Int) (first:Int)=some (Sort.siftDown (ltC cf) hi first root xs.toArray).toList:=sift_eq hC hi first hi root K xs (by omega) (by omega) hb hl h0
theorem heap_build (a b:Nat)(hab:a≤b)(hk:b+1<K):∀ (n q:Nat) (xs:List g.α),n<q→n<4000000000000000000→b≤xs.length→xs.length<2305843009213693952 →
  fe3_.l2 g K (a:Int) (b:Int) q xs ((n:Int) - 1)=fe3_.j1 g K (a:Int) (b:Int) (Sort.heapBuild (ltC cf) (b - a) a n xs.toArray).toList
 | 0,q,xs,hq,hn,hb,hl=>by
  obtain ⟨q,rfl⟩:∃ m,q=m+1:=⟨q - 1,by omega⟩
  show fe3_.b2 g _ _ _ _ _ _=_
  unfold fe3_.b2
  rw [iN (by simp)]
  rfl
 | n+1,q,xs,hq,hn,hb,hl=>by
  obtain ⟨q,rfl⟩:∃ m,q=m+1:=⟨q - 1,by omega⟩
  show fe3_.b2 g _ _ _ _ _ _=_
  unfold fe3_.b2
  have e0:((n+1:Nat):Int) - 1=(n:Int):=by omega
  have e1:wr .i64 ((b:Int) - (a:Int))=((b - a:Nat):Int):=wrn _ (by omega) (by omega)
  have e2:wr .i64 ((n:Int) - 1)=(n:Int) - 1:=wr_i64_id (by omega) (by omega)
  simp only [e0,e1,e2]
  have hs:=siftDown_size (ltC cf) (b - a) a (b - a) n xs.toArray (by omega)
  have hs':(Sort.siftDown (ltC cf) (b - a) a n xs.toArray).toList.length=xs.length:=by simpa using hs
  rw [iP (dT (by omega)),siftf_eq hC (b - a) a n xs (by omega) (by omega) hl (by omega),oB,heap_build a b hab hk n q _ (by omega) (by omega) (by omega) (by omega)]
  rfl
theorem heap_pop (a:Nat):∀ (n q:Nat) (xs:List g.α),n<q→n+1<K→a+n≤xs.length→xs.length<2305843009213693952 →
  fe3_.l1 g K (a:Int) q xs ((n:Int) - 1)=some (Sort.heapPop (ltC cf) a n xs.toArray).toList
 | 0,q,xs,hq,hk,hb,hl=>by
  obtain ⟨q,rfl⟩:∃ m,q=m+1:=⟨q - 1,by omega⟩
  show fe3_.b1 g _ _ _ _ _=_
  unfold fe3_.b1
  rw [iN (by simp)]
  rfl
 | n+1,q,xs,hq,hk,hb,hl=>by
  obtain ⟨q,rfl⟩:∃ m,q=m+1:=⟨q - 1,by omega⟩
  show fe3_.b1 g _ _ _ _ _=_
  unfold fe3_.b1
  have e0:((n+1:Nat):Int) - 1=(n:Int):=by omega
  have e1:wr .i64 ((a:Int)+(n:Int))=((a+n:Nat):Int):=wrn _ (by omega) (by omega)
  have e2:wr .i64 ((n:Int) - 1)=(n:Int) - 1:=wr_i64_id (by omega) (by omega)
  simp only [e0,e1]
  rw [iP (dT (by omega)),iP (by omega),iP (by omega),iP (by rw [List.length_set]; omega)]
  simp only [e2]
  have hw:((xs.set (Int.toNat (a:Int)) (gt xs ((a+n:Nat):Int))).set (Int.toNat ((a+n:Nat):Int)) (gt xs (a:Int)))=(Sort.swp xs.toArray a (a+n)).toList:=by rw [swp_toArray,Int.toNat_natCast,Int.toNat_natCast]
  rw [hw]
  have hl2:=swp_len xs a (a+n)
  have hs:=siftDown_size (ltC cf) n a n 0 (Sort.swp xs.toArray a (a+n)) (by omega)
  have hs':(Sort.siftDown (ltC cf) n a 0 (Sort.swp xs.toArray a (a+n))).toList.length=xs.length:=by
   have h3:(Sort.swp xs.toArray a (a+n)).size=xs.length:=by simpa using hl2
   rw [Array.length_toList,hs,h3]
  rw [show (0:Int)=((0:Nat):Int) from rfl,siftf_eq hC n a 0 _ (by omega) (by omega) (by omega) (by omega),oB,Array.toArray_toList,heap_pop a n q _ (by omega) (by omega) (by omega) (by omega)]
  rfl
theorem heap_eq (a b:Nat)(xs:List g.α)(ha:a≤b)(hb:b≤xs.length)(hl:xs.length<2305843009213693952)(hk:xs.length+5<K) :
  fe3_.f g K xs (a:Int) (b:Int)=some (Sort.heapSort (ltC cf) xs.toArray a b).toList:=by
 unfold fe3_.f Sort.heapSort
 have e1:wr .i64 ((b:Int) - (a:Int))=((b - a:Nat):Int):=wrn _ (by omega) (by omega)
 have e2:wr .i64 (((b - a:Nat):Int) - 1)=((b - a:Nat):Int) - 1:=wr_i64_id (by omega) (by omega)
 have e3:Int.tdiv (((b - a:Nat):Int) - 1) 2=((((b - a - 1) / 2+1:Nat):Int)) - 1:=by
  by_cases c:b=a
  ·subst c; simp
  ·rw [Int.tdiv_eq_ediv_of_nonneg (by omega)]; omega
 have e4:wr .i64 (((((b - a - 1) / 2+1:Nat):Int)) - 1)=((((b - a - 1) / 2+1:Nat):Int)) - 1:=wr_i64_id (by omega) (by omega)
 simp only [e1,e2,e3,e4]
 rw [heap_build hC a b ha (by omega) _ K xs (by omega) (by omega) hb hl]
 unfold fe3_.j1
 simp only [e1,e2]
 have hs:=heapBuild_size (ltC cf) (b - a) a ((b - a - 1) / 2+1) xs.toArray
 have hs':(Sort.heapBuild (ltC cf) (b - a) a ((b - a - 1) / 2+1) xs.toArray).toList.length=xs.length:=by simpa using hs
 rw [heap_pop hC a (b - a) K _ (by omega) (by omega) (by omega) (by omega)]
end
section
variable {α:Type} [Inhabited α]
theorem scanSorted_bd (lt:α→α→Bool)(d:Array α)(b:Nat):∀ (r i:Nat),b≤i+r→i≤Sort.scanSorted lt d b i∧(Sort.scanSorted lt d b i≤b∨Sort.scanSorted lt d b i=i)
 | r,i,h=>by
  rw [Sort.scanSorted]
  split
  ·rename_i c
   simp only [Bool.and_eq_true,decide_eq_true_eq] at c
   obtain ⟨r,rfl⟩:∃ m,r=m+1:=⟨r - 1,by omega⟩
   have:=scanSorted_bd lt d b r (i+1) (by omega)
   omega
  ·omega
theorem shiftDown_size (lt:α→α→Bool):∀ (j:Nat) (d:Array α),(Sort.shiftDown lt j d).size=d.size
 | 0,d=>rfl
 | j+1,d=>by
  unfold Sort.shiftDown
  split
  ·rfl
  ·rw [shiftDown_size lt j]; simp [Sort.swp]
theorem shiftUp_size (lt:α→α→Bool)(b:Nat):∀ (r j:Nat) (d:Array α),b≤j+r→(Sort.shiftUp lt b j d).size=d.size
 | r,j,d,h=>by
  rw [Sort.shiftUp]
  split
  ·obtain ⟨r,rfl⟩:∃ m,r=m+1:=⟨r - 1,by omega⟩
   split
   ·rfl
   ·rw [shiftUp_size lt b r (j+1) _ (by omega)]; simp [Sort.swp]
  ·rfl
end
section
variable {g:SortG} {K:Nat} {cf:g.α→g.α→Int} (hC:∀ x y,g.cmp K x y=some (cf x y))
include hC
theorem pins_up (b:Nat)(y44 y70:Int)(rec1:List g.α→Int→Int→Option (Bool×List g.α)):∀ (r j q:Nat) (xs:List g.α),b≤j+r→r<q→1≤j→b≤xs.length→xs.length<2305843009213693952→j<4000000000000000000 →
  fa_.l2 g K (b:Int) y44 rec1 y70 q xs (j:Int)=fa_.j2 g y44 rec1 (Sort.shiftUp (ltC cf) b j xs.toArray).toList y70
 | r,j,q,xs,h,hq,hj,hb,hl,h4=>by
  obtain ⟨q,rfl⟩:∃ m,q=m+1:=⟨q - 1,by omega⟩
  show fa_.b2 g K _ _ _ _ _ _ _=_
  unfold fa_.b2
  have e1:wr .i64 ((j:Int) - 1)=((j - 1:Nat):Int):=wrn _ (by omega) (by omega)
  have e2:wr .i64 ((j:Int)+1)=((j+1:Nat):Int):=wrn _ (by omega) (by omega)
  rw [Sort.shiftUp]
  simp only [e1]
  by_cases c:j<b
  ·obtain ⟨r,rfl⟩:∃ m,r=m+1:=⟨r - 1,by omega⟩
   rw [iP (show decide ((j:Int)<(b:Int))=true from dT (by omega)),iP c,iP (by omega),iP (by omega),hC,oB,at_toArray,at_toArray]
   by_cases c2:cf (gt xs (j:Int)) (gt xs ((j - 1:Nat):Int))<0
   ·rw [dT c2,show ltC cf (gt xs (j:Int)) (gt xs ((j - 1:Nat):Int))=true from dT c2,iN (show ¬ ((!true)=true) by simp),iN (show ¬ ((!true)=true) by simp),iP (by rw [List.length_set]; omega)]
    simp only [e2]
    have hw:((xs.set (Int.toNat (j:Int)) (gt xs ((j - 1:Nat):Int))).set (Int.toNat ((j - 1:Nat):Int)) (gt xs (j:Int)))=(Sort.swp xs.toArray j (j - 1)).toList:=by rw [swp_toArray,Int.toNat_natCast,Int.toNat_natCast]
    have hl2:=swp_len xs j (j - 1)
    rw [hw,pins_up b y44 y70 rec1 r (j+1) q _ (by omega) (by omega) (by omega) (by omega) (by omega) (by omega),Array.toArray_toList]
   ·rw [dF c2,show ltC cf (gt xs (j:Int)) (gt xs ((j - 1:Nat):Int))=false from dF c2,iP (by simp),iP (by simp)]
  ·rw [iN (show ¬ decide ((j:Int)<(b:Int))=true by simp; omega),iN c]
theorem pins_down (b:Nat)(y44 y70:Int)(rec1:List g.α→Int→Int→Option (Bool×List g.α)):∀ (j q:Nat) (xs:List g.α),j<xs.length→j<q→xs.length<2305843009213693952 →
  fa_.l3 g K (b:Int) y44 rec1 y70 q xs (j:Int)=fa_.j4 g K (b:Int) y44 rec1 y70 (Sort.shiftDown (ltC cf) j xs.toArray).toList
 | 0,q,xs,hj,hq,hl=>by
  obtain ⟨q,rfl⟩:∃ m,q=m+1:=⟨q - 1,by omega⟩
  show fa_.b3 g _ _ _ _ _ _ _ _=_
  unfold fa_.b3
  rw [iN (by simp)]
  rfl
 | j+1,q,xs,hj,hq,hl=>by
  obtain ⟨q,rfl⟩:∃ m,q=m+1:=⟨q - 1,by omega⟩
  show fa_.b3 g _ _ _ _ _ _ _ _=_
  unfold fa_.b3 Sort.shiftDown
  have e1:wr .i64 (((j+1:Nat):Int) - 1)=(j:Int):=wrn _ (by omega) (by omega)
  simp only [e1]
  rw [iP (show decide ((1:Int)≤((j+1:Nat):Int))=true from dT (by omega)),iP (by omega),iP (by omega),hC,oB,at_toArray,at_toArray]
  by_cases c2:cf (gt xs ((j+1:Nat):Int)) (gt xs (j:Int))<0
  ·rw [dT c2,show ltC cf (gt xs ((j+1:Nat):Int)) (gt xs (j:Int))=true from dT c2,iN (show ¬ ((!true)=true) by simp),iN (show ¬ ((!true)=true) by simp),iP (by rw [List.length_set]; omega)]
   have hw:((xs.set (Int.toNat ((j+1:Nat):Int)) (gt xs (j:Int))).set (Int.toNat (j:Int)) (gt xs ((j+1:Nat):Int)))=(Sort.swp xs.toArray (j+1) j).toList:=by rw [swp_toArray,Int.toNat_natCast,Int.toNat_natCast]
   have hl2:=swp_len xs (j+1) j
   rw [hw,pins_down b y44 y70 rec1 j q _ (by omega) (by omega) (by omega),Array.toArray_toList]
  ·rw [dF c2,show ltC cf (gt xs ((j+1:Nat):Int)) (gt xs (j:Int))=false from dF c2,iP (by simp),iP (by simp)]
theorem pins_scan (a b:Nat)(y44:Int)(xs:List g.α)(rec1:List g.α→Int→Int→Option (Bool×List g.α))(hb:b≤xs.length)(hl:xs.length<2305843009213693952):∀ (r i q:Nat),b≤i+r→r<q→1≤i→i<4000000000000000000 →
  fa_.l4 g K (a:Int) (b:Int) xs y44 rec1 q (i:Int)=fa_.j3 g K (a:Int) (b:Int) xs y44 rec1 ((Sort.scanSorted (ltC cf) xs.toArray b i:Nat):Int)
 | r,i,q,h,hq,hi,h4=>by
  obtain ⟨q,rfl⟩:∃ m,q=m+1:=⟨q - 1,by omega⟩
  show fa_.b4 g _ _ _ _ _ _ _ _=_
  unfold fa_.b4
  have e1:wr .i64 ((i:Int) - 1)=((i - 1:Nat):Int):=wrn _ (by omega) (by omega)
  have e2:wr .i64 ((i:Int)+1)=((i+1:Nat):Int):=wrn _ (by omega) (by omega)
  rw [Sort.scanSorted]
  simp only [e1]
  by_cases c:i<b
  ·obtain ⟨r,rfl⟩:∃ m,r=m+1:=⟨r - 1,by omega⟩
   rw [iP (show decide ((i:Int)<(b:Int))=true from dT (by omega)),iP (by omega),iP (by omega),hC,oB,at_toArray,at_toArray]
   unfold fa_.j5
   by_cases c2:cf (gt xs (i:Int)) (gt xs ((i - 1:Nat):Int))<0
   ·rw [dT c2,show ltC cf (gt xs (i:Int)) (gt xs ((i - 1:Nat):Int))=true from dT c2,iN (by simp),iN (by simp)]
   ·rw [dF c2,show ltC cf (gt xs (i:Int)) (gt xs ((i - 1:Nat):Int))=false from dF c2,iP (by simp),iP (by simpa using c),e2]
    exact pins_scan a b y44 xs rec1 hb hl r (i+1) q (by omega) (by omega) (by omega) (by omega)
  ·rw [iN (show ¬ decide ((i:Int)<(b:Int))=true by simp; omega),iN (by simp; omega)]
   unfold fa_.j5
   rw [iN (by simp)]
theorem pins_loop (a b:Nat)(hab:a<b):∀ (s i q:Nat) (xs:List g.α),s≤5→s<q→a<i→i≤b→b≤xs.length→xs.length<2305843009213693952→xs.length+5<K →
  fa_.l1 g K (a:Int) (b:Int) q xs ((5 - s:Nat):Int) (i:Int)=some ((Sort.partialIns (ltC cf) a b s i xs.toArray).2,(Sort.partialIns (ltC cf) a b s i xs.toArray).1.toList)
 | 0,i,q,xs,hs,hq,hi,hib,hb,hl,hk=>by
  obtain ⟨q,rfl⟩:∃ m,q=m+1:=⟨q - 1,by omega⟩
  show fa_.b1 g _ _ _ _ _ _ _=_
  unfold fa_.b1
  rw [iN (by simp)]
  rfl
 | s+1,i,q,xs,hs,hq,hi,hib,hb,hl,hk=>by
  obtain ⟨q,rfl⟩:∃ m,q=m+1:=⟨q - 1,by omega⟩
  show fa_.b1 g _ _ _ _ _ _ _=_
  unfold fa_.b1 Sort.partialIns
  rw [iP (show decide (((5 - (s+1):Nat):Int)<5)=true from dT (by omega)),pins_scan hC a b _ xs _ hb hl b i K (by omega) (by omega) (by omega) (by omega)]
  have hbd:=scanSorted_bd (ltC cf) xs.toArray b b i (by omega)
  generalize Sort.scanSorted (ltC cf) xs.toArray b i=i2 at hbd ⊢
  simp only []
  unfold fa_.j3
  have e1:wr .i64 ((i2:Int) - 1)=((i2 - 1:Nat):Int):=wrn _ (by omega) (by omega)
  have e2:wr .i64 ((b:Int) - (a:Int))=((b - a:Nat):Int):=wrn _ (by omega) (by omega)
  have e3:wr .i64 ((i2:Int) - (a:Int))=((i2 - a:Nat):Int):=wrn _ (by omega) (by omega)
  have e4:wr .i64 ((b:Int) - (i2:Int))=((b - i2:Nat):Int):=wrn _ (by omega) (by omega)
  have e5:wr .i64 ((i2:Int)+1)=((i2+1:Nat):Int):=wrn _ (by omega) (by omega)
  have e6:wr .i64 (((5 - (s+1):Nat):Int)+1)=((5 - s:Nat):Int):=wrn _ (by omega) (by omega)
  simp only [e1,e2]
  by_cases c1:i2=b
  ·rw [iP (show ((i2:Int)==(b:Int))=true by simp; omega),iP c1]
  ·rw [iN (show ¬ ((i2:Int)==(b:Int))=true by simp; omega),iN c1]
   by_cases c2:b - a<50
   ·rw [iP (show decide (((b - a:Nat):Int)<50)=true from dT (by omega)),iP c2]
   ·rw [iN (show ¬ decide (((b - a:Nat):Int)<50)=true by simp; omega),iN c2,iP (by omega),iP (by omega),iP (by rw [List.length_set]; omega)]
    have hw:((xs.set (Int.toNat (i2:Int)) (gt xs ((i2 - 1:Nat):Int))).set (Int.toNat ((i2 - 1:Nat):Int)) (gt xs (i2:Int)))=(Sort.swp xs.toArray i2 (i2 - 1)).toList:=by rw [swp_toArray,Int.toNat_natCast,Int.toNat_natCast]
    have hl2:=swp_len xs i2 (i2 - 1)
    simp only [e3,hw]
    have j5:∀ (d:Array g.α),d.size=xs.length→fa_.j4 g K (b:Int) ((5 - (s+1):Nat):Int) (fa_.l1 g K (a:Int) (b:Int) q) (i2:Int) d.toList=some ((Sort.partialIns (ltC cf) a b s i2 (if b - i2≥2 then Sort.shiftUp (ltC cf) b (i2+1) d else d)).2,(Sort.partialIns (ltC cf) a b s i2 (if b - i2≥2 then Sort.shiftUp (ltC cf) b (i2+1) d else d)).1.toList):=fun d hd=>by
     unfold fa_.j4
     simp only [e4,e5]
     have hdl:d.toList.length=xs.length:=by simpa using hd
     by_cases c3:b - i2≥2
     ·have hu:=shiftUp_size (ltC cf) b b (i2+1) d (by omega)
      have hul:(Sort.shiftUp (ltC cf) b (i2+1) d).toList.length=xs.length:=by rw [Array.length_toList,hu,hd]
      rw [iP (show decide ((2:Int)≤((b - i2:Nat):Int))=true from dT (by omega)),iP c3,pins_up hC b _ _ _ b (i2+1) K _ (by omega) (by omega) (by omega) (by omega) (by omega) (by omega),Array.toArray_toList]
      unfold fa_.j2
      rw [e6,pins_loop a b hab s i2 q _ (by omega) (by omega) (by omega) (by omega) (by omega) (by omega) (by omega),Array.toArray_toList]
     ·rw [iN (show ¬ decide ((2:Int)≤((b - i2:Nat):Int))=true by simp; omega),iN c3]
      unfold fa_.j2
      rw [e6,pins_loop a b hab s i2 q _ (by omega) (by omega) (by omega) (by omega) (by omega) (by omega) (by omega),Array.toArray_toList]
    have hsz:(Sort.swp xs.toArray i2 (i2 - 1)).size=xs.length:=by simpa using hl2
    by_cases c3:i2 - a≥2
    ·rw [iP (show decide ((2:Int)≤((i2 - a:Nat):Int))=true from dT (by omega)),pins_down hC b _ _ _ (i2 - 1) K _ (by omega) (by omega) (by omega),Array.toArray_toList,j5 _ (by rw [shiftDown_size,hsz])]
     simp only [iP c3]
    ·rw [iN (show ¬ decide ((2:Int)≤((i2 - a:Nat):Int))=true by simp; omega),j5 _ hsz]
     simp only [iN c3]
theorem pins_eq (a b:Nat)(xs:List g.α)(hab:a<b)(hb:b≤xs.length)(hl:xs.length<2305843009213693952)(hk:xs.length+10<K) :
  fa_.f g K xs (a:Int) (b:Int)=some ((Sort.partialInsertionSort (ltC cf) xs.toArray a b).2,(Sort.partialInsertionSort (ltC cf) xs.toArray a b).1.toList):=by
 unfold fa_.f Sort.partialInsertionSort
 rw [show wr .i64 ((a:Int)+1)=((a+1:Nat):Int) from wrn _ (by omega) (by omega)]
 exact pins_loop hC a b hab 5 (a+1) K xs (by omega) (by omega) (by omega) (by omega) hb hl (by omega)
end
section
variable {α:Type} [Inhabited α]
theorem scanUp_bd (p:α→Bool)(d:Array α)(j:Nat):∀ (r i:Nat),j+1≤i+r→i≤Sort.scanUp p d j i∧(Sort.scanUp p d j i≤j+1∨Sort.scanUp p d j i=i)
 | r,i,h=>by
  rw [Sort.scanUp]
  split
  ·rename_i c
   simp only [Bool.and_eq_true,decide_eq_true_eq] at c
   obtain ⟨r,rfl⟩:∃ m,r=m+1:=⟨r - 1,by omega⟩
   have:=scanUp_bd p d j r (i+1) (by omega)
   omega
  ·omega
theorem scanDown_bd (p:α→Bool)(d:Array α)(i:Nat):∀ j:Nat,Sort.scanDown p d i j≤j∧(i≤j+1→i≤Sort.scanDown p d i j+1∨j=0)
 | 0=>⟨Nat.le_refl _,fun _=> .inr rfl⟩
 | j+1=>by
  unfold Sort.scanDown
  split
  ·rename_i c
   simp only [Bool.and_eq_true,decide_eq_true_eq] at c
   have:=scanDown_bd p d i j
   refine ⟨by omega,fun _=>?_⟩
   by_cases h0:j=0
   ·subst h0
    left
    show i≤0+1
    omega
   ·have:=this.2 (by omega)
    omega
  ·exact ⟨Nat.le_refl _,fun h=>by omega⟩
end
section
variable {g:SortG} {K:Nat} {cf:g.α→g.α→Int} (hC:∀ x y,g.cmp K x y=some (cf x y))
include hC
theorem peq_down (a i:Nat)(xs:List g.α)(rec1:List g.α→Int→Int→Option (Int×List g.α))(hi:1≤i)(ha:a<xs.length)(hl:xs.length<2305843009213693952):∀ (j q:Nat),j<xs.length→j<q →
  fa5_.l2 g K (a:Int) xs rec1 (i:Int) q (j:Int)=fa5_.j3 g xs rec1 (i:Int) ((Sort.scanDown (fun x=>ltC cf (gt xs (a:Int)) x) xs.toArray i j:Nat):Int)
 | 0,q,hj,hq=>by
  obtain ⟨q,rfl⟩:∃ m,q=m+1:=⟨q - 1,by omega⟩
  show fa5_.b2 g K _ _ _ _ _ _=_
  unfold fa5_.b2
  rw [iN (by simp; omega)]
  rfl
 | j+1,q,hj,hq=>by
  obtain ⟨q,rfl⟩:∃ m,q=m+1:=⟨q - 1,by omega⟩
  show fa5_.b2 g K _ _ _ _ _ _=_
  unfold fa5_.b2 Sort.scanDown
  by_cases c:i≤j+1
  ·rw [iP (show decide ((i:Int)≤((j+1:Nat):Int))=true from dT (by omega)),iP (by omega),iP (by omega),hC,oB,at_toArray]
   unfold fa5_.j4
   by_cases c2:cf (gt xs (a:Int)) (gt xs ((j+1:Nat):Int))<0
   ·rw [iP (dT c2),show ltC cf (gt xs (a:Int)) (gt xs ((j+1:Nat):Int))=true from dT c2,iP (by simpa using c)]
    rw [show wr .i64 (((j+1:Nat):Int) - 1)=(j:Int) from wrn _ (by omega) (by omega)]
    exact peq_down a i xs rec1 hi ha hl j q (by omega) (by omega)
   ·rw [iN (by simpa using c2),show ltC cf (gt xs (a:Int)) (gt xs ((j+1:Nat):Int))=false from dF c2,iN (by simp)]
  ·rw [iN (show ¬ decide ((i:Int)≤((j+1:Nat):Int))=true by simp; omega),iN (by simp; omega)]
   unfold fa5_.j4
   rw [iN (by simp)]
theorem peq_up (a j:Nat)(xs:List g.α)(rec1:List g.α→Int→Int→Option (Int×List g.α))(ha:a<xs.length)(hj:j<xs.length)(hl:xs.length<2305843009213693952):∀ (r i q:Nat),j+1≤i+r→r<q→i<4000000000000000000 →
  fa5_.l3 g K (a:Int) xs (j:Int) rec1 q (i:Int)=fa5_.j2 g K (a:Int) xs (j:Int) rec1 ((Sort.scanUp (fun x => !ltC cf (gt xs (a:Int)) x) xs.toArray j i:Nat):Int)
 | r,i,q,h,hq,h4=>by
  obtain ⟨q,rfl⟩:∃ m,q=m+1:=⟨q - 1,by omega⟩
  show fa5_.b3 g _ _ _ _ _ _ _=_
  unfold fa5_.b3
  rw [Sort.scanUp]
  by_cases c:i≤j
  ·obtain ⟨r,rfl⟩:∃ m,r=m+1:=⟨r - 1,by omega⟩
   rw [iP (show decide ((i:Int)≤(j:Int))=true from dT (by omega)),iP (by omega),iP (by omega),hC,oB,at_toArray]
   unfold fa5_.j5
   by_cases c2:cf (gt xs (a:Int)) (gt xs (i:Int))<0
   ·rw [dT c2,show ltC cf (gt xs (a:Int)) (gt xs (i:Int))=true from dT c2,iN (by simp),iN (by simp)]
   ·rw [dF c2,show ltC cf (gt xs (a:Int)) (gt xs (i:Int))=false from dF c2,iP (by simp),iP (by simpa using c)]
    rw [show wr .i64 ((i:Int)+1)=((i+1:Nat):Int) from wrn _ (by omega) (by omega)]
    exact peq_up a j xs rec1 ha hj hl r (i+1) q (by omega) (by omega) (by omega)
  ·rw [iN (show ¬ decide ((i:Int)≤(j:Int))=true by simp; omega),iN (by simp; omega)]
   unfold fa5_.j5
   rw [iN (by simp)]
theorem peq_loop (a:Nat):∀ (r i j q:Nat) (xs:List g.α),j+1≤i+r→r<q→1≤i→i≤xs.length→a<xs.length→j<xs.length→xs.length<2305843009213693952→xs.length+1<K →
  fa5_.l1 g K (a:Int) q xs (j:Int) (i:Int)=some (((Sort.partEqLoop (ltC cf) a i j xs.toArray).1:Int),(Sort.partEqLoop (ltC cf) a i j xs.toArray).2.toList)
 | r,i,j,q,xs,h,hq,hi,hix,ha,hj,hl,hk=>by
  obtain ⟨q,rfl⟩:∃ m,q=m+1:=⟨q - 1,by omega⟩
  show fa5_.b1 g _ _ _ _ _ _=_
  unfold fa5_.b1
  rw [Sort.partEqLoop,peq_up hC a j xs _ ha hj hl (j+1) i K (by omega) (by omega) (by omega)]
  unfold fa5_.j2
  have hb1:=scanUp_bd (fun x => !ltC cf (gt xs (a:Int)) x) xs.toArray j (j+1) i (by omega)
  simp only [at_toArray]
  generalize Sort.scanUp (fun x => !ltC cf (gt xs (a:Int)) x) xs.toArray j i=i2 at hb1 ⊢
  rw [peq_down hC a i2 xs _ (by omega) ha hl j K hj (by omega)]
  have hb2:=scanDown_bd (fun x=>ltC cf (gt xs (a:Int)) x) xs.toArray i2 j
  generalize Sort.scanDown (fun x=>ltC cf (gt xs (a:Int)) x) xs.toArray i2 j=j2 at hb2 ⊢
  unfold fa5_.j3
  by_cases c:i2>j2
  ·rw [iP (show decide ((j2:Int)<(i2:Int))=true from dT (by omega)),iP c]
   rfl
  ·obtain ⟨r,rfl⟩:∃ m,r=m+1:=⟨r - 1,by omega⟩
   rw [iN (show ¬ decide ((j2:Int)<(i2:Int))=true by simp; omega),iN c,iP (by omega),iP (by omega),iP (by rw [List.length_set]; omega),dif_pos (by omega)]
   have e1:wr .i64 ((j2:Int) - 1)=((j2 - 1:Nat):Int):=wrn _ (by omega) (by omega)
   have e2:wr .i64 ((i2:Int)+1)=((i2+1:Nat):Int):=wrn _ (by omega) (by omega)
   have hw:((xs.set (Int.toNat (i2:Int)) (gt xs (j2:Int))).set (Int.toNat (j2:Int)) (gt xs (i2:Int)))=(Sort.swp xs.toArray i2 j2).toList:=by rw [swp_toArray,Int.toNat_natCast,Int.toNat_natCast]
   have hl2:=swp_len xs i2 j2
   rw [e1,e2,hw,peq_loop a r (i2+1) (j2 - 1) q _ (by omega) (by omega) (by omega) (by omega) (by omega) (by omega) (by omega) (by omega),Array.toArray_toList]
theorem peq_eq (a b p:Nat)(xs:List g.α)(hap:a≤p)(hpb:p<b)(hb:b≤xs.length)(hl:xs.length<2305843009213693952)(hk:xs.length+5<K) :
  fa5_.f g K xs (a:Int) (b:Int) (p:Int)=some (((Sort.partitionEqual (ltC cf) xs.toArray a b p).1:Int),(Sort.partitionEqual (ltC cf) xs.toArray a b p).2.toList):=by
 unfold fa5_.f Sort.partitionEqual
 rw [iP (by omega),iP (by omega),iP (by rw [List.length_set]; omega)]
 have e1:wr .i64 ((b:Int) - 1)=((b - 1:Nat):Int):=wrn _ (by omega) (by omega)
 have e2:wr .i64 ((a:Int)+1)=((a+1:Nat):Int):=wrn _ (by omega) (by omega)
 have hw:((xs.set (Int.toNat (a:Int)) (gt xs (p:Int))).set (Int.toNat (p:Int)) (gt xs (a:Int)))=(Sort.swp xs.toArray a p).toList:=by rw [swp_toArray,Int.toNat_natCast,Int.toNat_natCast]
 have hl2:=swp_len xs a p
 rw [e1,e2,hw,peq_loop hC a b (a+1) (b - 1) K _ (by omega) (by omega) (by omega) (by omega) (by omega) (by omega) (by omega) (by omega),Array.toArray_toList]
end
section
variable {g:SortG} {K:Nat} {cf:g.α→g.α→Int} (hC:∀ x y,g.cmp K x y=some (cf x y))
include hC
theorem part_down (a i:Nat)(xs:List g.α)(rec1:List g.α→Int→Int→Option (Int×Bool×List g.α))(hi:1≤i)(ha:a<xs.length)(hl:xs.length<2305843009213693952):∀ (j q:Nat),j<xs.length→j<q →
  fd8_.l2 g K (a:Int) xs rec1 (i:Int) q (j:Int)=fd8_.j5 g (a:Int) xs rec1 (i:Int) ((Sort.scanDown (fun x => !ltC cf x (gt xs (a:Int))) xs.toArray i j:Nat):Int)
 | 0,q,hj,hq=>by
  obtain ⟨q,rfl⟩:∃ m,q=m+1:=⟨q - 1,by omega⟩
  show fd8_.b2 g K _ _ _ _ _ _=_
  unfold fd8_.b2
  rw [iN (by simp; omega)]
  rfl
 | j+1,q,hj,hq=>by
  obtain ⟨q,rfl⟩:∃ m,q=m+1:=⟨q - 1,by omega⟩
  show fd8_.b2 g K _ _ _ _ _ _=_
  unfold fd8_.b2 Sort.scanDown
  by_cases c:i≤j+1
  ·rw [iP (show decide ((i:Int)≤((j+1:Nat):Int))=true from dT (by omega)),iP (by omega),iP (by omega),hC,oB,at_toArray]
   unfold fd8_.j6
   by_cases c2:cf (gt xs ((j+1:Nat):Int)) (gt xs (a:Int))<0
   ·rw [dT c2,show ltC cf (gt xs ((j+1:Nat):Int)) (gt xs (a:Int))=true from dT c2,iN (by simp),iN (by simp)]
   ·rw [dF c2,show ltC cf (gt xs ((j+1:Nat):Int)) (gt xs (a:Int))=false from dF c2,iP (by simp),iP (by simpa using c)]
    rw [show wr .i64 (((j+1:Nat):Int) - 1)=(j:Int) from wrn _ (by omega) (by omega)]
    exact part_down a i xs rec1 hi ha hl j q (by omega) (by omega)
  ·rw [iN (show ¬ decide ((i:Int)≤((j+1:Nat):Int))=true by simp; omega),iN (by simp; omega)]
   unfold fd8_.j6
   rw [iN (by simp)]
theorem part_up (a j:Nat)(xs:List g.α)(rec1:List g.α→Int→Int→Option (Int×Bool×List g.α))(ha:a<xs.length)(hj:j<xs.length)(hl:xs.length<2305843009213693952):∀ (r i q:Nat),j+1≤i+r→r<q→i<4000000000000000000 →
  fd8_.l3 g K (a:Int) xs (j:Int) rec1 q (i:Int)=fd8_.j4 g K (a:Int) xs (j:Int) rec1 ((Sort.scanUp (fun x=>ltC cf x (gt xs (a:Int))) xs.toArray j i:Nat):Int)
 | r,i,q,h,hq,h4=>by
  obtain ⟨q,rfl⟩:∃ m,q=m+1:=⟨q - 1,by omega⟩
  show fd8_.b3 g _ _ _ _ _ _ _=_
  unfold fd8_.b3
  rw [Sort.scanUp]
  by_cases c:i≤j
  ·obtain ⟨r,rfl⟩:∃ m,r=m+1:=⟨r - 1,by omega⟩
   rw [iP (show decide ((i:Int)≤(j:Int))=true from dT (by omega)),iP (by omega),iP (by omega),hC,oB,at_toArray]
   unfold fd8_.j7
   by_cases c2:cf (gt xs (i:Int)) (gt xs (a:Int))<0
   ·rw [iP (dT c2),show ltC cf (gt xs (i:Int)) (gt xs (a:Int))=true from dT c2,iP (by simpa using c)]
    rw [show wr .i64 ((i:Int)+1)=((i+1:Nat):Int) from wrn _ (by omega) (by omega)]
    exact part_up a j xs rec1 ha hj hl r (i+1) q (by omega) (by omega) (by omega)
   ·rw [iN (by simpa using c2),show ltC cf (gt xs (i:Int)) (gt xs (a:Int))=false from dF c2,iN (by simp)]
  ·rw [iN (show ¬ decide ((i:Int)≤(j:Int))=true by simp; omega),iN (by simp; omega)]
   unfold fd8_.j7
   rw [iN (by simp)]
theorem part_loop (a:Nat):∀ (r i j q:Nat) (xs:List g.α),j+1≤i+r→r<q→1≤i→i≤xs.length→a<xs.length→j<xs.length→xs.length<2305843009213693952→xs.length+1<K →
  fd8_.l1 g K (a:Int) q xs (j:Int) (i:Int)=some (((Sort.partLoop (ltC cf) a i j xs.toArray).1:Int),false,(Sort.swp (Sort.partLoop (ltC cf) a i j xs.toArray).2 (Sort.partLoop (ltC cf) a i j xs.toArray).1 a).toList)
 | r,i,j,q,xs,h,hq,hi,hix,ha,hj,hl,hk=>by
  obtain ⟨q,rfl⟩:∃ m,q=m+1:=⟨q - 1,by omega⟩
  show fd8_.b1 g _ _ _ _ _ _=_
  unfold fd8_.b1
  rw [Sort.partLoop,part_up hC a j xs _ ha hj hl (j+1) i K (by omega) (by omega) (by omega)]
  unfold fd8_.j4
  have hb1:=scanUp_bd (fun x=>ltC cf x (gt xs (a:Int))) xs.toArray j (j+1) i (by omega)
  simp only [at_toArray]
  generalize Sort.scanUp (fun x=>ltC cf x (gt xs (a:Int))) xs.toArray j i=i2 at hb1 ⊢
  rw [part_down hC a i2 xs _ (by omega) ha hl j K hj (by omega)]
  have hb2:=scanDown_bd (fun x => !ltC cf x (gt xs (a:Int))) xs.toArray i2 j
  generalize Sort.scanDown (fun x => !ltC cf x (gt xs (a:Int))) xs.toArray i2 j=j2 at hb2 ⊢
  unfold fd8_.j5
  by_cases c:i2>j2
  ·rw [iP (show decide ((j2:Int)<(i2:Int))=true from dT (by omega)),iP c]
   unfold fd8_.j3
   rw [iP (by omega),iP (by omega),iP (by rw [List.length_set]; omega),Int.toNat_natCast,Int.toNat_natCast]
   simp only [swp_toArray]
  ·obtain ⟨r,rfl⟩:∃ m,r=m+1:=⟨r - 1,by omega⟩
   rw [iN (show ¬ decide ((j2:Int)<(i2:Int))=true by simp; omega),iN c,iP (by omega),iP (by omega),iP (by rw [List.length_set]; omega),dif_pos (by omega)]
   have e1:wr .i64 ((j2:Int) - 1)=((j2 - 1:Nat):Int):=wrn _ (by omega) (by omega)
   have e2:wr .i64 ((i2:Int)+1)=((i2+1:Nat):Int):=wrn _ (by omega) (by omega)
   have hw:((xs.set (Int.toNat (i2:Int)) (gt xs (j2:Int))).set (Int.toNat (j2:Int)) (gt xs (i2:Int)))=(Sort.swp xs.toArray i2 j2).toList:=by rw [swp_toArray,Int.toNat_natCast,Int.toNat_natCast]
   have hl2:=swp_len xs i2 j2
   rw [e1,e2,hw,part_loop a r (i2+1) (j2 - 1) q _ (by omega) (by omega) (by omega) (by omega) (by omega) (by omega) (by omega) (by omega),Array.toArray_toList]
theorem part_down4 (a p i:Nat)(x1 xs:List g.α)(hx:((x1.set (Int.toNat (a:Int)) (gt x1 (p:Int))).set (Int.toNat (p:Int)) (gt x1 (a:Int)))=xs)(hi:1≤i)(ha:a<xs.length)(hl:xs.length<2305843009213693952):∀ (j q:Nat),j<xs.length→j<q →
  fd8_.l4 g K x1 (a:Int) (p:Int) (i:Int) q (j:Int)=fd8_.j2 g K x1 (a:Int) (p:Int) (i:Int) ((Sort.scanDown (fun x => !ltC cf x (gt xs (a:Int))) xs.toArray i j:Nat):Int)
 | 0,q,hj,hq=>by
  obtain ⟨q,rfl⟩:∃ m,q=m+1:=⟨q - 1,by omega⟩
  show fd8_.b4 g _ _ _ _ _ _ _=_
  unfold fd8_.b4
  rw [iN (by simp; omega)]
  rfl
 | j+1,q,hj,hq=>by
  obtain ⟨q,rfl⟩:∃ m,q=m+1:=⟨q - 1,by omega⟩
  show fd8_.b4 g _ _ _ _ _ _ _=_
  unfold fd8_.b4 Sort.scanDown
  simp only [hx]
  by_cases c:i≤j+1
  ·rw [iP (show decide ((i:Int)≤((j+1:Nat):Int))=true from dT (by omega)),iP (by omega),iP (by omega),hC,oB,at_toArray]
   unfold fd8_.j8
   by_cases c2:cf (gt xs ((j+1:Nat):Int)) (gt xs (a:Int))<0
   ·rw [dT c2,show ltC cf (gt xs ((j+1:Nat):Int)) (gt xs (a:Int))=true from dT c2,iN (by simp),iN (by simp)]
   ·rw [dF c2,show ltC cf (gt xs ((j+1:Nat):Int)) (gt xs (a:Int))=false from dF c2,iP (by simp),iP (by simpa using c)]
    rw [show wr .i64 (((j+1:Nat):Int) - 1)=(j:Int) from wrn _ (by omega) (by omega)]
    exact part_down4 a p i x1 xs hx hi ha hl j q (by omega) (by omega)
  ·rw [iN (show ¬ decide ((i:Int)≤((j+1:Nat):Int))=true by simp; omega),iN (by simp; omega)]
   unfold fd8_.j8
   rw [iN (by simp)]
theorem part_up5 (a b p:Nat)(x1 xs:List g.α)(hx:((x1.set (Int.toNat (a:Int)) (gt x1 (p:Int))).set (Int.toNat (p:Int)) (gt x1 (a:Int)))=xs)(ha:a<xs.length)(hb:b≤xs.length)(h1:1≤b)(hl:xs.length<2305843009213693952):∀ (r i q:Nat),b≤i+r→r<q→i<4000000000000000000 →
  fd8_.l5 g K x1 (a:Int) (b:Int) (p:Int) q (i:Int)=fd8_.j1 g K x1 (a:Int) (b:Int) (p:Int) ((Sort.scanUp (fun x=>ltC cf x (gt xs (a:Int))) xs.toArray (b - 1) i:Nat):Int)
 | r,i,q,h,hq,h4=>by
  obtain ⟨q,rfl⟩:∃ m,q=m+1:=⟨q - 1,by omega⟩
  show fd8_.b5 g _ _ _ _ _ _ _=_
  unfold fd8_.b5
  have e1:wr .i64 ((b:Int) - 1)=((b - 1:Nat):Int):=wrn _ (by omega) (by omega)
  rw [Sort.scanUp]
  simp only [hx,e1]
  by_cases c:i≤b - 1
  ·obtain ⟨r,rfl⟩:∃ m,r=m+1:=⟨r - 1,by omega⟩
   rw [iP (show decide ((i:Int)≤((b - 1:Nat):Int))=true from dT (by omega)),iP (by omega),iP (by omega),hC,oB,at_toArray]
   unfold fd8_.j9
   by_cases c2:cf (gt xs (i:Int)) (gt xs (a:Int))<0
   ·rw [iP (dT c2),show ltC cf (gt xs (i:Int)) (gt xs (a:Int))=true from dT c2,iP (by simpa using c)]
    rw [show wr .i64 ((i:Int)+1)=((i+1:Nat):Int) from wrn _ (by omega) (by omega)]
    exact part_up5 a b p x1 xs hx ha hb h1 hl r (i+1) q (by omega) (by omega) (by omega)
   ·rw [iN (by simpa using c2),show ltC cf (gt xs (i:Int)) (gt xs (a:Int))=false from dF c2,iN (by simp)]
  ·rw [iN (show ¬ decide ((i:Int)≤((b - 1:Nat):Int))=true by simp; omega),iN (by simp; omega)]
   unfold fd8_.j9
   rw [iN (by simp)]
theorem part_eq (a b p:Nat)(x1:List g.α)(hap:a≤p)(hpb:p<b)(hb:b≤x1.length)(hl:x1.length<2305843009213693952)(hk:x1.length+5<K) :
  fd8_.f g K x1 (a:Int) (b:Int) (p:Int)=some (((Sort.partition (ltC cf) x1.toArray a b p).1:Int),(Sort.partition (ltC cf) x1.toArray a b p).2.1,(Sort.partition (ltC cf) x1.toArray a b p).2.2.toList):=by
 unfold fd8_.f Sort.partition
 rw [iP (by omega),iP (by omega),iP (by rw [List.length_set]; omega)]
 have e2:wr .i64 ((a:Int)+1)=((a+1:Nat):Int):=wrn _ (by omega) (by omega)
 have hw:((x1.set (Int.toNat (a:Int)) (gt x1 (p:Int))).set (Int.toNat (p:Int)) (gt x1 (a:Int)))=(Sort.swp x1.toArray a p).toList:=by rw [swp_toArray,Int.toNat_natCast,Int.toNat_natCast]
 have hl2:=swp_len x1 a p
 have hd:Sort.swp x1.toArray a p=(Sort.swp x1.toArray a p).toList.toArray:=by rw [Array.toArray_toList]
 rw [hd]
 generalize hxs:(Sort.swp x1.toArray a p).toList=xs at hw hl2 ⊢
 have e1:wr .i64 ((b:Int) - 1)=((b - 1:Nat):Int):=wrn _ (by omega) (by omega)
 rw [e2,part_up5 hC a b p x1 xs hw (by omega) (by omega) (by omega) (by omega) b (a+1) K (by omega) (by omega) (by omega)]
 unfold fd8_.j1
 have hb1:=scanUp_bd (fun x=>ltC cf x (gt xs (a:Int))) xs.toArray (b - 1) b (a+1) (by omega)
 simp only [at_toArray,e1]
 generalize Sort.scanUp (fun x=>ltC cf x (gt xs (a:Int))) xs.toArray (b - 1) (a+1)=i2 at hb1 ⊢
 rw [part_down4 hC a p i2 x1 xs hw (by omega) (by omega) (by omega) (b - 1) K (by omega) (by omega)]
 have hb2:=scanDown_bd (fun x => !ltC cf x (gt xs (a:Int))) xs.toArray i2 (b - 1)
 generalize Sort.scanDown (fun x => !ltC cf x (gt xs (a:Int))) xs.toArray i2 (b - 1)=j2 at hb2 ⊢
 unfold fd8_.j2
 simp only [hw]
 by_cases c:i2>j2
 ·rw [iP (show decide ((j2:Int)<(i2:Int))=true from dT (by omega)),iP c,iP (by omega),iP (by omega),iP (by rw [List.length_set]; omega)]
  rw [Int.toNat_natCast,Int.toNat_natCast]
  simp only [swp_toArray]
 ·rw [iN (show ¬ decide ((j2:Int)<(i2:Int))=true by simp; omega),iN c,iP (by omega),iP (by omega),iP (by rw [List.length_set]; omega)]
  have f1:wr .i64 ((j2:Int) - 1)=((j2 - 1:Nat):Int):=wrn _ (by omega) (by omega)
  have f2:wr .i64 ((i2:Int)+1)=((i2+1:Nat):Int):=wrn _ (by omega) (by omega)
  have hw2:((xs.set (Int.toNat (i2:Int)) (gt xs (j2:Int))).set (Int.toNat (j2:Int)) (gt xs (i2:Int)))=(Sort.swp xs.toArray i2 j2).toList:=by rw [swp_toArray,Int.toNat_natCast,Int.toNat_natCast]
  have hl3:=swp_len xs i2 j2
  rw [f1,f2,hw2,part_loop hC a (b+1) (i2+1) (j2 - 1) K _ (by omega) (by omega) (by omega) (by omega) (by omega) (by omega) (by omega) (by omega),Array.toArray_toList]
end
section
variable {α:Type} [Inhabited α]
end
theorem shl_u64 (u v:UInt64)(n:Nat)(h:v.toNat=n)(hn:n<64):shl .u64 (u.toNat:Int) n=((u <<< v).toNat:Int):=by
 have h1:shl .u64 (u.toNat:Int) n=((u.toNat:Int)*2 ^ n) % 18446744073709551616:=by
  have:=wr_u64 ((u.toNat:Int)*2 ^ n)
  exact this
 rw [h1,UInt64.toNat_shiftLeft,h,Nat.mod_eq_of_lt hn,Nat.shiftLeft_eq]
 simp
theorem shr_u64 (u v:UInt64)(n:Nat)(h:v.toNat=n)(hn:n<64):shr (u.toNat:Int) n=((u >>> v).toNat:Int):=by
 unfold shr
 rw [Int.fdiv_eq_ediv_of_nonneg _ (Int.le_of_lt (Int.pow_pos (by omega))),UInt64.toNat_shiftRight,h,Nat.mod_eq_of_lt hn,Nat.shiftRight_eq_div_pow]
 simp
theorem xor_u64 (u v:UInt64):bits .xor .u64 (u.toNat:Int) (v.toNat:Int)=((u ^^^ v).toNat:Int):=by
 rw [bits_xor_u64_nat u.toNat v.toNat u.toNat_lt v.toNat_lt,UInt64.toNat_xor]
theorem xor_next (u:UInt64):fd7_.f (u.toNat:Int)=some (((Sort.xorNext u).toNat:Int),((Sort.xorNext u).toNat:Int)):=by
 unfold fd7_.f Sort.xorNext
 simp only [shl_u64 _ 13 13 rfl (by omega),shr_u64 _ 7 7 rfl (by omega),shl_u64 _ 17 17 rfl (by omega),xor_u64]
theorem bl_shift (s n:Nat)(h:2 ^ s≤n):Sort.bitsLen n=Sort.bitsLen (n / 2 ^ s)+s:=by
 have hp:0<2 ^ s:=Nat.pow_pos (by omega)
 have h1:n / 2 ^ s≠0:=by
  have:=Nat.div_le_div_right (c:=2 ^ s) h
  rw [Nat.div_self hp] at this
  omega
 have h0:n≠0:=by omega
 unfold Sort.bitsLen
 rw [iN h0,iN h1]
 obtain ⟨a1,a2⟩:=(Nat.log2_eq_iff (k:=(n / 2 ^ s).log2) h1).1 rfl
 have:n.log2=(n / 2 ^ s).log2+s:=by
  refine (Nat.log2_eq_iff h0).2 ⟨?_,?_⟩
  ·rw [Nat.pow_add]
   exact (Nat.le_div_iff_mul_le hp).1 a1
  ·rw [show (n / 2 ^ s).log2+s+1=(n / 2 ^ s).log2+1+s by omega,Nat.pow_add]
   exact (Nat.div_lt_iff_lt_mul hp).1 a2
 omega
theorem len8:∀ i:Fin 256,fi6_.j3 0 (i.val:Int)=some ((Sort.bitsLen i.val:Nat):Int):=by decide +kernel
theorem shr_nat (n s:Nat):shr (n:Int) s=((n / 2 ^ s:Nat):Int):=by
 unfold shr
 rw [Int.fdiv_eq_ediv_of_nonneg _ (Int.le_of_lt (Int.pow_pos (by omega)))]
 simp
theorem bl_le8 (m:Nat)(hm:m<256):Sort.bitsLen m≤8:=by
 have:∀ i:Fin 256,Sort.bitsLen i.val≤8:=by decide +kernel
 exact this ⟨m,hm⟩
theorem len_j3 (y:Nat)(hy:y≤64)(m:Nat)(hm:m<256):fi6_.j3 (y:Int) (m:Int)=some ((y+Sort.bitsLen m:Nat):Int):=by
 have h8:=len8 ⟨m,hm⟩
 have h9:=bl_le8 m hm
 unfold fi6_.j3 at h8 ⊢
 simp only at h8
 split at h8
 ·rename_i c
  rw [iP c]
  have h10:=sI h8
  have hb:wr .i64 (bt txt0 (wr .u8 (m:Int)))=((Sort.bitsLen m:Nat):Int):=by
   have e:wr .i64 (0+wr .i64 (bt txt0 (wr .u8 (m:Int))))=wr .i64 (bt txt0 (wr .u8 (m:Int))):=by
    rw [Int.zero_add,wr_i64,wr_i64]; omega
   rw [← e]; exact h10
  rw [hb,wrn (y+Sort.bitsLen m) (by omega) (by omega)]
 ·cases h8
theorem len_j2 (y:Nat)(hy:y≤48)(m:Nat)(hm:m<65536):fi6_.j2 (y:Int) (m:Int)=some ((y+Sort.bitsLen m:Nat):Int):=by
 unfold fi6_.j2
 by_cases c:256≤m
 ·rw [iP (show decide ((256:Int)≤(m:Int))=true from dT (by omega)),wrn (y+8) (by omega) (by omega),shr_nat,len_j3 (y+8) (by omega) _ (by omega),bl_shift 8 m c]
  congr 2; omega
 ·rw [iN (show ¬ decide ((256:Int)≤(m:Int))=true by simp; omega),len_j3 y (by omega) m (by omega)]
theorem len_j1 (y:Nat)(hy:y≤32)(m:Nat)(hm:m<4294967296):fi6_.j1 (y:Int) (m:Int)=some ((y+Sort.bitsLen m:Nat):Int):=by
 unfold fi6_.j1
 by_cases c:65536≤m
 ·rw [iP (show decide ((65536:Int)≤(m:Int))=true from dT (by omega)),wrn (y+16) (by omega) (by omega),shr_nat,len_j2 (y+16) (by omega) _ (by omega),bl_shift 16 m c]
  congr 2; omega
 ·rw [iN (show ¬ decide ((65536:Int)≤(m:Int))=true by simp; omega),len_j2 y (by omega) m (by omega)]
theorem len_eq (n:Nat)(hn:n<18446744073709551616):fj0_.f (n:Int)=some ((Sort.bitsLen n:Nat):Int):=by
 have h:fi6_.f (n:Int)=some ((Sort.bitsLen n:Nat):Int):=by
  unfold fi6_.f
  by_cases c:4294967296≤n
  ·rw [iP (show decide ((4294967296:Int)≤(n:Int))=true from dT (by omega)),shr_nat,show (32:Int)=((32:Nat):Int) from rfl,len_j1 32 (by omega) _ (by omega),bl_shift 32 n c]
   congr 2; omega
  ·rw [iN (show ¬ decide ((4294967296:Int)≤(n:Int))=true by simp; omega),show (0:Int)=((0:Nat):Int) from rfl,len_j1 0 (by omega) n (by omega)]
   congr 2; omega
 unfold fj0_.f
 rw [h]; rfl
theorem pow_bl (l:Nat)(h:l≠0):l<2 ^ Sort.bitsLen l∧2 ^ Sort.bitsLen l≤2*l:=by
 unfold Sort.bitsLen
 rw [iN h]
 obtain ⟨a1,a2⟩:=(Nat.log2_eq_iff (k:=l.log2) h).1 rfl
 refine ⟨a2,?_⟩
 rw [Nat.pow_succ]; omega
variable {g:SortG}
theorem brk_step (a b M idx q:Nat)(r:UInt64)(xs:List g.α)(hab:a+8≤b)(hb:b≤xs.length)(hl:xs.length<2305843009213693952)(hM1:1≤M)(hM2:M≤2*(b - a))(hi:idx≤a+(b - a) / 4*2+1) :
  fa9_.l1 g (a:Int) (b:Int) (M:Int) (q+1) xs (idx:Int) (r.toNat:Int)=fa9_.l1 g (a:Int) (b:Int) (M:Int) q (Sort.breakStep a (b - a) M (r,xs.toArray) idx).2.toList ((idx+1:Nat):Int) (((Sort.breakStep a (b - a) M (r,xs.toArray) idx).1.toNat:Nat):Int):=by
 show fa9_.b1 g _ _ _ _ _ _ _=_
 unfold fa9_.b1 Sort.breakStep
 have e1:wr .i64 ((b:Int) - (a:Int))=((b - a:Nat):Int):=wrn _ (by omega) (by omega)
 have e2:wr .i64 (Int.tdiv ((b - a:Nat):Int) 4)=(((b - a) / 4:Nat):Int):=by rw [Int.tdiv_eq_ediv_of_nonneg (by omega)]; exact wrn _ (by omega) (by omega)
 have e3:wr .i64 ((((b - a) / 4:Nat):Int)*2)=(((b - a) / 4*2:Nat):Int):=wrn _ (by omega) (by omega)
 have e4:wr .i64 ((a:Int)+(((b - a) / 4*2:Nat):Int))=((a+(b - a) / 4*2:Nat):Int):=wrn _ (by omega) (by omega)
 have e5:wr .i64 (((a+(b - a) / 4*2:Nat):Int)+1)=((a+(b - a) / 4*2+1:Nat):Int):=wrn _ (by omega) (by omega)
 have e6:wr .u64 ((M:Int) - 1)=((M - 1:Nat):Int):=by rw [wr_u64_id (by omega) (by omega)]; omega
 simp only [e1,e2,e3,e4,e5,e6,xor_next,oB]
 rw [iP (show decide ((idx:Int)≤((a+(b - a) / 4*2+1:Nat):Int))=true from dT (by omega))]
 rw [bits_and_u64_nat _ (M - 1) (Sort.xorNext r).toNat_lt (by omega)]
 have hle:(Sort.xorNext r).toNat &&& (M - 1)≤M - 1:=Nat.and_le_right
 generalize (Sort.xorNext r).toNat &&& (M - 1)=o at hle ⊢
 rw [wrn o rfl (by omega)]
 have j2:∀ p:Nat,p<b - a→fa9_.j1 g (a:Int) xs (idx:Int) (fa9_.l1 g (a:Int) (b:Int) (M:Int) q) (((Sort.xorNext r).toNat:Int),((Sort.xorNext r).toNat:Int)) (p:Int)=fa9_.l1 g (a:Int) (b:Int) (M:Int) q (Sort.swp xs.toArray idx (a+p)).toList ((idx+1:Nat):Int) ((Sort.xorNext r).toNat:Int):=fun p hp=>by
  unfold fa9_.j1
  have f1:wr .i64 ((a:Int)+(p:Int))=((a+p:Nat):Int):=wrn _ (by omega) (by omega)
  have f2:wr .i64 ((idx:Int)+1)=((idx+1:Nat):Int):=wrn _ (by omega) (by omega)
  simp only [f1,f2]
  rw [iP (by omega),iP (by omega),iP (by rw [List.length_set]; omega),swp_toArray,Int.toNat_natCast,Int.toNat_natCast]
 by_cases c:o≥b - a
 ·rw [iP (show decide (((b - a:Nat):Int)≤(o:Int))=true from dT (by omega)),wrn (o - (b - a)) (by omega) (by omega),j2 _ (by omega)]
  simp only [iP c]
 ·rw [iN (show ¬ decide (((b - a:Nat):Int)≤(o:Int))=true by simp; omega),j2 _ (by omega)]
  simp only [iN c]
theorem brk_end (a b M idx q:Nat)(r:Int)(xs:List g.α)(hab:a+8≤b)(hb:b≤xs.length)(hl:xs.length<2305843009213693952)(hi:a+(b - a) / 4*2+1<idx) :
  fa9_.l1 g (a:Int) (b:Int) (M:Int) (q+1) xs (idx:Int) r=some xs:=by
 show fa9_.b1 g _ _ _ _ _ _ _=_
 unfold fa9_.b1
 have e1:wr .i64 ((b:Int) - (a:Int))=((b - a:Nat):Int):=wrn _ (by omega) (by omega)
 have e2:wr .i64 (Int.tdiv ((b - a:Nat):Int) 4)=(((b - a) / 4:Nat):Int):=by rw [Int.tdiv_eq_ediv_of_nonneg (by omega)]; exact wrn _ (by omega) (by omega)
 have e3:wr .i64 ((((b - a) / 4:Nat):Int)*2)=(((b - a) / 4*2:Nat):Int):=wrn _ (by omega) (by omega)
 have e4:wr .i64 ((a:Int)+(((b - a) / 4*2:Nat):Int))=((a+(b - a) / 4*2:Nat):Int):=wrn _ (by omega) (by omega)
 have e5:wr .i64 (((a+(b - a) / 4*2:Nat):Int)+1)=((a+(b - a) / 4*2+1:Nat):Int):=wrn _ (by omega) (by omega)
 simp only [e1,e2,e3,e4,e5]
 rw [iN (by simp; omega)]
theorem breakStep_size {α:Type} [Inhabited α] (a l M:Nat)(st:UInt64×Array α)(idx:Nat):(Sort.breakStep a l M st idx).2.size=st.2.size:=by
 unfold Sort.breakStep; simp [Sort.swp]
theorem next_pow (l:Nat)(h0:l≠0)(hl:l<2305843009213693952):fd_.f (l:Int)=some ((1 <<< Sort.bitsLen l:Nat):Int):=by
 have hp:=pow_bl l h0
 have ht:Sort.bitsLen l<64:=by
  refine Decidable.byContradiction fun c=>?_
  have:=Nat.pow_le_pow_right (n:=2) (by omega) (show 64≤Sort.bitsLen l by omega)
  omega
 unfold fd_.f
 rw [wr_u64_id (by omega) (by omega),len_eq l (by omega),oB,iP (by omega),Int.toNat_natCast,Nat.min_eq_left (by omega),Nat.shiftLeft_eq,Nat.one_mul]
 have h1:shl .u64 1 (Sort.bitsLen l)=((1:Int)*2 ^ Sort.bitsLen l) % 18446744073709551616:=wr_u64 _
 rw [h1]
 have h2:((2 ^ Sort.bitsLen l:Nat):Int)=(2:Int) ^ Sort.bitsLen l:=by simp
 rw [Int.one_mul, ← h2,Int.emod_eq_of_lt (by omega) (by omega)]
theorem brk_eq (a b K:Nat)(xs:List g.α)(hab:a≤b)(hb:b≤xs.length)(hl:xs.length<2305843009213693952)(hk:10<K) :
  fa9_.f g K xs (a:Int) (b:Int)=some (Sort.breakPatterns xs.toArray a b).toList:=by
 unfold fa9_.f Sort.breakPatterns
 have e1:wr .i64 ((b:Int) - (a:Int))=((b - a:Nat):Int):=wrn _ (by omega) (by omega)
 have e2:wr .i64 (Int.tdiv ((b - a:Nat):Int) 4)=(((b - a) / 4:Nat):Int):=by rw [Int.tdiv_eq_ediv_of_nonneg (by omega)]; exact wrn _ (by omega) (by omega)
 have e3:wr .i64 ((((b - a) / 4:Nat):Int)*2)=(((b - a) / 4*2:Nat):Int):=wrn _ (by omega) (by omega)
 have e4:wr .i64 ((a:Int)+(((b - a) / 4*2:Nat):Int))=((a+(b - a) / 4*2:Nat):Int):=wrn _ (by omega) (by omega)
 simp only [e1,e2,e3,e4]
 by_cases c:b - a≥8
 ·have e5:wr .i64 (((a+(b - a) / 4*2:Nat):Int) - 1)=((a+(b - a) / 4*2 - 1:Nat):Int):=wrn _ (by omega) (by omega)
  have e6:wr .u64 ((b - a:Nat):Int)=(((UInt64.ofNat (b - a)).toNat:Nat):Int):=by
   rw [wr_u64_id (by omega) (by omega),UInt64.toNat_ofNat_of_lt' (by show b - a<18446744073709551616; omega)]
  have hp:=pow_bl (b - a) (by omega)
  rw [iP (show decide ((8:Int)≤((b - a:Nat):Int))=true from dT (by omega)),next_pow (b - a) (by omega) (by omega),oB,e5,e6]
  simp only [iP c]
  have hM:(1 <<< Sort.bitsLen (b - a):Nat)=2 ^ Sort.bitsLen (b - a):=by rw [Nat.shiftLeft_eq,Nat.one_mul]
  have hM1:1≤(1 <<< Sort.bitsLen (b - a):Nat):=by rw [hM]; omega
  have hM2:(1 <<< Sort.bitsLen (b - a):Nat)≤2*(b - a):=by rw [hM]; exact hp.2
  generalize (1 <<< Sort.bitsLen (b - a):Nat)=M at hM1 hM2 ⊢
  obtain ⟨K,rfl⟩:∃ m,K=m+1+1+1+1:=⟨K - 4,by omega⟩
  rw [brk_step a b M _ _ _ xs (by omega) hb hl hM1 hM2 (by omega)]
  have h1:=breakStep_size a (b - a) M (UInt64.ofNat (b - a),xs.toArray) (a+(b - a) / 4*2 - 1)
  generalize Sort.breakStep a (b - a) M (UInt64.ofNat (b - a),xs.toArray) (a+(b - a) / 4*2 - 1)=s1 at h1 ⊢
  have h1':s1.2.toList.length=xs.length:=by simpa using h1
  rw [brk_step a b M _ _ _ _ (by omega) (by omega) (by omega) hM1 hM2 (by omega),Array.toArray_toList]
  have h2:=breakStep_size a (b - a) M s1 (a+(b - a) / 4*2 - 1+1)
  rw [show (s1.1,s1.2)=s1 from rfl]
  generalize Sort.breakStep a (b - a) M s1 (a+(b - a) / 4*2 - 1+1)=s2 at h2 ⊢
  have h2':s2.2.toList.length=xs.length:=by rw [Array.length_toList,h2]; simpa using h1
  rw [brk_step a b M _ _ _ _ (by omega) (by omega) (by omega) hM1 hM2 (by omega),Array.toArray_toList]
  have h3:=breakStep_size a (b - a) M s2 (a+(b - a) / 4*2 - 1+1+1)
  rw [show (s2.1,s2.2)=s2 from rfl]
  rw [show a+(b - a) / 4*2 - 1+2=a+(b - a) / 4*2 - 1+1+1 from rfl]
  generalize Sort.breakStep a (b - a) M s2 (a+(b - a) / 4*2 - 1+1+1)=s3 at h3 ⊢
  have h3':s3.2.toList.length=xs.length:=by rw [Array.length_toList,h3]; simpa using h2'
  rw [brk_end a b M _ _ _ _ (by omega) (by omega) (by omega) (by omega)]
 ·rw [iN (show ¬ decide ((8:Int)≤((b - a:Nat):Int))=true by simp; omega)]
  simp only [iN c]
section
variable {g:SortG} {K:Nat} {cf:g.α→g.α→Int} (hC:∀ x y,g.cmp K x y=some (cf x y))
include hC
theorem ord_eq (xs:List g.α)(a b s:Nat)(ha:a<xs.length)(hb:b<xs.length)(hs:s<1000) :
  ff7_.f g K xs (a:Int) (b:Int) (s:Int)=some (((Sort.order2 (ltC cf) xs.toArray a b s).1:Int),((Sort.order2 (ltC cf) xs.toArray a b s).2.1:Int),((Sort.order2 (ltC cf) xs.toArray a b s).2.2:Int)):=by
 unfold ff7_.f Sort.order2
 rw [iP (by omega),iP (by omega),hC,oB,at_toArray,at_toArray]
 have e1:wr .i64 ((s:Int)+1)=((s+1:Nat):Int):=wrn _ (by omega) (by omega)
 rw [e1]
 by_cases c:cf (gt xs (b:Int)) (gt xs (a:Int))<0
 ·rw [iP (dT c),iP (show ltC cf (gt xs (b:Int)) (gt xs (a:Int))=true from dT c)]
 ·rw [iN (by simpa using c),iN (by rw [show ltC cf (gt xs (b:Int)) (gt xs (a:Int))=false from dF c]; simp)]
omit hC in
theorem order2_lt (lt:g.α→g.α→Bool)(d:Array g.α)(a b s n:Nat)(ha:a<n)(hb:b<n):(Sort.order2 lt d a b s).1<n∧(Sort.order2 lt d a b s).2.1<n∧(Sort.order2 lt d a b s).2.2≤s+1:=by
 unfold Sort.order2
 split
 ·exact ⟨hb,ha,Nat.le_refl _⟩
 ·exact ⟨ha,hb,Nat.le_succ _⟩
theorem med_eq (xs:List g.α)(a b c s:Nat)(ha:a<xs.length)(hb:b<xs.length)(hc:c<xs.length)(hs:s<900) :
  ff2_.f g K xs (a:Int) (b:Int) (c:Int) (s:Int)=some (((Sort.median (ltC cf) xs.toArray a b c s).1:Int),((Sort.median (ltC cf) xs.toArray a b c s).2:Int)):=by
 unfold ff2_.f Sort.median
 have h1:=order2_lt (ltC cf) xs.toArray a b s xs.length ha hb
 have h2:=order2_lt (ltC cf) xs.toArray (Sort.order2 (ltC cf) xs.toArray a b s).2.1 c (Sort.order2 (ltC cf) xs.toArray a b s).2.2 xs.length h1.2.1 hc
 rw [ord_eq hC xs a b s ha hb (by omega),oB]
 simp only []
 rw [ord_eq hC xs _ c _ h1.2.1 hc (by omega),oB]
 simp only []
 rw [ord_eq hC xs _ _ _ h1.1 h2.1 (by omega),oB]
omit hC in
theorem median_lt (lt:g.α→g.α→Bool)(d:Array g.α)(a b c s n:Nat)(ha:a<n)(hb:b<n)(hc:c<n):(Sort.median lt d a b c s).1<n∧(Sort.median lt d a b c s).2≤s+3:=by
 unfold Sort.median
 have h1:=order2_lt lt d a b s n ha hb
 have h2:=order2_lt lt d (Sort.order2 lt d a b s).2.1 c (Sort.order2 lt d a b s).2.2 n h1.2.1 hc
 have h3:=order2_lt lt d (Sort.order2 lt d a b s).1 (Sort.order2 lt d (Sort.order2 lt d a b s).2.1 c (Sort.order2 lt d a b s).2.2).1 (Sort.order2 lt d (Sort.order2 lt d a b s).2.1 c (Sort.order2 lt d a b s).2.2).2.2 n h1.1 h2.1
 exact ⟨h3.2.1,Nat.le_trans h3.2.2 (by omega)⟩
theorem madj_eq (xs:List g.α)(a s:Nat)(h0:1≤a)(ha:a+1<xs.length)(hl:xs.length<2305843009213693952)(hs:s<900) :
  fa8_.f g K xs (a:Int) (s:Int)=some (((Sort.medianAdjacent (ltC cf) xs.toArray a s).1:Int),((Sort.medianAdjacent (ltC cf) xs.toArray a s).2:Int)):=by
 unfold fa8_.f Sort.medianAdjacent
 have e1:wr .i64 ((a:Int) - 1)=((a - 1:Nat):Int):=wrn _ (by omega) (by omega)
 have e2:wr .i64 ((a:Int)+1)=((a+1:Nat):Int):=wrn _ (by omega) (by omega)
 rw [e1,e2,med_eq hC xs (a - 1) a (a+1) s (by omega) (by omega) (by omega) hs,oB]
def hintN:Sort.Hint→Int
 | .unknown=>0
 | .increasing=>1
 | .decreasing=>2
theorem piv_eq (xs:List g.α)(a b:Nat)(hab:a<b)(hb:b≤xs.length)(hl:xs.length<2305843009213693952) :
  fc2_.f g K xs (a:Int) (b:Int)=some (((Sort.choosePivot (ltC cf) xs.toArray a b).1:Int),hintN (Sort.choosePivot (ltC cf) xs.toArray a b).2):=by
 unfold fc2_.f Sort.choosePivot
 have e1:wr .i64 ((b:Int) - (a:Int))=((b - a:Nat):Int):=wrn _ (by omega) (by omega)
 have e2:wr .i64 (Int.tdiv ((b - a:Nat):Int) 4)=(((b - a) / 4:Nat):Int):=by rw [Int.tdiv_eq_ediv_of_nonneg (by omega)]; exact wrn _ (by omega) (by omega)
 have e3:∀ m:Nat,m≤3→wr .i64 ((((b - a) / 4:Nat):Int)*(m:Int))=(((b - a) / 4*m:Nat):Int):=fun m hm=>wrn _ (by simp) (by
  have:(b - a) / 4*m≤(b - a) / 4*3:=Nat.mul_le_mul_left _ hm
  omega)
 have e4:∀ m:Nat,m≤3→wr .i64 ((a:Int)+(((b - a) / 4*m:Nat):Int))=((a+(b - a) / 4*m:Nat):Int):=fun m hm=>wrn _ (by omega) (by
  have:(b - a) / 4*m≤(b - a) / 4*3:=Nat.mul_le_mul_left _ hm
  omega)
 have m1:=e3 1 (by omega); have m2:=e3 2 (by omega); have m3:=e3 3 (by omega)
 have n1:=e4 1 (by omega); have n2:=e4 2 (by omega); have n3:=e4 3 (by omega)
 have fin:∀ (p s:Nat),fc2_.j1 g (p:Int) (s:Int)=some ((p:Int),hintN (if s=0 then .increasing else if s=12 then .decreasing else .unknown)):=fun p s=>by
  unfold fc2_.j1
  by_cases c0:s=0
  ·subst c0; simp [hintN]
  ·by_cases c1:s=12
   ·subst c1; simp [hintN]
   ·rw [iN (by simp; omega),iN (by simp; omega),iN c0,iN c1]; rfl
 simp only [e1,e2]
 rw [show (1:Int)=((1:Nat):Int) from rfl,show (2:Int)=((2:Nat):Int) from rfl,show (3:Int)=((3:Nat):Int) from rfl,m1,m2,m3,n1,n2,n3]
 have j2:∀ (p q r t:Nat),p<xs.length→q<xs.length→r<xs.length→t<900→fc2_.j2 g K xs (r:Int) (q:Int) (p:Int) (t:Int)=some (((Sort.median (ltC cf) xs.toArray p q r t).1:Int),hintN (if (Sort.median (ltC cf) xs.toArray p q r t).2=0 then .increasing else if (Sort.median (ltC cf) xs.toArray p q r t).2=12 then .decreasing else .unknown)):=fun p q r t hp hq hr ht=>by
  unfold fc2_.j2
  rw [med_eq hC xs p q r t hp hq hr ht,oB]
  exact fin _ _
 by_cases c8:b - a≥8
 ·rw [iP (show decide ((8:Int)≤((b - a:Nat):Int))=true from dT (by omega))]
  simp only [iP c8]
  by_cases c50:b - a≥50
  ·rw [iP (show decide ((50:Int)≤((b - a:Nat):Int))=true from dT (by omega))]
   simp only [iP c50]
   have b1:1≤a+(b - a) / 4*1∧a+(b - a) / 4*1+1<xs.length:=by omega
   have b2:1≤a+(b - a) / 4*2∧a+(b - a) / 4*2+1<xs.length:=by omega
   have b3:1≤a+(b - a) / 4*3∧a+(b - a) / 4*3+1<xs.length:=by omega
   have q1:(Sort.medianAdjacent (ltC cf) xs.toArray (a+(b - a) / 4*1) 0).1<xs.length∧(Sort.medianAdjacent (ltC cf) xs.toArray (a+(b - a) / 4*1) 0).2≤0+3:=median_lt (ltC cf) xs.toArray _ _ _ 0 xs.length (by omega) (by omega) (by omega)
   have g1:=madj_eq hC xs (a+(b - a) / 4*1) 0 b1.1 b1.2 hl (by omega)
   rw [show (((0:Nat):Int))=(0:Int) from rfl] at g1
   rw [g1,oB]
   generalize Sort.medianAdjacent (ltC cf) xs.toArray (a+(b - a) / 4*1) 0=r1 at q1 ⊢
   simp only []
   have q2:(Sort.medianAdjacent (ltC cf) xs.toArray (a+(b - a) / 4*2) r1.2).1<xs.length∧(Sort.medianAdjacent (ltC cf) xs.toArray (a+(b - a) / 4*2) r1.2).2≤r1.2+3:=median_lt (ltC cf) xs.toArray _ _ _ _ xs.length (by omega) (by omega) (by omega)
   rw [madj_eq hC xs (a+(b - a) / 4*2) r1.2 b2.1 b2.2 hl (by omega),oB]
   generalize Sort.medianAdjacent (ltC cf) xs.toArray (a+(b - a) / 4*2) r1.2=r2 at q2 ⊢
   simp only []
   have q3:(Sort.medianAdjacent (ltC cf) xs.toArray (a+(b - a) / 4*3) r2.2).1<xs.length∧(Sort.medianAdjacent (ltC cf) xs.toArray (a+(b - a) / 4*3) r2.2).2≤r2.2+3:=median_lt (ltC cf) xs.toArray _ _ _ _ xs.length (by omega) (by omega) (by omega)
   rw [madj_eq hC xs (a+(b - a) / 4*3) r2.2 b3.1 b3.2 hl (by omega),oB]
   generalize Sort.medianAdjacent (ltC cf) xs.toArray (a+(b - a) / 4*3) r2.2=r3 at q3 ⊢
   simp only []
   exact j2 r1.1 r2.1 r3.1 r3.2 q1.1 q2.1 q3.1 (by omega)
  ·rw [iN (show ¬ decide ((50:Int)≤((b - a:Nat):Int))=true by simp; omega)]
   simp only [iN c50]
   exact j2 _ _ _ 0 (by omega) (by omega) (by omega) (by omega)
 ·rw [iN (show ¬ decide ((8:Int)≤((b - a:Nat):Int))=true by simp; omega)]
  simp only [iN c8]
  exact fin _ 0
end
variable {g:SortG} {K:Nat}
theorem rev_loop:∀ (r i j q:Nat) (xs:List g.α),j≤i+r→r<q→j<xs.length→xs.length<2305843009213693952 →
  fb2_.l1 g q xs (j:Int) (i:Int)=some (Sort.reverseLoop i j xs.toArray).toList
 | r,i,j,q,xs,h,hq,hj,hl=>by
  obtain ⟨q,rfl⟩:∃ m,q=m+1:=⟨q - 1,by omega⟩
  show fb2_.b1 g _ _ _ _=_
  unfold fb2_.b1
  rw [Sort.reverseLoop]
  by_cases c:i<j
  ·obtain ⟨r,rfl⟩:∃ m,r=m+1:=⟨r - 1,by omega⟩
   rw [iP (dT (by omega)),iP c,iP (by omega),iP (by omega),iP (by rw [List.length_set]; omega)]
   have e1:wr .i64 ((j:Int) - 1)=((j - 1:Nat):Int):=wrn _ (by omega) (by omega)
   have e2:wr .i64 ((i:Int)+1)=((i+1:Nat):Int):=wrn _ (by omega) (by omega)
   have hw:((xs.set (Int.toNat (i:Int)) (gt xs (j:Int))).set (Int.toNat (j:Int)) (gt xs (i:Int)))=(Sort.swp xs.toArray i j).toList:=by rw [swp_toArray,Int.toNat_natCast,Int.toNat_natCast]
   have hl2:=swp_len xs i j
   rw [e1,e2,hw,rev_loop r (i+1) (j - 1) q _ (by omega) (by omega) (by omega) (by omega),Array.toArray_toList]
  ·rw [iN (by simp; omega),iN c]
theorem rev_eq (a b:Nat)(xs:List g.α)(hab:a<b)(hb:b≤xs.length)(hl:xs.length<2305843009213693952)(hk:xs.length+1<K) :
  fb2_.f g K xs (a:Int) (b:Int)=some (Sort.reverseRange xs.toArray a b).toList:=by
 unfold fb2_.f Sort.reverseRange
 rw [show wr .i64 ((b:Int) - 1)=((b - 1:Nat):Int) from wrn _ (by omega) (by omega)]
 exact rev_loop b a (b - 1) K xs (by omega) (by omega) (by omega) hl
section
variable {g:SortG} {K:Nat} {cf:g.α→g.α→Int} (hC:∀ x y,g.cmp K x y=some (cf x y))
include hC
theorem pdq_front (a b lim:Nat)(self0:fe8_.Ty g)(rec1:List g.α→Bool→Bool→Int→Int→Int→Option (List g.α))(d:Array g.α)(wb wp:Bool)(hab:¬ b - a≤12)(h0:¬ lim=0)(hlim:lim<1000000)(hb:b≤d.size)(hl:d.size<2305843009213693952)(hK:d.size+20≤K) :
    fe8_.b1 g K self0 rec1 d.toList wp wb (a:Int) (b:Int) (lim:Int) =
      (let d1:=if (!wb)=true then Sort.breakPatterns d a b else d
       let limit:=if (!wb)=true then lim - 1 else lim
       let c:=Sort.choosePivot (ltC cf) d1 a b
       let d2:=if c.2 = .decreasing then Sort.reverseRange d1 a b else d1
       let pivot:=if c.2 = .decreasing then (b - 1) - (c.1 - a) else c.1
       let hint:=if c.2 = .decreasing then Sort.Hint.increasing else c.2
       let pi:=if (wb&&wp&&decide (hint = .increasing))=true then Sort.partialInsertionSort (ltC cf) d2 a b else (d2,false)
       if pi.2=true then some pi.1.toList else fe8_.j3 g K self0 wp wb (a:Int) (b:Int) rec1 (limit:Int) (pivot:Int) pi.1.toList):=by
  have hdl:d.toList.length=d.size:=Array.length_toList
  have e1:wr .i64 ((b:Int) - (a:Int))=((b - a:Nat):Int):=wrn _ (by omega) (by omega)
  have e2:wr .i64 ((b:Int) - 1)=((b - 1:Nat):Int):=wrn _ (by omega) (by omega)
  have hj5:∀ (limit pivot:Nat) (d2:Array g.α),d2.size=d.size→∀ (hint:Sort.Hint),fe8_.j2 g K self0 wp wb (a:Int) (b:Int) rec1 (limit:Int) d2.toList (hintN hint) (pivot:Int) =
      (let pi:=if (wb&&wp&&decide (hint = .increasing))=true then Sort.partialInsertionSort (ltC cf) d2 a b else (d2,false)
       if pi.2=true then some pi.1.toList else fe8_.j3 g K self0 wp wb (a:Int) (b:Int) rec1 (limit:Int) (pivot:Int) pi.1.toList):=fun limit pivot d2 h2 hint=>by
    have h2l:d2.toList.length=d.size:=by rw [Array.length_toList,h2]
    have hp:=pins_eq hC a b d2.toList (by omega) (by omega) (by omega) (by omega)
    rw [Array.toArray_toList] at hp
    unfold fe8_.j2 fe8_.j5
    cases wb <;> cases wp <;> cases hint <;> simp [hintN,hp]
  have hj1:∀ (limit:Nat) (d1:Array g.α),d1.size=d.size→fe8_.j1 g K self0 wp wb (a:Int) (b:Int) rec1 d1.toList (limit:Int) =
      (let c:=Sort.choosePivot (ltC cf) d1 a b
       let d2:=if c.2 = .decreasing then Sort.reverseRange d1 a b else d1
       let pivot:=if c.2 = .decreasing then (b - 1) - (c.1 - a) else c.1
       let hint:=if c.2 = .decreasing then Sort.Hint.increasing else c.2
       let pi:=if (wb&&wp&&decide (hint = .increasing))=true then Sort.partialInsertionSort (ltC cf) d2 a b else (d2,false)
       if pi.2=true then some pi.1.toList else fe8_.j3 g K self0 wp wb (a:Int) (b:Int) rec1 (limit:Int) (pivot:Int) pi.1.toList):=fun limit d1 h1=>by
    have h1l:d1.toList.length=d.size:=by rw [Array.length_toList,h1]
    have hp:=piv_eq hC d1.toList a b (by omega) (by omega) (by omega)
    have hr:=rev_eq (g:=g) (K:=K) a b d1.toList (by omega) (by omega) (by omega) (by omega)
    rw [Array.toArray_toList] at hp hr
    have hc:=Sort.choosePivot_holds (ltC cf) d1 a b (by omega)
    unfold fe8_.j1
    rw [hp,oB]
    generalize Sort.choosePivot (ltC cf) d1 a b=c at hc ⊢
    obtain ⟨c1,c2⟩:=c
    simp only at hc ⊢
    have e3:wr .i64 ((c1:Int) - (a:Int))=((c1 - a:Nat):Int):=wrn _ (by omega) (by omega)
    have e4:wr .i64 (((b - 1:Nat):Int) - ((c1 - a:Nat):Int))=((b - 1 - (c1 - a):Nat):Int):=wrn _ (by omega) (by omega)
    have hsz:=(Sort.reverseRange_holds d1 a b (by omega) (by omega)).1
    cases c2 with
    | decreasing =>
      rw [iP (show (hintN Sort.Hint.decreasing==2)=true from rfl),hr,oB,e2,e3,e4]
      simp only [if_true]
      exact hj5 limit (b - 1 - (c1 - a)) (Sort.reverseRange d1 a b) (by omega) .increasing
    | unknown =>
      rw [iN (show ¬ (hintN Sort.Hint.unknown==2)=true from by decide)]
      have:=hj5 limit c1 d1 h1 .unknown
      simpa using this
    | increasing =>
      rw [iN (show ¬ (hintN Sort.Hint.increasing==2)=true from by decide)]
      have:=hj5 limit c1 d1 h1 .increasing
      simpa using this
  unfold fe8_.b1
  rw [e1,iN (show ¬ decide (((b - a:Nat):Int)≤12)=true by simp; omega),iN (show ¬ ((lim:Int)==0)=true by simp; omega)]
  cases wb with
  | true=>simpa using hj1 lim d rfl
  | false =>
    have hbk:=brk_eq a b K d.toList (by omega) (by omega) (by omega) (by omega)
    rw [Array.toArray_toList] at hbk
    have e5:wr .i64 ((lim:Int) - 1)=((lim - 1:Nat):Int):=wrn _ (by omega) (by omega)
    have hsz:=(Sort.breakPatterns_holds d a b (by omega) (by omega)).1
    rw [iP (show (!false)=true from rfl),hbk,oB,e5]
    have:=hj1 (lim - 1) (Sort.breakPatterns d a b) hsz
    simpa using this
theorem pdq_j3 (a b lim pivot:Nat)(self0:fe8_.Ty g)(rec1:List g.α→Bool→Bool→Int→Int→Int→Option (List g.α))(d:Array g.α)(wb wp:Bool)(hp:pivot<b)(ha:a≤b)(hb:b≤d.size)(hl:d.size<2305843009213693952) :
  fe8_.j3 g K self0 wp wb (a:Int) (b:Int) rec1 (lim:Int) (pivot:Int) d.toList=fe8_.j4 g K self0 wp wb (a:Int) (b:Int) rec1 (lim:Int) (pivot:Int) d.toList (decide (a>0) && !ltC cf d[a - 1]! d[pivot]!):=by
 have hdl:d.toList.length=d.size:=Array.length_toList
 unfold fe8_.j3
 by_cases c:0<a
 ·have e1:wr .i64 ((a:Int) - 1)=((a - 1:Nat):Int):=wrn _ (by omega) (by omega)
  rw [iP (show decide ((0:Int)<(a:Int))=true from dT (by omega)),e1,iP (by omega),iP (by omega),hC,oB]
  have h1:=at_toArray d.toList (a - 1)
  have h2:=at_toArray d.toList pivot
  rw [Array.toArray_toList] at h1 h2
  rw [h1,h2,dT c,Bool.true_and]; rfl
 ·rw [iN (show ¬ decide ((0:Int)<(a:Int))=true by simp; omega),dF c,Bool.false_and]
end
section
variable {g:SortG} {cf:g.α→g.α→Int} {kc:Nat} (hA:∀ K,kc≤K→∀ x y,g.cmp K x y=some (cf x y))
include hA
omit hA in
theorem pdq_fin (F N:Nat)(e:Array g.α)(a b lim:Nat)(X:Option (List g.α))(hF:N+20+(b - a)<F)(hh:∀ K F q,N+20+(b - a)≤K→N+20+(b - a)≤F→b - a<q→fe8_.l1 g K (fe8_.f g F) q e.toList true true (a:Int) (b:Int) (lim:Int)=X):fe8_.f g F e.toList (a:Int) (b:Int) (lim:Int)=X:=by
 obtain ⟨F,rfl⟩:∃ m,F=m+1:=⟨F - 1,by omega⟩
 exact hh F F F (by omega) (by omega) (by omega)
theorem pdq_loop (h:Sort.SWO (ltC cf))(d:Array g.α)(a b limit:Nat)(wb wp:Bool):a≤b→b≤d.size→Sort.Below (ltC cf) a b d→d.size<2305843009213693952→limit<1000000→∀ K F q,kc+d.size+20+(b - a)≤K→kc+d.size+20+(b - a)≤F→b - a<q →
  fe8_.l1 g K (fe8_.f g F) q d.toList wp wb (a:Int) (b:Int) (limit:Int)=some (Sort.pdq (ltC cf) d a b limit wb wp).toList:=by
 fun_induction Sort.pdq (ltC cf) d a b limit wb wp
 case case1 d a b limit wb wp h12 =>
  intro hab hb _ hl hlim K F q hK hF hq
  have hC:=hA K (by omega)
  obtain ⟨q,rfl⟩:∃ m,q=m+1:=⟨q - 1,by omega⟩
  have hdl:d.toList.length=d.size:=Array.length_toList
  show fe8_.b1 g _ _ _ _ _ _ _ _ _=_
  unfold fe8_.b1
  have:=ins_eq hC a b d.toList hab (by omega) (by omega) (by omega)
  rw [Array.toArray_toList] at this
  rw [show wr .i64 ((b:Int) - (a:Int))=((b - a:Nat):Int) from wrn _ (by omega) (by omega),iP (show decide (((b - a:Nat):Int)≤12)=true from dT (by omega)),this]; rfl
 case case2 d a b wb wp h12 =>
  intro hab hb _ hl hlim K F q hK hF hq
  have hC:=hA K (by omega)
  obtain ⟨q,rfl⟩:∃ m,q=m+1:=⟨q - 1,by omega⟩
  have hdl:d.toList.length=d.size:=Array.length_toList
  show fe8_.b1 g _ _ _ _ _ _ _ _ _=_
  unfold fe8_.b1
  have:=heap_eq hC a b d.toList hab (by omega) (by omega) (by omega)
  rw [Array.toArray_toList] at this
  rw [show wr .i64 ((b:Int) - (a:Int))=((b - a:Nat):Int) from wrn _ (by omega) (by omega),iN (show ¬ decide (((b - a:Nat):Int)≤12)=true by simp; omega),iP (show (((0:Nat):Int)==0)=true from rfl),this]; rfl
 case case3 d a b limit wb wp h12 hl0 d1 c d2 hint pi hpi2 =>
  intro hab hb hB hl hlim K F q hK hF hq
  have hC:=hA K (by omega)
  obtain ⟨q,rfl⟩:∃ m,q=m+1:=⟨q - 1,by omega⟩
  refine (pdq_front hC a b limit (fe8_.f g F) _ d wb wp h12 hl0 hlim hb hl (by omega)).trans ?_
  exact iP hpi2
 case case4 d a b limit0 wb wp h12 hl0 d1 limit c d2 pivot hint pi hpi2 d3 hc mid d4 hx hg ih1 =>
  intro hab hb hB hl hlim K F q hK hF hq
  have hC:=hA K (by omega)
  obtain ⟨q,rfl⟩:∃ m,q=m+1:=⟨q - 1,by omega⟩
  refine (pdq_front hC a b limit0 (fe8_.f g F) _ d wb wp h12 hl0 hlim hb hl (by omega)).trans ?_
  refine (iN hpi2).trans ?_
  have s1:Sort.PermIn a b d d1:=Sort.step_break d hab hb _
  have b1:b≤d1.size:=by rw [s1.1]; exact hb
  have s2:Sort.PermIn a b d1 d2:=Sort.step_reverse Sort.reverseRange_holds d1 hab b1 _
  have b2:b≤d2.size:=by rw [s2.1]; exact b1
  have B2:Sort.Below (ltC cf) a b d2:=(hB.perm hb s1).perm b1 s2
  have s3:=Sort.step_partial (Sort.partialInsertionSort_holds (lt:=ltC cf)) h d2 (a:=a) (b:=b) (by omega) b2 B2 ((wb&&wp&&decide (hint=Sort.Hint.increasing))=true)
  have s3':Sort.PermIn a b d2 d3:=s3.1
  have b3:b≤d3.size:=by rw [s3'.1]; exact b2
  have e3:d3.size=d.size:=by rw [s3'.1,s2.1,s1.1]
  have B3:Sort.Below (ltC cf) a b d3:=B2.perm b2 s3'
  have hc0:=Sort.choosePivot_holds (ltC cf) d1 a b (by omega)
  have hpv:a≤pivot∧pivot<b:=Sort.pivot_range hc0.1 hc0.2 _
  refine (pdq_j3 hC a b limit pivot (fe8_.f g F) _ d3 wb wp hpv.2 hab b3 (by omega)).trans ?_
  have hpe:=peq_eq hC a b pivot d3.toList hpv.1 hpv.2 (by rw [Array.length_toList]; exact b3) (by rw [Array.length_toList]; omega) (by rw [Array.length_toList]; omega)
  rw [Array.toArray_toList,hx] at hpe
  unfold fe8_.j4
  rw [iP hc,hpe,oB]
  simp only [Bool.and_eq_true,decide_eq_true_eq,Bool.not_eq_true'] at hc
  obtain ⟨_,hm2,hs4,hB4,hfin⟩:=Sort.round_eq h (Sort.partitionEqual_holds (lt:=ltC cf)) hc.1 hpv.1 hpv.2 b3 B3 hc.2 hx
  have hlim2:limit≤limit0:=by show (if _ then _ else _)≤_; (split; exact Nat.sub_le _ _; exact Nat.le_refl _)
  exact ih1 hm2 (by rw [hs4]; exact b3) hB4 (by omega) (by omega) K F q (by omega) (by omega) (by omega)
 case case5 d a b limit wb wp h12 hl0 d1 c d2 pivot hint pi hpi2 d3 hc mid d4 hx hg =>
  intro hab hb hB
  have s1:Sort.PermIn a b d d1:=Sort.step_break d hab hb _
  have b1:b≤d1.size:=by rw [s1.1]; exact hb
  have s2:Sort.PermIn a b d1 d2:=Sort.step_reverse Sort.reverseRange_holds d1 hab b1 _
  have b2:b≤d2.size:=by rw [s2.1]; exact b1
  have B2:Sort.Below (ltC cf) a b d2:=(hB.perm hb s1).perm b1 s2
  have s3:=Sort.step_partial (Sort.partialInsertionSort_holds (lt:=ltC cf)) h d2 (a:=a) (b:=b) (by omega) b2 B2 ((wb&&wp&&decide (hint=Sort.Hint.increasing))=true)
  have s3':Sort.PermIn a b d2 d3:=s3.1
  have b3:b≤d3.size:=by rw [s3'.1]; exact b2
  have B3:Sort.Below (ltC cf) a b d3:=B2.perm b2 s3'
  have hc0:=Sort.choosePivot_holds (ltC cf) d1 a b (by omega)
  have hpv:a≤pivot∧pivot<b:=Sort.pivot_range hc0.1 hc0.2 _
  simp only [Bool.and_eq_true,decide_eq_true_eq,Bool.not_eq_true'] at hc
  obtain ⟨g1,g2,_⟩:=Sort.round_eq h (Sort.partitionEqual_holds (lt:=ltC cf)) hc.1 hpv.1 hpv.2 b3 B3 hc.2 hx
  exact absurd ⟨g1,g2⟩ hg
 case case6 d a b limit0 wb wp h12 hl0 d1 limit c d2 pivot hint pi hpi2 d3 hc mid ap d4 hx hg hlt ih3 ih2 ih1 =>
  intro hab hb hB hl hlim K F q hK hF hq
  have hC:=hA K (by omega)
  obtain ⟨q,rfl⟩:∃ m,q=m+1:=⟨q - 1,by omega⟩
  refine (pdq_front hC a b limit0 (fe8_.f g F) _ d wb wp h12 hl0 hlim hb hl (by omega)).trans ?_
  refine (iN hpi2).trans ?_
  have s1:Sort.PermIn a b d d1:=Sort.step_break d hab hb _
  have b1:b≤d1.size:=by rw [s1.1]; exact hb
  have s2:Sort.PermIn a b d1 d2:=Sort.step_reverse Sort.reverseRange_holds d1 hab b1 _
  have b2:b≤d2.size:=by rw [s2.1]; exact b1
  have B2:Sort.Below (ltC cf) a b d2:=(hB.perm hb s1).perm b1 s2
  have s3:=Sort.step_partial (Sort.partialInsertionSort_holds (lt:=ltC cf)) h d2 (a:=a) (b:=b) (by omega) b2 B2 ((wb&&wp&&decide (hint=Sort.Hint.increasing))=true)
  have s3':Sort.PermIn a b d2 d3:=s3.1
  have b3:b≤d3.size:=by rw [s3'.1]; exact b2
  have e3:d3.size=d.size:=by rw [s3'.1,s2.1,s1.1]
  have B3:Sort.Below (ltC cf) a b d3:=B2.perm b2 s3'
  have hc0:=Sort.choosePivot_holds (ltC cf) d1 a b (by omega)
  have hpv:a≤pivot∧pivot<b:=Sort.pivot_range hc0.1 hc0.2 _
  refine (pdq_j3 hC a b limit pivot (fe8_.f g F) _ d3 wb wp hpv.2 hab b3 (by omega)).trans ?_
  have hpe:=part_eq hC a b pivot d3.toList hpv.1 hpv.2 (by rw [Array.length_toList]; exact b3) (by rw [Array.length_toList]; omega) (by rw [Array.length_toList]; omega)
  rw [Array.toArray_toList,hx] at hpe
  unfold fe8_.j4
  rw [iN hc,hpe,oB]
  obtain ⟨g1,g2,hs4,hBa,hBr,hleft,_⟩:=Sort.round_part h (Sort.partition_holds (lt:=ltC cf)) hpv.1 hpv.2 b3 B3 hx
  have hlim2:limit≤limit0:=by show (if _ then _ else _)≤_; (split; exact Nat.sub_le _ _; exact Nat.le_refl _)
  have f1:wr .i64 ((mid:Int) - (a:Int))=((mid - a:Nat):Int):=wrn _ (by omega) (by omega)
  have f2:wr .i64 ((b:Int) - (mid:Int))=((b - mid:Nat):Int):=wrn _ (by omega) (by omega)
  have f3:wr .i64 ((b:Int) - (a:Int))=((b - a:Nat):Int):=wrn _ (by omega) (by omega)
  have f4:wr .i64 (Int.tdiv ((b - a:Nat):Int) 8)=(((b - a) / 8:Nat):Int):=by rw [Int.tdiv_eq_ediv_of_nonneg (by omega)]; exact wrn _ (by omega) (by omega)
  have f5:wr .i64 ((mid:Int)+1)=((mid+1:Nat):Int):=wrn _ (by omega) (by omega)
  simp only [f1,f2,f3,f4,f5]
  rw [iP (show decide (((mid - a:Nat):Int)<((b - mid:Nat):Int))=true from dT (by omega))]
  have hb4:b≤d4.size:=by omega
  obtain ⟨l1,l2⟩:=Sort.pdq_holds (Sort.insertionSort_holds (lt:=ltC cf)) (Sort.heapSort_holds (lt:=ltC cf)) (Sort.partialInsertionSort_holds (lt:=ltC cf)) (Sort.partition_holds (lt:=ltC cf)) (Sort.partitionEqual_holds (lt:=ltC cf)) Sort.reverseRange_holds h d4 a mid limit true true g1 (by omega) hBa
  obtain ⟨hBL,hfin⟩:=hleft _ l1 l2
  rw [pdq_fin F (kc+d4.size) d4 a mid limit _ (by omega) (fun K F q k1 k2 k3=>ih3 g1 (by omega) hBa (by omega) (by omega) K F q (by omega) (by omega) k3),oB]
  have:=ih1 (by omega) (by rw [l1.1]; exact hb4) hBL (by rw [l1.1]; omega) (by omega) K F q (by rw [l1.1]; omega) (by rw [l1.1]; omega) (by omega)
  rw [← this]
  congr 1
  simp only [ge_iff_le,decide_eq_decide]; omega
 case case7 d a b limit0 wb wp h12 hl0 d1 limit c d2 pivot hint pi hpi2 d3 hc mid ap d4 hx hg hlt ih3 ih2 ih1 =>
  intro hab hb hB hl hlim K F q hK hF hq
  have hC:=hA K (by omega)
  obtain ⟨q,rfl⟩:∃ m,q=m+1:=⟨q - 1,by omega⟩
  refine (pdq_front hC a b limit0 (fe8_.f g F) _ d wb wp h12 hl0 hlim hb hl (by omega)).trans ?_
  refine (iN hpi2).trans ?_
  have s1:Sort.PermIn a b d d1:=Sort.step_break d hab hb _
  have b1:b≤d1.size:=by rw [s1.1]; exact hb
  have s2:Sort.PermIn a b d1 d2:=Sort.step_reverse Sort.reverseRange_holds d1 hab b1 _
  have b2:b≤d2.size:=by rw [s2.1]; exact b1
  have B2:Sort.Below (ltC cf) a b d2:=(hB.perm hb s1).perm b1 s2
  have s3:=Sort.step_partial (Sort.partialInsertionSort_holds (lt:=ltC cf)) h d2 (a:=a) (b:=b) (by omega) b2 B2 ((wb&&wp&&decide (hint=Sort.Hint.increasing))=true)
  have s3':Sort.PermIn a b d2 d3:=s3.1
  have b3:b≤d3.size:=by rw [s3'.1]; exact b2
  have e3:d3.size=d.size:=by rw [s3'.1,s2.1,s1.1]
  have B3:Sort.Below (ltC cf) a b d3:=B2.perm b2 s3'
  have hc0:=Sort.choosePivot_holds (ltC cf) d1 a b (by omega)
  have hpv:a≤pivot∧pivot<b:=Sort.pivot_range hc0.1 hc0.2 _
  refine (pdq_j3 hC a b limit pivot (fe8_.f g F) _ d3 wb wp hpv.2 hab b3 (by omega)).trans ?_
  have hpe:=part_eq hC a b pivot d3.toList hpv.1 hpv.2 (by rw [Array.length_toList]; exact b3) (by rw [Array.length_toList]; omega) (by rw [Array.length_toList]; omega)
  rw [Array.toArray_toList,hx] at hpe
  unfold fe8_.j4
  rw [iN hc,hpe,oB]
  obtain ⟨g1,g2,hs4,hBa,hBr,_,hright⟩:=Sort.round_part h (Sort.partition_holds (lt:=ltC cf)) hpv.1 hpv.2 b3 B3 hx
  have hlim2:limit≤limit0:=by show (if _ then _ else _)≤_; (split; exact Nat.sub_le _ _; exact Nat.le_refl _)
  have f1:wr .i64 ((mid:Int) - (a:Int))=((mid - a:Nat):Int):=wrn _ (by omega) (by omega)
  have f2:wr .i64 ((b:Int) - (mid:Int))=((b - mid:Nat):Int):=wrn _ (by omega) (by omega)
  have f3:wr .i64 ((b:Int) - (a:Int))=((b - a:Nat):Int):=wrn _ (by omega) (by omega)
  have f4:wr .i64 (Int.tdiv ((b - a:Nat):Int) 8)=(((b - a) / 8:Nat):Int):=by rw [Int.tdiv_eq_ediv_of_nonneg (by omega)]; exact wrn _ (by omega) (by omega)
  have f5:wr .i64 ((mid:Int)+1)=((mid+1:Nat):Int):=wrn _ (by omega) (by omega)
  simp only [f1,f2,f3,f4,f5]
  rw [iN (show ¬ decide (((mid - a:Nat):Int)<((b - mid:Nat):Int))=true by simp; omega)]
  have hb4:b≤d4.size:=by omega
  obtain ⟨l1,l2⟩:=Sort.pdq_holds (Sort.insertionSort_holds (lt:=ltC cf)) (Sort.heapSort_holds (lt:=ltC cf)) (Sort.partialInsertionSort_holds (lt:=ltC cf)) (Sort.partition_holds (lt:=ltC cf)) (Sort.partitionEqual_holds (lt:=ltC cf)) Sort.reverseRange_holds h d4 (mid+1) b limit true true (by omega) (by omega) hBr
  obtain ⟨hBL,hfin⟩:=hright _ l1 l2
  rw [pdq_fin F (kc+d4.size) d4 (mid+1) b limit _ (by omega) (fun K F q k1 k2 k3=>ih3 (by omega) (by omega) hBr (by omega) (by omega) K F q (by omega) (by omega) k3),oB]
  have:=ih1 g1 (by rw [l1.1]; omega) hBL (by rw [l1.1]; omega) (by omega) K F q (by rw [l1.1]; omega) (by rw [l1.1]; omega) (by omega)
  rw [← this]
  congr 1
  simp only [ge_iff_le,decide_eq_decide]; omega
 case case8 d a b limit wb wp h12 hl0 d1 c d2 pivot hint pi hpi2 d3 hc mid ap d4 hx hg =>
  intro hab hb hB
  have s1:Sort.PermIn a b d d1:=Sort.step_break d hab hb _
  have b1:b≤d1.size:=by rw [s1.1]; exact hb
  have s2:Sort.PermIn a b d1 d2:=Sort.step_reverse Sort.reverseRange_holds d1 hab b1 _
  have b2:b≤d2.size:=by rw [s2.1]; exact b1
  have B2:Sort.Below (ltC cf) a b d2:=(hB.perm hb s1).perm b1 s2
  have s3:=Sort.step_partial (Sort.partialInsertionSort_holds (lt:=ltC cf)) h d2 (a:=a) (b:=b) (by omega) b2 B2 ((wb&&wp&&decide (hint=Sort.Hint.increasing))=true)
  have s3':Sort.PermIn a b d2 d3:=s3.1
  have b3:b≤d3.size:=by rw [s3'.1]; exact b2
  have B3:Sort.Below (ltC cf) a b d3:=B2.perm b2 s3'
  have hc0:=Sort.choosePivot_holds (ltC cf) d1 a b (by omega)
  have hpv:a≤pivot∧pivot<b:=Sort.pivot_range hc0.1 hc0.2 _
  obtain ⟨g1,g2,_⟩:=Sort.round_part h (Sort.partition_holds (lt:=ltC cf)) hpv.1 hpv.2 b3 B3 hx
  exact absurd ⟨g1,g2⟩ hg
theorem sort_eq (h:Sort.SWO (ltC cf))(k:Nat)(xs:List g.α)(hl:xs.length<1000000000000)(hk:kc+2*xs.length+30<k):∃ ys,fi4_.f g k xs=some ys∧ys.Perm xs∧ys.Pairwise (fun x y=>¬ cf y x<0):=by
 have hlen:Sort.bitsLen xs.length<1000:=by
  have:=pow_bl xs.length
  unfold Sort.bitsLen at this ⊢
  split
  ·omega
  ·rename_i h0
   rw [iN h0] at this
   refine Decidable.byContradiction fun c=>?_
   have h1:=Nat.pow_le_pow_right (n:=2) (by omega) (show 64≤xs.length.log2+1 by omega)
   have h2:=(this h0).2
   omega
 obtain ⟨p1,p2⟩:=Sort.pdq_holds (Sort.insertionSort_holds (lt:=ltC cf)) (Sort.heapSort_holds (lt:=ltC cf)) (Sort.partialInsertionSort_holds (lt:=ltC cf)) (Sort.partition_holds (lt:=ltC cf)) (Sort.partitionEqual_holds (lt:=ltC cf)) Sort.reverseRange_holds h xs.toArray 0 xs.length (Sort.bitsLen xs.length) true true (Nat.zero_le _) (by simp) (Or.inl rfl)
 refine ⟨(Sort.pdq (ltC cf) xs.toArray 0 xs.length (Sort.bitsLen xs.length) true true).toList,?_,?_,?_⟩
 ·unfold fi4_.f
  rw [wr_u64_id (by omega) (by omega),len_eq xs.length (by omega),oB]
  obtain ⟨k,rfl⟩:∃ m,k=m+1:=⟨k - 1,by omega⟩
  have:=pdq_loop hA h xs.toArray 0 xs.length (Sort.bitsLen xs.length) true true (Nat.zero_le _) (by simp) (Or.inl rfl) (by simp; omega) (by omega) k k k (by simp; omega) (by simp; omega) (by omega)
  show Option.bind (fe8_.l1 g k (fe8_.f g k) k xs true true 0 (xs.length:Int) _) _=_
  rw [show (0:Int)=((0:Nat):Int) from rfl,show xs=xs.toArray.toList from rfl,show xs.toArray.toList.length=xs.length from rfl,this]; rfl
 ·have h3:=p1.2.2
  have h4:(Sort.pdq (ltC cf) xs.toArray 0 xs.length (Sort.bitsLen xs.length) true true).size=xs.length:=by rw [p1.1]; simp
  have e1:(xs.toArray.extract 0 xs.length).toList=xs:=by simp
  have e2:∀ R:Array g.α,R.size=xs.length→(R.extract 0 xs.length).toList=R.toList:=fun R h=>by rw [← h]; simp
  rw [e1,e2 _ h4] at h3
  exact h3
 ·generalize Sort.pdq (ltC cf) xs.toArray 0 xs.length (Sort.bitsLen xs.length) true true=R at p1 p2
  have hR:R.size=xs.length:=by rw [p1.1]; simp
  rw [List.pairwise_iff_getElem]
  intro i j hi hj hij
  have:=p2 i j (Nat.zero_le _) hij (by simpa [hR] using hj)
  rw [getElem!_pos R i (by simpa using hi),getElem!_pos R j (by simpa using hj)] at this
  unfold ltC at this
  simpa using this
end
theorem lexW_cmp {a b:List Int}(ha:Wd a)(hb:Wd b):lexW a b=cmpI (wv a) (wv b):=by
 have h1:=lexW_eq ha.1 hb.1
 have h2:=cmp_eq 0 ha hb
 exact sI (h1.symm.trans h2)
theorem lexW_lt (a b:List Int):lexW a b<0↔rd a 3<rd b 3∨(rd a 3=rd b 3∧(rd a 2<rd b 2∨(rd a 2=rd b 2∧(rd a 1<rd b 1∨(rd a 1=rd b 1∧rd a 0<rd b 0))))):=by
 unfold lexW
 by_cases e:a=b
 ·rw [iP e,e]; omega
 rw [iN e]
 split
 ·split
  ·split
   ·split <;> omega
   ·split <;> omega
  ·split <;> omega
 ·split <;> omega
def cfW (x y:List Int×List Int):Int:=lexW x.1 y.1
theorem cfW_lt (x y:List Int×List Int):ltC cfW x y=decide (lexW x.1 y.1<0):=rfl
theorem swoW:Sort.SWO (ltC cfW) where
 irrefl x:=by rw [cfW_lt,decide_eq_false_iff_not,lexW_lt]; omega
 trans x y z h1 h2:=by rw [cfW_lt,decide_eq_true_eq,lexW_lt] at *; omega
 ntrans x y z h1 h2:=by rw [cfW_lt,decide_eq_false_iff_not,lexW_lt] at *; omega
theorem sortW_eq {k:Nat}{xs S:KvS}(hk:5000<k)(hS:StOK S)(hl:S.length≤2000)(hn:xs.Nodup)(hm:∀ s,s∈xs↔s∈S):fi4_.f G1 k xs=some S:=by
 have hSn:S.Nodup:=hS.1.imp fun {x y} h e=>by rw [e] at h; omega
 have hp:xs.Perm S:=(List.perm_ext_iff_of_nodup hn hSn).2 hm
 have hlen:=hp.length_eq
 obtain ⟨ys,y1,y2,y3⟩:=sort_eq (g:=G1) (cf:=cfW) (kc:=0) (fun K _ x y=>rfl) swoW k xs (by omega) (by omega)
 rw [y1]
 congr 1
 refine List.Perm.eq_of_pairwise (le:=fun x y=>¬ cfW y x<0) (fun x y hx hy h1 h2=>?_) y3 (hS.1.imp_of_mem fun {x y} hx hy hxy hn=>?_) (y2.trans hp)
 ·have hx':x∈S:=(hm x).1 (y2.mem_iff.1 hx)
  have wx:=(hS.2 x hx').2
  have wy:=(hS.2 y hy).2
  unfold cfW at h1 h2
  rw [lexW_cmp wx wy] at h2
  rw [lexW_cmp wy wx] at h1
  have e:wv x.1=wv y.1:=by
   unfold cmpI at h1 h2
   split at h1
   ·omega
   ·split at h1
    ·omega
    ·split at h2
     ·omega
     ·split at h2
      ·omega
      ·omega
  have e2:=wx.inj wy e
  have s1:=slotD_mem hS hx'
  have s2:=slotD_mem hS hy
  rw [e2,s2] at s1
  exact Prod.ext e2 s1.symm
 ·unfold cfW at hn
  rw [lexW_cmp (hS.2 y hy).2 (hS.2 x hx).2] at hn
  unfold cmpI at hn
  rw [iN (by omega),iN (by omega)] at hn
  omega
section
variable {B:L71} {v:Vw} {M S:KvS}
def Nw (v:Vw)(B:L71)(s:List Int×List Int):Prop:=s.2≠w0∧Wd s.1∧ldV v B s.1=s.2
theorem nw_mem (hS:StOK S)(hld:∀ k,Wd k→slotD S k=ldV v B k)(s:List Int×List Int):s∈S↔Nw v B s:=by
 constructor
 ·intro h
  obtain ⟨h1,h2⟩:=hS.2 s h
  exact ⟨h1,h2,by rw [← hld _ h2]; exact slotD_mem hS h⟩
 ·rintro ⟨h1,h2,h3⟩
  have e:slotD S s.1=s.2:=by rw [hld _ h2,h3]
  have:=slotD_has (l:=S) (k:=s.1) (by rw [e]; exact h1)
  rw [e] at this
  exact this
structure StInv (v:Vw)(B:L71)(M R out:KvS):Prop where
 nd:out.Nodup
 o1:∀ s∈out,Nw v B s∧∀ e∈R,e.1≠s.1
 o2:∀ s,Nw v B s→s∈out∨s∈R
 sub:∀ e∈R,e∈M
 rn:(R.map Prod.fst).Nodup
theorem StInv.le {R out:KvS}(i:StInv v B M R out)(hS:∀ s,s∈S↔Nw v B s):out.length≤S.length:=List.Nodup.length_le_of_subset i.nd fun s hs=>(hS s).2 (i.o1 s hs).1
theorem StInv.step {R out:KvS}(i:StInv v B M R out)(hv:v.sets=aget M)(hM:(M.map Prod.fst).Nodup)(hw:∀ k x,aget M k=some x→Wd k){e:List Int×List Int}(he:e∈R):(e.2=w0→StInv v B M (adel R e.1) out)∧(e.2≠w0→StInv v B M (adel R e.1) (out++[e])):=by
 have same:∀ s∈R,s.1=e.1→s=e:=fun s hs c=>by
  have h1:=(aget_mem_iff i.rn s.1 s.2).2 hs
  have h2:=(aget_mem_iff i.rn e.1 e.2).2 he
  rw [c,h2] at h1
  exact Prod.ext c (sI h1).symm
 have del:∀ s,s∈adel R e.1↔s∈R∧s.1≠e.1:=fun s=>by
  unfold adel
  rw [List.mem_filter]
  simp
 have g:aget M e.1=some e.2:=(aget_mem_iff hM e.1 e.2).2 (i.sub e he)
 have nwe:e.2≠w0→Nw v B e:=fun c=>⟨c,hw _ _ g,by unfold ldV; rw [hv,g]⟩
 refine ⟨fun c=>⟨i.nd,fun s hs=>⟨(i.o1 s hs).1,fun q hq=>(i.o1 s hs).2 q ((del q).1 hq).1⟩,fun s hs=>?_,fun q hq=>i.sub q ((del q).1 hq).1,adel_nodup' i.rn _⟩,fun c=>⟨?_,fun s hs=>?_,fun s hs=>?_,fun q hq=>i.sub q ((del q).1 hq).1,adel_nodup' i.rn _⟩⟩
 ·rcases i.o2 s hs with h | h
  ·exact .inl h
  ·refine .inr ((del s).2 ⟨h,fun c2=>?_⟩)
   rw [same s h c2] at hs
   exact hs.1 c
 ·refine List.nodup_append.2 ⟨i.nd,by simp,fun s hs q hq e2=>?_⟩
  simp only [List.mem_singleton] at hq
  exact (i.o1 s hs).2 e he (by rw [e2,hq])
 ·rcases List.mem_append.1 hs with hs | hs
  ·exact ⟨(i.o1 s hs).1,fun q hq=>(i.o1 s hs).2 q ((del q).1 hq).1⟩
  ·simp only [List.mem_singleton] at hs
   rw [hs]
   exact ⟨nwe c,fun q hq=>((del q).1 hq).2⟩
 ·rcases i.o2 s hs with h | h
  ·exact .inl (List.mem_append_left _ h)
  ·by_cases c2:s.1=e.1
   ·rw [same s h c2]; exact .inl (by simp)
   ·exact .inr ((del s).2 ⟨h,c2⟩)
theorem sto_map {k:Nat}(hk:5000<k)(hv:v.sets=aget M)(hM:(M.map Prod.fst).Nodup)(hw:∀ k x,aget M k=some x→Wd k)(hS:StOK S)(hSl:S.length≤2000)(hm:∀ s,s∈S↔Nw v B s):∀ (n q:Nat) (R out:KvS),R.length≤n→n<q→StInv v B M R out→fe4_.l1 k q R out=some S
 | n,q,[],out,hn,hq,i=>by
  obtain ⟨q,rfl⟩:∃ m,q=m+1:=⟨q - 1,by omega⟩
  show fe4_.b1 _ _ _ _=_
  unfold fe4_.b1 fe4_.j2
  rw [rngL_nil,sortW_eq hk hS hSl i.nd fun s=>?_]
  ·rfl
  ·rw [hm s]
   exact ⟨fun h=>(i.o1 s h).1,fun h=>(i.o2 s h).resolve_right (by simp)⟩
 | n,q,e0::R0,out,hn,hq,i=>by
  obtain ⟨q,rfl⟩:∃ m,q=m+1:=⟨q - 1,by omega⟩
  show fe4_.b1 _ _ _ _=_
  unfold fe4_.b1
  refine rngL_cons (by simp) (fun e he=>?_)
  obtain ⟨s1,s2⟩:=i.step hv hM hw he
  have hlt:=adel_length_lt he
  obtain ⟨n,rfl⟩:∃ m,n=m+1:=⟨n - 1,by simp only [List.length_cons] at hn; omega⟩
  have hle:=i.le hm
  by_cases c:e.2=w0
  ·rw [dT c,iN (by simp)]
   exact sto_map hk hv hM hw hS hSl hm n q _ _ (by omega) (by omega) (s1 c)
  ·rw [dF c,iP (by rfl),iP (by simp only [List.length_singleton]; omega)]
   exact sto_map hk hv hM hw hS hSl hm n q _ _ (by omega) (by omega) (s2 c)
theorem sto_base {k:Nat}(x:L71×L71×Bool×KvS×Bool×Bool×KvB)(hx:x.1.2.2.2.2.length≤2000):∀ (l:KvS) (q i:Nat) (out:KvS),x.1.2.2.2.2.drop i=l→i≤x.1.2.2.2.2.length→l.length<q→out.length≤i→fe4_.l2 k x q out (i:Int)=fe4_.j1 k x (out++l.filter fun s=>(aget x.2.2.2.1 s.1).isNone)
 | [],q,i,out,hd,hi,hq,ho=>by
  obtain ⟨q,rfl⟩:∃ m,q=m+1:=⟨q - 1,by omega⟩
  have:x.1.2.2.2.2.length≤i:=by simpa using hd
  show fe4_.b2 _ _ _ _ _=_
  unfold fe4_.b2
  rw [iN (by simp; omega)]; simp
 | s::l,q,i,out,hd,hi,hq,ho=>by
  simp only [List.length_cons] at hq
  obtain ⟨q,rfl⟩:∃ m,q=m+1:=⟨q - 1,by omega⟩
  obtain ⟨h1,h2,h3⟩:=gt_dropA hd
  show fe4_.b2 _ _ _ _ _=_
  unfold fe4_.b2 fe4_.j4 fe4_.j3
  rw [iP (by simp; omega),iP (by omega),h1,next1 i (by omega)]
  cases hg:aget x.2.2.2.1 s.1 with
  | none =>
   rw [iP (by simp [lk]),iP (by simp only [List.length_singleton]; omega),sto_base x hx l q (i+1) _ h3 (by omega) (by omega) (by simp; omega),List.filter_cons_of_pos (by simp [hg]),List.append_assoc]
   rfl
  | some w =>
   rw [iN (by simp [lk]),sto_base x hx l q (i+1) _ h3 (by omega) (by omega) (by omega),List.filter_cons_of_neg (by simp [hg])]
theorem storage_eq {k:Nat}(hk:5000<k){now:L71}{dead warm:Bool}{wm:KvB}(hv:v.sets=aget M)(hB:StOK B.2.2.2.2)(hBl:B.2.2.2.2.length≤500)(hM:(M.map Prod.fst).Nodup)(hMl:M.length≤2000)(hw:∀ k x,aget M k=some x→Wd k)(hS:StOK S)(hSl:S.length≤2000)(hld:∀ k,Wd k→slotD S k=ldV v B k) :
  fe4_.f k (B,now,v.fresh,M,dead,warm,wm)=some S:=by
 have hm:=nw_mem hS hld
 have go:∀ out,StInv v B M M out→fe4_.j1 k (B,now,v.fresh,M,dead,warm,wm) out=some S:=fun out i=>by
  unfold fe4_.j1
  exact sto_map hk hv hM hw hS hSl hm M.length k M out (Nat.le_refl _) (by omega) i
 unfold fe4_.f
 cases hf:v.fresh with
 | true =>
  rw [iN (by simp), ← hf]
  refine go [] ⟨List.nodup_nil,fun s hs=>(by cases hs),fun s hs=> .inr ?_,fun e he=>he,hM⟩
  have h3:=hs.2.2
  unfold ldV at h3
  rw [hv,hf,iP rfl] at h3
  cases hg:aget M s.1 with
  | none=>rw [hg] at h3; exact absurd h3.symm hs.1
  | some w =>
   rw [hg] at h3
   have h4:w=s.2:=h3
   rw [h4] at hg
   exact (aget_mem_iff hM s.1 s.2).1 hg
 | false =>
  rw [iP (by rfl)]
  refine (sto_base (B,now,false,M,dead,warm,wm) (show B.2.2.2.2.length≤2000 by omega) B.2.2.2.2 k 0 [] rfl (Nat.zero_le _) (by omega) (Nat.zero_le _)).trans ?_
  rw [List.nil_append, ← hf]
  have hBn:B.2.2.2.2.Nodup:=hB.1.imp fun {x y} h e=>by rw [e] at h; omega
  refine go _ ⟨hBn.filter _,fun s hs=>?_,fun s hs=>?_,fun e he=>he,hM⟩
  ·obtain ⟨h1,h2⟩:=List.mem_filter.1 hs
   have hg:aget M s.1=none:=by simpa using h2
   obtain ⟨b1,b2⟩:=hB.2 s h1
   refine ⟨⟨b1,b2,?_⟩,fun e he c=>?_⟩
   ·unfold ldV
    rw [hv,hg,hf,iN (by simp)]
    exact slotD_mem hB h1
   ·have:=(aget_mem_iff hM e.1 e.2).2 he
    rw [c,hg] at this
    cases this
  ·have h3:=hs.2.2
   unfold ldV at h3
   rw [hv,hf,iN (by simp)] at h3
   cases hg:aget M s.1 with
   | none =>
    rw [hg] at h3
    have h4:slotD B.2.2.2.2 s.1=s.2:=h3
    have:=slotD_has (l:=B.2.2.2.2) (k:=s.1) (by rw [h4]; exact hs.1)
    rw [h4] at this
    exact .inl (List.mem_filter.2 ⟨this,by simp [hg]⟩)
   | some w =>
    rw [hg] at h3
    have h4:w=s.2:=h3
    rw [h4] at hg
    exact .inr ((aget_mem_iff hM s.1 s.2).1 hg)
end
theorem rd_at (xs:List Int){i:Nat}(h:i<xs.length):rd xs (i:Int)=xs[i]:=by
 rw [rd_getD,List.getD_eq_getElem?_getD,List.getElem?_eq_getElem h]; rfl
theorem drop_dec {α:Type} [DecidableEq α] (x y:List α){i:Nat}(hx:i<x.length)(hy:i<y.length):decide (x.drop i=y.drop i)=(decide (x[i]=y[i])&&decide (x.drop (i+1)=y.drop (i+1))):=by
 rw [← Bool.decide_and]
 refine decide_eq_decide.2 ?_
 rw [List.drop_eq_getElem_cons hx,List.drop_eq_getElem_cons hy,List.cons.injEq]
instance decSl:DecidableEq KvS:=inferInstance
instance decA3:DecidableEq (List Int×KvS):=inferInstance
instance decA2:DecidableEq (List Int×List Int×KvS):=inferInstance
instance decA1:DecidableEq (Int×List Int×List Int×KvS):=inferInstance
instance decA0:DecidableEq L71:=inferInstanceAs (DecidableEq (List Int×Int×List Int×List Int×KvS))
theorem toList_loop (l:List UInt8):∀ (d i:Nat) (r:List UInt8),i+d=l.length→ByteArray.toList.loop ⟨⟨l⟩⟩ i r=r.reverse++l.drop i:=by
 have hs:ByteArray.size ⟨⟨l⟩⟩=l.length:=rfl
 intro d
 induction d with
 | zero =>
  intro i r h
  unfold ByteArray.toList.loop
  rw [iN (by rw [hs]; omega),List.drop_eq_nil_of_le (by omega),List.append_nil]
 | succ d ih =>
  intro i r h
  unfold ByteArray.toList.loop
  rw [iP (by rw [hs]; omega),ih (i+1) _ (by omega),List.drop_eq_getElem_cons (show i<l.length by omega)]
  have:ByteArray.get! ⟨⟨l⟩⟩ i=l[i]'(by omega):=by
   show (Array.mk l)[i]! = _
   rw [getElem!_pos (Array.mk l) i (by simpa using (show i<l.length by omega))]
   rfl
  rw [this]
  simp
theorem bstr_u8s (l:List Int):(bstr l).toList=u8s l:=by
 have h:bstr l=⟨⟨u8s l⟩⟩:=by
  have:=bstr_data l
  show ByteArray.mk (Array.mk (bstr l).data.toList)=_
  rw [this]; rfl
 rw [h]
 show ByteArray.toList.loop ⟨⟨u8s l⟩⟩ 0 []=u8s l
 rw [toList_loop (u8s l) (u8s l).length 0 [] (by omega)]
 simp
theorem eqB_loop (x y:List Int)(hl:x.length=y.length)(hm:x.length<1000000):∀ (r q i:Nat),i+r=x.length→r<q→fb9_.l1 x y q (i:Int)=some (decide (x.drop i=y.drop i))
 | 0,q,i,hi,hq=>by
  obtain ⟨q,rfl⟩:∃ m,q=m+1:=⟨q - 1,by omega⟩
  show fb9_.b1 _ _ _ _=_
  unfold fb9_.b1 fb9_.j1
  rw [iN (by simp; omega),List.drop_eq_nil_of_le (by omega),List.drop_eq_nil_of_le (by omega)]
  rfl
 | r+1,q,i,hi,hq=>by
  obtain ⟨q,rfl⟩:∃ m,q=m+1:=⟨q - 1,by omega⟩
  show fb9_.b1 _ _ _ _=_
  unfold fb9_.b1
  rw [iP (by simp; omega),iP (by omega),iP (by omega),next1 i (by omega),rd_at x (by omega),rd_at y (by omega),drop_dec x y (by omega) (by omega)]
  by_cases c:x[i]'(by omega)=y[i]'(by omega)
  ·rw [iN (by simp [c]),eqB_loop x y hl hm r q (i+1) (by omega) (by omega),dT c,Bool.true_and]
  ·rw [iP (by simpa using c),dF c,Bool.false_and]
theorem eqB_eq {k:Nat}(x y:List Int)(hm:x.length<1000000)(hk:x.length<k):fb9_.f k x y=some (decide (x=y)):=by
 unfold fb9_.f
 by_cases c:x.length=y.length
 ·rw [iN (by simp [c])]
  exact eqB_loop x y c hm x.length k 0 (by omega) hk
 ·rw [iP (by simp; omega),dF (fun e=>c (by rw [e]))]
theorem eqS_loop (x y:KvS)(hl:x.length=y.length)(hm:x.length<1000000):∀ (r q i:Nat),i+r=x.length→r<q→fi0_.l1 x y q (i:Int)=some (decide (x.drop i=y.drop i))
 | 0,q,i,hi,hq=>by
  obtain ⟨q,rfl⟩:∃ m,q=m+1:=⟨q - 1,by omega⟩
  show fi0_.b1 _ _ _ _=_
  unfold fi0_.b1 fi0_.j1
  rw [iN (by simp; omega),List.drop_eq_nil_of_le (by omega),List.drop_eq_nil_of_le (by omega)]
  rfl
 | r+1,q,i,hi,hq=>by
  obtain ⟨q,rfl⟩:∃ m,q=m+1:=⟨q - 1,by omega⟩
  show fi0_.b1 _ _ _ _=_
  unfold fi0_.b1
  rw [iP (by simp; omega),iP (by omega),iP (by omega),next1 i (by omega),gt_natG x (by omega),gt_natG y (by omega),drop_dec x y (by omega) (by omega)]
  by_cases c:x[i]'(by omega)=y[i]'(by omega)
  ·rw [iN (by simp [c]),eqS_loop x y hl hm r q (i+1) (by omega) (by omega),dT c,Bool.true_and]
  ·rw [iP (by simpa using c),dF c,Bool.false_and]
theorem eqS_eq {k:Nat}(x y:KvS)(hm:x.length<1000000)(hk:x.length<k):fi0_.f k x y=some (decide (x=y)):=by
 unfold fi0_.f
 by_cases c:x.length=y.length
 ·rw [iN (by simp [c])]
  exact eqS_loop x y c hm x.length k 0 (by omega) hk
 ·rw [iP (by simp; omega),dF (fun e=>c (by rw [e]))]
theorem acc_ext {x y:L71}(h1:x.1=y.1)(h2:x.2.1=y.2.1)(h3:x.2.2.1=y.2.2.1)(h4:x.2.2.2.1=y.2.2.2.1)(h5:x.2.2.2.2=y.2.2.2.2):x=y :=
 Prod.ext h1 (Prod.ext h2 (Prod.ext h3 (Prod.ext h4 h5)))
theorem sameP_eq {k:Nat}(x y:L71)(ha:x.1=y.1)(h1:x.2.2.2.1.length<1000000)(h2:x.2.2.2.2.length<1000000)(k1:x.2.2.2.1.length<k)(k2:x.2.2.2.2.length<k):fi7_.f k x y=some (decide (x=y)):=by
 unfold fi7_.f
 by_cases c1:x.2.1=y.2.1
 ·rw [iP (by simpa using c1)]
  by_cases c2:x.2.2.1=y.2.2.1
  ·rw [iP (by simpa using c2),eqB_eq _ _ h1 k1,oB]
   by_cases c3:x.2.2.2.1=y.2.2.2.1
   ·rw [iP (by simpa using c3),eqS_eq _ _ h2 k2,oB]
    congr 1
    exact decide_eq_decide.2 ⟨fun c4=>acc_ext ha c1 c2 c3 c4,fun e=>by rw [e]⟩
   ·rw [iN (by simpa using c3),dF (fun e=>c3 (by rw [e]))]
  ·rw [iN (by simpa using c2),dF (fun e=>c2 (by rw [e]))]
 ·rw [iN (by simpa using c1),dF (fun e=>c1 (by rw [e]))]
theorem bstr_eq {a b:List Int}(ha:∀ y∈a,inK .u8 y)(hb:∀ y∈b,inK .u8 y):((bstr a).toList==(bstr b).toList)=decide (a=b):=by
 rw [bstr_u8s,bstr_u8s]
 by_cases c:a=b
 ·rw [c]; simp
 ·rw [dF c]
  exact beq_eq_false_iff_ne.2 fun e=>c (u8s_inj ha hb e)
theorem sameD_loop (x y:L71)(hl:x.2.2.2.2.length=y.2.2.2.2.length)(hm:x.2.2.2.2.length<1000000):∀ (r q i:Nat),i+r=x.2.2.2.2.length→r<q→fg2_.l1 x y q (i:Int)=some (decide (x.2.2.2.2.drop i=y.2.2.2.2.drop i))
 | 0,q,i,hi,hq=>by
  obtain ⟨q,rfl⟩:∃ m,q=m+1:=⟨q - 1,by omega⟩
  show fg2_.b1 _ _ _ _=_
  unfold fg2_.b1 fg2_.j2
  rw [iN (by simp; omega),List.drop_eq_nil_of_le (by omega),List.drop_eq_nil_of_le (by omega)]
  rfl
 | r+1,q,i,hi,hq=>by
  obtain ⟨q,rfl⟩:∃ m,q=m+1:=⟨q - 1,by omega⟩
  show fg2_.b1 _ _ _ _=_
  unfold fg2_.b1
  rw [iP (by simp; omega),iP (by omega),iP (by omega),next1 i (by omega),gt_natG x.2.2.2.2 (by omega),gt_natG y.2.2.2.2 (by omega),drop_dec x.2.2.2.2 y.2.2.2.2 (by omega) (by omega)]
  by_cases c:x.2.2.2.2[i]'(by omega)=y.2.2.2.2[i]'(by omega)
  ·rw [iN (by simp [c]),sameD_loop x y hl hm r q (i+1) (by omega) (by omega),dT c,Bool.true_and]
  ·rw [iP (by simpa using c),dF c,Bool.false_and]
theorem sameD_eq {k:Nat}(x y:L71)(b1:∀ z∈x.2.2.2.1,inK .u8 z)(b2:∀ z∈y.2.2.2.1,inK .u8 z)(h2:x.2.2.2.2.length<1000000)(k2:x.2.2.2.2.length<k):fg2_.f k x y=some (decide (x=y)):=by
 have no:fg2_.j1 k x y true=some false:=rfl
 unfold fg2_.f
 by_cases c0:x.1=y.1
 ·rw [iN (by simpa using c0)]
  by_cases c1:x.2.1=y.2.1
  ·rw [iN (by simp [c1])]
   by_cases c2:x.2.2.1=y.2.2.1
   ·rw [iN (by simpa using c2),bstr_eq b1 b2]
    by_cases c3:x.2.2.2.1=y.2.2.2.1
    ·rw [iN (by simpa using c3)]
     unfold fg2_.j1
     by_cases c4:x.2.2.2.2.length=y.2.2.2.2.length
     ·rw [iN (by simp [c4]),show (0:Int)=((0:Nat):Int) from rfl,sameD_loop x y c4 h2 x.2.2.2.2.length k 0 (by omega) k2]
      congr 1
      exact decide_eq_decide.2 ⟨fun c5=>acc_ext c0 c1 c2 c3 c5,fun e=>by rw [e]⟩
     ·rw [iP (by simp; omega),dF (fun e=>c4 (by rw [e]))]
    ·rw [iP (by simpa using c3),no,dF (fun e=>c3 (by rw [e]))]
   ·rw [iP (by simpa using c2),no,dF (fun e=>c2 (by rw [e]))]
  ·rw [iP (by simpa using c1),no,dF (fun e=>c1 (by rw [e]))]
 ·rw [iP (by simpa using c0),no,dF (fun e=>c0 (by rw [e]))]
theorem sameAll_loop (l:List L71)(k:Nat)(hs:∀ x∈l,(∀ z∈x.2.2.2.1,inK .u8 z)∧x.2.2.2.2.length<1000000∧x.2.2.2.2.length<k)(hl:l.length<4000000):∀ (d:List L71) (q i:Nat),l.drop i=d→i≤l.length→d.length<q→fe6_.l1 k l l q (i:Int)=some true
 | [],q,i,hd,hi,hq=>by
  obtain ⟨q,rfl⟩:∃ m,q=m+1:=⟨q - 1,by omega⟩
  have:l.length≤i:=by simpa using hd
  show fe6_.b1 _ _ _ _ _=_
  unfold fe6_.b1
  rw [iN (by simp; omega)]; rfl
 | x::d,q,i,hd,hi,hq=>by
  simp only [List.length_cons] at hq
  obtain ⟨q,rfl⟩:∃ m,q=m+1:=⟨q - 1,by omega⟩
  obtain ⟨h1,h2,h3⟩:=gt_dropA hd
  have hx:x∈l:=List.drop_subset i l (by rw [hd]; exact List.mem_cons_self)
  obtain ⟨s1,s2,s3⟩:=hs x hx
  show fe6_.b1 _ _ _ _ _=_
  unfold fe6_.b1
  rw [iP (by simp; omega),iP (by omega),iP (by omega),h1,sameD_eq x x s1 s1 s2 s3,oB,iN (by simp),next1 i (by omega)]
  exact sameAll_loop l k hs hl d q (i+1) h3 (by omega) (by omega)
theorem sameAll_self (l:List L71)(k:Nat)(hs:∀ x∈l,(∀ z∈x.2.2.2.1,inK .u8 z)∧x.2.2.2.2.length<1000000∧x.2.2.2.2.length<k)(hl:l.length<4000000)(hlk:l.length<k):fe6_.f k l l=some true:=by
 unfold fe6_.f
 rw [iN (by simp)]
 exact sameAll_loop l k hs hl l k 0 rfl (by omega) hlk
end GW
