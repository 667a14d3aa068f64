import Derived.Test.YtdajnflppnlhiaaG0
import Derived.Test.YtdajnflppnlhiaaGWPlain
import Derived.Sort.LotA
import Derived.Sort.Defs
import Derived.Laws.Bits64b
import Derived.Sort.LotB
import Derived.Sort.LotC
import Derived.Sort.LotD3
set_option linter.unusedVariables false
set_option linter.unusedSimpArgs false
set_option maxRecDepth 100000
set_option linter.unusedSectionVars false
namespace GW
open Go Go.RowKit
def SmallA (a:L39):Prop:=a.2.2.2.1.length≤3000∧a.2.2.2.2.length≤100
theorem great_loop (l:List L39)(hl:l.length≤50):∀ (r q i:Nat),i+r=l.length→r<q→fc7_.l1 l q (i:Int)=some true∨(fc7_.l1 l q (i:Int)=some false∧∀ a∈l.drop i,SmallA a)
 | 0,q,i,hi,hq=>by
  obtain ⟨q,rfl⟩:∃ m,q=m+1:=⟨q - 1,by omega⟩
  refine .inr ⟨?_,fun a ha=>by rw [List.drop_eq_nil_of_le (by omega)] at ha; cases ha⟩
  show fc7_.b1 _ _ _=_
  unfold fc7_.b1
  rw [iN (by simp; omega)]; rfl
 | r+1,q,i,hi,hq=>by
  obtain ⟨q,rfl⟩:∃ m,q=m+1:=⟨q - 1,by omega⟩
  have hw:wr .i64 ((i:Int)+1)=((i+1:Nat):Int):=by rw [wr_i64_id (by omega) (by omega)]; omega
  have e1:fc7_.l1 l (q+1) (i:Int)=fc7_.b1 l (fc7_.l1 l q) (i:Int):=rfl
  rw [e1]
  unfold fc7_.b1
  rw [iP (by simp; omega),iP (by omega)]
  by_cases c1:(3000:Int)<((gt l (i:Int)).2.2.2.1.length:Int)
  ·rw [iP (dT c1)]; exact .inl rfl
  ·rw [iN (by simpa using c1)]
   unfold fc7_.j2
   by_cases c2:(100:Int)<((gt l (i:Int)).2.2.2.2.length:Int)
   ·rw [dT c2]; exact .inl rfl
   ·rw [dF c2,iN (by simp),hw]
    rcases great_loop l hl r q (i+1) (by omega) (by omega) with h | ⟨h,h2⟩
    ·exact .inl h
    ·refine .inr ⟨h,fun a ha=>?_⟩
     rw [List.drop_eq_getElem_cons (by omega)] at ha
     rcases List.mem_cons.1 ha with rfl | ha
     ·have:gt l (i:Int)=l[i]:=by unfold gt; rw [Int.toNat_natCast,List.getD_eq_getElem?_getD,List.getElem?_eq_getElem (by omega)]; rfl
      rw [this] at c1 c2
      exact ⟨by omega,by omega⟩
     ·exact h2 a ha
theorem great13 (l:List L39)(k:Nat)(hk:51<k):fc7_.f k l=some true∨(fc7_.f k l=some false∧l.length≤50∧∀ a∈l,SmallA a):=by
 unfold fc7_.f
 by_cases c:(50:Int)<(l.length:Int)
 ·rw [iP (dT c)]; exact .inl rfl
 ·rw [iN (by simpa using c)]
  rcases great_loop l (by omega) l.length k 0 (by omega) (by omega) with h | ⟨h,h2⟩
  ·exact .inl h
  ·exact .inr ⟨h,by omega,by simpa using h2⟩
def findA:List L39→List Int→Option L39
 | [],_=>none
 | x::l,a=>if x.1=a then some x else findA l a
theorem findA_mem {l:List L39}{a:List Int}{x:L39}(h:findA l a=some x):x∈l∧x.1=a:=by
 induction l with
 | nil=>cases h
 | cons y l ih =>
  unfold findA at h
  by_cases c:y.1=a
  ·rw [iP c] at h; obtain rfl:=sI h; exact ⟨List.mem_cons_self,c⟩
  ·rw [iN c] at h; exact ⟨List.mem_cons_of_mem _ (ih h).1,(ih h).2⟩
theorem gt_dropA {α:Type} [Inhabited α] {xs:List α}{i:Nat}{x:α}{l:List α}(h:xs.drop i=x::l):gt xs (i:Int)=x∧i<xs.length∧xs.drop (i+1)=l:=by
 have hi:i<xs.length:=by
  refine Decidable.byContradiction fun c=>?_
  rw [List.drop_eq_nil_of_le (by omega)] at h
  cases h
 rw [List.drop_eq_getElem_cons hi] at h
 simp only [List.cons.injEq] at h
 refine ⟨?_,hi,h.2⟩
 unfold gt
 rw [Int.toNat_natCast,List.getD_eq_getElem?_getD,List.getElem?_eq_getElem hi]
 exact h.1
theorem next1 (i:Nat)(h:i<4611686018427387904):wr .i64 ((i:Int)+1)=((i+1:Nat):Int):=by rw [wr_i64_id (by omega) (by omega)]; omega
theorem cb_lt:∀ a b:List UInt8,Lib.compareBytes a b<0↔a<b
 | [],[]=>by simp [Lib.compareBytes]
 | [],_::_=>by simp [Lib.compareBytes]
 | _::_,[]=>by simp [Lib.compareBytes]
 | a::u,b::v=>by
  have ih:=cb_lt u v
  show (if a<b then (-1:Int) else if b<a then 1 else Lib.compareBytes u v)<0↔_
  rw [List.cons_lt_cons_iff]
  by_cases c1:a<b
  ·simp [c1]
  ·rw [iN c1]
   by_cases c2:b<a
   ·rw [iP c2]
    have:a≠b:=fun e=>by subst e; exact c1 c2
    simp [c1,this]
   ·rw [iN c2,ih]
    have:a=b:=UInt8.le_antisymm (UInt8.not_lt.1 c2) (UInt8.not_lt.1 c1)
    simp [this,UInt8.lt_irrefl]
def akey (a:List Int):List UInt8:=u8s ((a.drop 0).take 20)
section
variable {α β:Type} [DecidableEq α]
end
def Wd (a:List Int):Prop:=a.length=4∧∀ y∈a,inK .u64 y
def wv (a:List Int):Int:=rd a 0+rd a 1*18446744073709551616+rd a 2*340282366920938463463374607431768211456+rd a 3*6277101735386680763835789423207666416102355444464034512896
theorem inK_of_u64 {x:Int}(h0:0≤x)(h1:x<18446744073709551616):inK .u64 x:=by
 have:x≤18446744073709551615:=by omega
 simpa [inK,Lit.wf,IntKind.min,IntKind.max,IntKind.signed,IntKind.bits] using And.intro h0 this
theorem Wd.lanes {a:List Int}(h:Wd a):∃ a0 a1 a2 a3:Int,a=[a0,a1,a2,a3]∧(0≤a0∧a0<18446744073709551616)∧(0≤a1∧a1<18446744073709551616)∧(0≤a2∧a2<18446744073709551616)∧(0≤a3∧a3<18446744073709551616):=by
 obtain ⟨hl,hx⟩:=h
 match a,hl with
 | [a0,a1,a2,a3],_=>exact ⟨a0,a1,a2,a3,rfl,inK_u64 (hx a0 (by simp)),inK_u64 (hx a1 (by simp)),inK_u64 (hx a2 (by simp)),inK_u64 (hx a3 (by simp))⟩
theorem Wd.mk {a0 a1 a2 a3:Int}(h0:0≤a0∧a0<18446744073709551616)(h1:0≤a1∧a1<18446744073709551616)(h2:0≤a2∧a2<18446744073709551616)(h3:0≤a3∧a3<18446744073709551616):Wd [a0,a1,a2,a3]:=by
 refine ⟨rfl,fun y hy=>?_⟩
 simp only [List.mem_cons,List.not_mem_nil,or_false] at hy
 rcases hy with rfl | rfl | rfl | rfl
 ·exact inK_of_u64 h0.1 h0.2
 ·exact inK_of_u64 h1.1 h1.2
 ·exact inK_of_u64 h2.1 h2.2
 ·exact inK_of_u64 h3.1 h3.2
theorem wv_lanes (a0 a1 a2 a3:Int):wv [a0,a1,a2,a3]=a0+a1*18446744073709551616+a2*340282366920938463463374607431768211456+a3*6277101735386680763835789423207666416102355444464034512896:=rfl
theorem Wd.lt {a:List Int}(h:Wd a):0≤wv a∧wv a<115792089237316195423570985008687907853269984665640564039457584007913129639936:=by
 obtain ⟨a0,a1,a2,a3,rfl,h0,h1,h2,h3⟩:=h.lanes
 rw [wv_lanes]; omega
theorem Wd.inj {a b:List Int}(h:Wd a)(k:Wd b)(e:wv a=wv b):a=b:=by
 obtain ⟨a0,a1,a2,a3,rfl,h0,h1,h2,h3⟩:=h.lanes
 obtain ⟨b0,b1,b2,b3,rfl,k0,k1,k2,k3⟩:=k.lanes
 rw [wv_lanes,wv_lanes] at e
 have e0:a0=b0:=by omega
 subst e0
 have e1:a1=b1:=by omega
 subst e1
 have e2:a2=b2:=by omega
 subst e2
 have e3:a3=b3:=by omega
 rw [e3]
theorem Wd.of {x:Int}(h:inK .u64 x):Wd [x,0,0,0]:=Wd.mk (inK_u64 h) (by omega) (by omega) (by omega)
theorem Wd.of' {x:Int}(h0:0≤x)(h1:x<18446744073709551616):Wd [x,0,0,0]:=Wd.mk ⟨h0,h1⟩ (by omega) (by omega) (by omega)
theorem Wd.zero:Wd [0,0,0,0]:=Wd.of' (by omega) (by omega)
def dv (B:Int):List Int→Int
 | []=>0
 | x::r=>x+B*dv B r
theorem rd_getD (a:List Int)(i:Nat):rd a (i:Int)=a.getD i 0:=rfl
def Dig (B:Int)(a:List Int):Prop:=∀ y∈a,0≤y∧y<B
theorem Dig.rd {B:Int}(hB:0<B){a:List Int}(h:Dig B a)(i:Nat):0≤a.getD i 0∧a.getD i 0<B:=by
 rw [List.getD_eq_getElem?_getD]
 by_cases hi:i<a.length
 ·rw [List.getElem?_eq_getElem hi]; exact h _ (List.getElem_mem hi)
 ·rw [List.getElem?_eq_none (by omega)]; exact ⟨Int.le_refl _,hB⟩
theorem Dig.set {B:Int}{a:List Int}(h:Dig B a)(i:Nat){v:Int}(hv:0≤v∧v<B):Dig B (a.set i v):=fun y hy=>by
 rcases List.mem_or_eq_of_mem_set hy with h1 | rfl
 ·exact h y h1
 ·exact hv
theorem Dig.nil (B:Int):Dig B []:=fun y hy=>by cases hy
theorem dv_lt {B:Int}(hB:0<B):∀ {a:List Int},Dig B a→0≤dv B a∧dv B a<B ^ a.length
 | [],_=>by simp [dv]
 | x::r,h=>by
  obtain ⟨h1,h2⟩:=h x (by simp)
  obtain ⟨h3,h4⟩:=dv_lt hB (a:=r) fun y hy=>h y (by simp [hy])
  have h5:B*dv B r≤B*(B ^ r.length - 1):=Int.mul_le_mul_of_nonneg_left (by omega) (by omega)
  have h6:0≤B*dv B r:=Int.mul_nonneg (by omega) h3
  simp only [dv,List.length_cons,Int.pow_succ]
  have h7:B*(B ^ r.length - 1)=B ^ r.length*B - B:=by grind
  omega
theorem dv_split (B:Int):∀ (a:List Int) (i:Nat),dv B a=dv B (a.take i)+a.getD i 0*B ^ i+B ^ (i+1)*dv B (a.drop (i+1))
 | [],i=>by simp [dv]
 | x::r,0=>by simp [dv,Int.pow_succ]
 | x::r,i+1=>by
  have:=dv_split B r i
  simp only [List.take_succ_cons,dv,List.getD_cons_succ,List.drop_succ_cons,Int.pow_succ] at this ⊢
  rw [this]
  grind
theorem dv_zero (B:Int):∀ (a:List Int),(∀ j,a.getD j 0=0)→dv B a=0
 | [],_=>rfl
 | x::r,h=>by
  have h0:x=0:=h 0
  rw [dv,dv_zero B r (fun j=>h (j+1)),h0,Int.mul_zero,Int.add_zero]
theorem dv_ext (B:Int):∀ (a b:List Int),(∀ j,a.getD j 0=b.getD j 0)→dv B a=dv B b
 | [],b,h=>(dv_zero B b (fun j=>(h j).symm.trans (by simp))).symm
 | x::r,[],h=>dv_zero B (x::r) (fun j=>(h j).trans (by simp))
 | x::r,y::s,h=>by
  have h0:x=y:=h 0
  rw [dv,dv,h0,dv_ext B r s (fun j=>h (j+1))]
theorem Dig.take {B:Int}{a:List Int}(h:Dig B a)(i:Nat):Dig B (a.take i):=fun y hy=>h y (List.take_subset _ _ hy)
theorem Dig.drop {B:Int}{a:List Int}(h:Dig B a)(i:Nat):Dig B (a.drop i):=fun y hy=>h y (List.drop_subset _ _ hy)
theorem getD_drop (a:List Int)(i j:Nat):(a.drop i).getD j 0=a.getD (i+j) 0:=by
 rw [List.getD_eq_getElem?_getD,List.getD_eq_getElem?_getD,List.getElem?_drop]
theorem dv_at {B:Int}(hB:0<B){a b:List Int}(ha:Dig B a)(hb:Dig B b)(i:Nat)(hi:∀ j,i<j→a.getD j 0=b.getD j 0)(h:a.getD i 0<b.getD i 0):dv B a<dv B b:=by
 have e:dv B (a.drop (i+1))=dv B (b.drop (i+1)):=dv_ext B _ _ (fun j=>by rw [getD_drop,getD_drop,hi _ (by omega)])
 rw [dv_split B a i,dv_split B b i,e]
 obtain ⟨_,h1⟩:=dv_lt hB (ha.take i)
 obtain ⟨h2,_⟩:=dv_lt hB (hb.take i)
 have h3:B ^ (a.take i).length≤B ^ i:=by
  have:∀ m n:Nat,m≤n→B ^ m≤B ^ n:=fun m n hmn=>by
   obtain ⟨d,rfl⟩:=Nat.exists_eq_add_of_le hmn
   rw [Int.pow_add]
   have:=Int.pow_pos (n:=B) (m:=d) hB
   have h4:B ^ m*1≤B ^ m*B ^ d:=Int.mul_le_mul_of_nonneg_left (by omega) (Int.le_of_lt (Int.pow_pos hB))
   omega
  exact this _ _ (by rw [List.length_take]; omega)
 have h4:(a.getD i 0+1)*B ^ i≤b.getD i 0*B ^ i:=Int.mul_le_mul_of_nonneg_right (by omega) (Int.le_of_lt (Int.pow_pos hB))
 rw [Int.add_mul,Int.one_mul] at h4
 omega
theorem of_lanesW (k:Nat)(x0 x1 x2 x3:Int):fe7_.f (k+40) [x0,x1,x2,x3]=some [wr .i64 (Int.tmod (shr x0 0) 256),wr .i64 (Int.tmod (shr x0 8) 256),wr .i64 (Int.tmod (shr x0 16) 256),wr .i64 (Int.tmod (shr x0 24) 256),wr .i64 (Int.tmod (shr x0 32) 256),wr .i64 (Int.tmod (shr x0 40) 256),wr .i64 (Int.tmod (shr x0 48) 256),wr .i64 (Int.tmod (shr x0 56) 256),wr .i64 (Int.tmod (shr x1 0) 256),wr .i64 (Int.tmod (shr x1 8) 256),wr .i64 (Int.tmod (shr x1 16) 256),wr .i64 (Int.tmod (shr x1 24) 256),wr .i64 (Int.tmod (shr x1 32) 256),wr .i64 (Int.tmod (shr x1 40) 256),wr .i64 (Int.tmod (shr x1 48) 256),wr .i64 (Int.tmod (shr x1 56) 256),wr .i64 (Int.tmod (shr x2 0) 256),wr .i64 (Int.tmod (shr x2 8) 256),wr .i64 (Int.tmod (shr x2 16) 256),wr .i64 (Int.tmod (shr x2 24) 256),wr .i64 (Int.tmod (shr x2 32) 256),wr .i64 (Int.tmod (shr x2 40) 256),wr .i64 (Int.tmod (shr x2 48) 256),wr .i64 (Int.tmod (shr x2 56) 256),wr .i64 (Int.tmod (shr x3 0) 256),wr .i64 (Int.tmod (shr x3 8) 256),wr .i64 (Int.tmod (shr x3 16) 256),wr .i64 (Int.tmod (shr x3 24) 256),wr .i64 (Int.tmod (shr x3 32) 256),wr .i64 (Int.tmod (shr x3 40) 256),wr .i64 (Int.tmod (shr x3 48) 256),wr .i64 (Int.tmod (shr x3 56) 256)]:=by kernel_rfl
theorem limb_dig (x:Int)(n:Nat)(h:0≤x)(h1:x<18446744073709551616):wr .i64 (Int.tmod (shr x n) 256)=x / 2 ^ n % 256:=by
 unfold shr
 have hp:(0:Int)<2 ^ n:=Int.pow_pos (by omega)
 rw [Int.fdiv_eq_ediv_of_nonneg _ (Int.le_of_lt hp)]
 have h2:0≤x / 2 ^ n:=Int.ediv_nonneg h (Int.le_of_lt hp)
 rw [tmod_pos h2,wr_i64_id (by omega) (by omega)]
theorem limb_dv (x:Int)(h:0≤x)(h1:x<18446744073709551616)(r:List Int):dv 256 (x / 2 ^ 0 % 256::x / 2 ^ 8 % 256::x / 2 ^ 16 % 256::x / 2 ^ 24 % 256::x / 2 ^ 32 % 256::x / 2 ^ 40 % 256::x / 2 ^ 48 % 256::x / 2 ^ 56 % 256::r)=x+18446744073709551616*dv 256 r:=by
 simp only [dv,Int.reducePow]
 generalize dv 256 r=y
 omega
theorem ofD_eq (k:Nat){a:List Int}(ha:Wd a):∃ d,fe7_.f (k+40) a=some d∧d.length=32∧Dig 256 d∧dv 256 d=wv a:=by
 obtain ⟨a0,a1,a2,a3,rfl,h0,h1,h2,h3⟩:=ha.lanes
 refine ⟨_,of_lanesW k a0 a1 a2 a3,rfl,?_,?_⟩
 ·intro y hy
  simp only [limb_dig a0 _ h0.1 h0.2,limb_dig a1 _ h1.1 h1.2,limb_dig a2 _ h2.1 h2.2,limb_dig a3 _ h3.1 h3.2,List.mem_cons,List.not_mem_nil,or_false] at hy
  rcases hy with rfl | rfl | rfl | rfl | rfl | rfl | rfl | rfl | rfl | rfl | rfl | rfl | rfl | rfl | rfl | rfl | rfl | rfl | rfl | rfl | rfl | rfl | rfl | rfl | rfl | rfl | rfl | rfl | rfl | rfl | rfl | rfl <;> omega
 ·simp only [limb_dig a0 _ h0.1 h0.2,limb_dig a1 _ h1.1 h1.2,limb_dig a2 _ h2.1 h2.2,limb_dig a3 _ h3.1 h3.2]
  rw [limb_dv a0 h0.1 h0.2,limb_dv a1 h1.1 h1.2,limb_dv a2 h2.1 h2.2,limb_dv a3 h3.1 h3.2,wv_lanes]
  simp only [dv]
  omega
def cmpI (a b:Int):Int:=if a=b then 0 else if a<b then -1 else 1
theorem cmp_step (x y:List Int)(q i:Nat)(hi:i<4)(h:rd x i=rd y i):ff_.l1 x y (q+1) (i:Int)=ff_.l1 x y q ((i:Int) - 1):=by
 show ff_.b1 x y _ _=_
 unfold ff_.b1
 rw [iP (by omega),iP (by simpa using h),wr_i64_id (by omega) (by omega)]
theorem cmp_stop (x y:List Int)(q i:Nat)(hi:i<4)(h:rd x i≠rd y i):ff_.l1 x y (q+1) (i:Int)=some (if rd x i<rd y i then -1 else 1):=by
 show ff_.b1 x y _ _=_
 unfold ff_.b1
 rw [iP (by omega),iN (by simpa using h)]
 unfold ff_.j1
 rw [iP (by omega)]
 by_cases c:rd x i<rd y i
 ·rw [iP (by simpa using c),iP c]
 ·rw [iN (by simpa using c),iN c]
theorem cmp_eq (k:Nat){a b:List Int}(ha:Wd a)(hb:Wd b):ff_.f (k+5) a b=some (cmpI (wv a) (wv b)):=by
 unfold ff_.f cmpI
 by_cases e:a=b
 ·subst e
  rw [iP (by simp),iP rfl]
 rw [iN (by simpa using e),iN (fun h=>e (ha.inj hb h))]
 obtain ⟨a0,a1,a2,a3,rfl,h0,h1,h2,h3⟩:=ha.lanes
 obtain ⟨b0,b1,b2,b3,rfl,k0,k1,k2,k3⟩:=hb.lanes
 have r0:∀ x0 x1 x2 x3:Int,rd [x0,x1,x2,x3] ((0:Nat):Int)=x0:=fun _ _ _ _=>rfl
 have r1:∀ x0 x1 x2 x3:Int,rd [x0,x1,x2,x3] ((1:Nat):Int)=x1:=fun _ _ _ _=>rfl
 have r2:∀ x0 x1 x2 x3:Int,rd [x0,x1,x2,x3] ((2:Nat):Int)=x2:=fun _ _ _ _=>rfl
 have r3:∀ x0 x1 x2 x3:Int,rd [x0,x1,x2,x3] ((3:Nat):Int)=x3:=fun _ _ _ _=>rfl
 have goal:∀ (p q:Int),(p<q↔wv [a0,a1,a2,a3]<wv [b0,b1,b2,b3])→some (if p<q then (-1:Int) else 1)=some (if wv [a0,a1,a2,a3]<wv [b0,b1,b2,b3] then -1 else 1):=fun p q h=>by
  by_cases c:p<q
  ·rw [iP c,iP (h.1 c)]
  ·rw [iN c,iN (fun u=>c (h.2 u))]
 simp only [wv_lanes] at goal ⊢
 rw [show (ff_.l1 [a0,a1,a2,a3] [b0,b1,b2,b3] (k+5) 3)=ff_.l1 [a0,a1,a2,a3] [b0,b1,b2,b3] (k+4+1) ((3:Nat):Int) from rfl]
 by_cases c3:a3=b3
 ·rw [cmp_step [a0,a1,a2,a3] [b0,b1,b2,b3] _ 3 (by omega) c3,show (((3:Nat):Int) - 1)=((2:Nat):Int) from rfl,show k+4=k+3+1 from rfl]
  by_cases c2:a2=b2
  ·rw [cmp_step [a0,a1,a2,a3] [b0,b1,b2,b3] _ 2 (by omega) c2,show (((2:Nat):Int) - 1)=((1:Nat):Int) from rfl,show k+3=k+2+1 from rfl]
   by_cases c1:a1=b1
   ·rw [cmp_step [a0,a1,a2,a3] [b0,b1,b2,b3] _ 1 (by omega) c1,show (((1:Nat):Int) - 1)=((0:Nat):Int) from rfl,show k+2=k+1+1 from rfl]
    by_cases c0:a0=b0
    ·exact absurd (by rw [c0,c1,c2,c3]) e
    ·rw [cmp_stop [a0,a1,a2,a3] [b0,b1,b2,b3] _ 0 (by omega) c0,r0,r0]; exact goal _ _ (by omega)
   ·rw [cmp_stop [a0,a1,a2,a3] [b0,b1,b2,b3] _ 1 (by omega) c1,r1,r1]; exact goal _ _ (by omega)
  ·rw [cmp_stop [a0,a1,a2,a3] [b0,b1,b2,b3] _ 2 (by omega) c2,r2,r2]; exact goal _ _ (by omega)
 ·rw [cmp_stop [a0,a1,a2,a3] [b0,b1,b2,b3] _ 3 (by omega) c3,r3,r3]; exact goal _ _ (by omega)
theorem cmpI_lt (a b:Int):decide (cmpI a b<0)=decide (a<b):=by
 unfold cmpI
 by_cases h:a=b
 ·subst h; simp
 ·rw [iN h]
  by_cases k:a<b
  ·rw [iP k]; simp [k]
  ·rw [iN k]; simp [k]
theorem cmpD_loop {x y:List Int}(hx:Dig 256 x)(hy:Dig 256 y)(hxl:x.length=32)(hyl:y.length=32):∀ (r q:Nat),r≤32→r<q→(∀ j,r≤j→x.getD j 0=y.getD j 0)→fb8_.l1 x y q ((r:Int) - 1)=some (cmpI (dv 256 x) (dv 256 y))
 | 0,q,hr,hq,h=>by
  obtain ⟨q,rfl⟩:∃ m,q=m+1:=⟨q - 1,by omega⟩
  show fb8_.b1 x y _ _=_
  unfold fb8_.b1 fb8_.j1
  rw [iN (by simp),dv_ext 256 x y (fun j=>h j (by omega))]
  simp [cmpI]
 | r+1,q,hr,hq,h=>by
  obtain ⟨q,rfl⟩:∃ m,q=m+1:=⟨q - 1,by omega⟩
  rw [show ((r+1:Nat):Int) - 1=(r:Int) from by omega]
  show fb8_.b1 x y _ _=_
  unfold fb8_.b1
  rw [iP (by simp),iP (by omega),rd_getD,rd_getD]
  by_cases c:x.getD r 0<y.getD r 0
  ·rw [iP (by simpa using c)]
   have:=dv_at (by omega) hx hy r (fun j hj=>h j (by omega)) c
   unfold cmpI
   rw [iN (by omega),iP this]
  rw [iN (by simpa using c)]
  by_cases c2:y.getD r 0<x.getD r 0
  ·rw [iP (by simpa using c2)]
   have:=dv_at (by omega) hy hx r (fun j hj=>(h j (by omega)).symm) c2
   unfold cmpI
   rw [iN (by omega),iN (by omega)]
  rw [iN (by simpa using c2),wr_i64_id (by omega) (by omega)]
  refine cmpD_loop hx hy hxl hyl r q (by omega) (by omega) (fun j hj=>?_)
  by_cases e:j=r
  ·subst e; omega
  ·exact h j (by omega)
theorem cmpD_eq (k:Nat){x y:List Int}(hx:Dig 256 x)(hy:Dig 256 y)(hxl:x.length=32)(hyl:y.length=32):fb8_.f (k+40) x y=some (cmpI (dv 256 x) (dv 256 y)) :=
 cmpD_loop hx hy hxl hyl 32 (k+40) (by omega) (by omega) (fun j hj=>by rw [List.getD_eq_getElem?_getD,List.getD_eq_getElem?_getD,List.getElem?_eq_none (by omega),List.getElem?_eq_none (by omega)])
theorem gt_atG {α:Type} [Inhabited α] (xs:List α){i:Int}(h0:0≤i)(h1:i<xs.length):gt xs i∈xs:=by
 unfold gt
 have h:i.toNat<xs.length:=by omega
 rw [List.getD_eq_getElem?_getD,List.getElem?_eq_getElem h]
 exact List.getElem_mem h
theorem gt_natG {α:Type} [Inhabited α] (xs:List α){i:Nat}(h1:i<xs.length):gt xs (i:Int)=xs[i]:=by
 unfold gt
 rw [Int.toNat_natCast,List.getD_eq_getElem?_getD,List.getElem?_eq_getElem h1]; rfl
theorem lessD_eq (k:Nat){a b:List Int}(ha:Wd a)(hb:Wd b):fd6_.f (k+40) a b=some (decide (wv a<wv b)):=by
 obtain ⟨d,d1,d2,d3,d4⟩:=ofD_eq k ha
 obtain ⟨e,e1,e2,e3,e4⟩:=ofD_eq k hb
 unfold fd6_.f
 rw [d1,oB,e1,oB,cmpD_eq k d3 e3 d2 e2,oB,cmpI_lt,d4,e4]
def SortS (l:List (List Int×List Int)):Prop:=l.Pairwise (fun a b=>wv a.1<wv b.1)∧∀ s∈l,s.2≠[0,0,0,0]
theorem pair_of_adj {α:Type}{R:α→α→Prop}(ht:∀ a b c,R a b→R b c→R a c):∀ (l:List α),(∀ i (h:i+1<l.length),R l[i] l[i+1])→l.Pairwise R
 | [],_=>List.Pairwise.nil
 | [a],_=>List.pairwise_singleton _ _
 | a::b::l,h=>by
  have h1:=pair_of_adj ht (b::l) (fun i hi=>h (i+1) (by simp at hi ⊢; omega))
  refine List.pairwise_cons.2 ⟨fun c hc=>?_,h1⟩
  have h0:R a b:=h 0 (by simp)
  rcases List.mem_cons.1 hc with rfl | hc
  ·exact h0
  ·exact ht _ _ _ h0 ((List.pairwise_cons.1 h1).1 c hc)
theorem rightD_loop (k:Nat)(x:L39)(hx:Gd37 x.2.2.2.2):∀ (r q i:Nat),i+r=x.2.2.2.2.length→r<q→∃ b,fc5_.l1 (k+40) x q (i:Int)=some b∧(b=true→∀ j,i≤j→(h:j<x.2.2.2.2.length)→x.2.2.2.2[j].2≠[0,0,0,0]∧(0<j→wv (gt x.2.2.2.2 ((j:Int) - 1)).1<wv x.2.2.2.2[j].1))
 | 0,q,i,hi,hq=>by
  obtain ⟨q,rfl⟩:∃ m,q=m+1:=⟨q - 1,by omega⟩
  refine ⟨true,?_,fun _ j h1 h2=>by omega⟩
  show fc5_.b1 _ _ _ _=_
  unfold fc5_.b1
  rw [iN (by simp; omega)]; rfl
 | r+1,q,i,hi,hq=>by
  obtain ⟨q,rfl⟩:∃ m,q=m+1:=⟨q - 1,by omega⟩
  have hm:=hx.2
  simp only [maxLen] at hm
  have hw:wr .i64 ((i:Int)+1)=((i+1:Nat):Int):=by rw [wr_i64_id (by omega) (by omega)]; omega
  obtain ⟨b,ih2,ih3⟩:=rightD_loop k x hx r q (i+1) (by omega) (by omega)
  have hc:decide ((i:Int)<((x.2.2.2.2).length:Int))=true:=dT (by omega)
  have hb:(0:Int)≤(i:Int)∧(i:Int)<((x.2.2.2.2).length:Int):=by omega
  have hil:i<x.2.2.2.2.length:=by omega
  have e2:fc5_.l1 (k+40) x (q+1) (i:Int)=fc5_.b1 (k+40) x (fc5_.l1 (k+40) x q) (i:Int):=rfl
  rw [e2]
  unfold fc5_.b1
  rw [iP hc,iP hb]
  by_cases c:(gt x.2.2.2.2 (i:Int)).2=[0,0,0,0]
  ·rw [dT c,iP rfl]
   exact ⟨false,rfl,fun h=>by cases h⟩
  ·rw [dF c,iN (show ¬ (false=true) by simp)]
   have j2:∀ t,fc5_.j2 (i:Int) (fc5_.l1 (k+40) x q) t=if t=true then some false else some b:=fun t=>by
    unfold fc5_.j2; rw [hw,ih2]
   have c':=c
   rw [gt_natG x.2.2.2.2 hil] at c'
   by_cases c0:0<i
   ·have h0:decide ((0:Int)<(i:Int))=true:=dT (by omega)
    have hp:wr .i64 ((i:Int) - 1)=(i:Int) - 1:=wr_i64_id (by omega) (by omega)
    rw [iP h0,hp,iP (by omega)]
    have g1:=(hx.1 _ (gt_atG x.2.2.2.2 (i:=(i:Int) - 1) (by omega) (by omega))).1
    have g2:=(hx.1 _ (gt_atG x.2.2.2.2 (i:=(i:Int)) (by omega) (by omega))).1
    have w1:Wd (gt x.2.2.2.2 ((i:Int) - 1)).1:=g1
    have w2:Wd (gt x.2.2.2.2 (i:Int)).1:=g2
    rw [lessD_eq k w1 w2,oB,j2]
    by_cases c3:wv (gt x.2.2.2.2 ((i:Int) - 1)).1<wv (gt x.2.2.2.2 (i:Int)).1
    ·rw [dT c3,iN (by simp)]
     refine ⟨b,rfl,fun hb j h1 h2=>?_⟩
     rcases Nat.eq_or_lt_of_le h1 with h1 | h1
     ·subst h1
      rw [gt_natG x.2.2.2.2 hil] at c3
      exact ⟨c',fun _=>c3⟩
     ·exact ih3 hb j h1 h2
    ·rw [dF c3,iP (by simp)]
     exact ⟨false,rfl,fun h=>by cases h⟩
   ·have h0:decide ((0:Int)<(i:Int))=false:=dF (by omega)
    rw [h0,iN (show ¬ (false=true) by simp),j2,iN (show ¬ (false=true) by simp)]
    refine ⟨b,rfl,fun hb j h1 h2=>?_⟩
    rcases Nat.eq_or_lt_of_le h1 with h1 | h1
    ·subst h1
     exact ⟨c',fun h=>absurd h c0⟩
    ·exact ih3 hb j h1 h2
theorem rightD_eq (k:Nat)(x:L39)(hx:Gd37 x.2.2.2.2)(hk:x.2.2.2.2.length<k+40):∃ b,fc5_.f (k+40) x=some b∧(b=true→SortS x.2.2.2.2):=by
 obtain ⟨b,h1,h2⟩:=rightD_loop k x hx x.2.2.2.2.length (k+40) 0 (by omega) (by omega)
 refine ⟨b,h1,fun hb=>⟨pair_of_adj (fun a b c=>by omega) _ fun i hi=>?_,fun s hs=>?_⟩⟩
 ·have h3:=(h2 hb (i+1) (by omega) hi).2 (by omega)
  have e:(((i+1:Nat):Int) - 1)=((i:Nat):Int):=by omega
  rw [e,gt_natG _ (by omega)] at h3
  exact h3
 ·obtain ⟨i,hi,rfl⟩:=List.mem_iff_getElem.1 hs
  exact (h2 hb i (by omega) hi).1
theorem right14_loop (k:Nat)(l:List L39)(hg:∀ a∈l,Gd37 a.2.2.2.2∧a.2.2.2.2.length≤100)(hk:100<k+40)(hl:l.length≤50):∀ (r q i:Nat),i+r=l.length→r<q→∃ b,fd1_.l1 (k+40) l q (i:Int)=some b∧(b=true→∀ a∈l.drop i,SortS a.2.2.2.2)
 | 0,q,i,hi,hq=>by
  obtain ⟨q,rfl⟩:∃ m,q=m+1:=⟨q - 1,by omega⟩
  refine ⟨true,?_,fun _ a ha=>by rw [List.drop_eq_nil_of_le (by omega)] at ha; cases ha⟩
  show fd1_.b1 _ _ _ _=_
  unfold fd1_.b1
  rw [iN (by simp; omega)]; rfl
 | r+1,q,i,hi,hq=>by
  obtain ⟨q,rfl⟩:∃ m,q=m+1:=⟨q - 1,by omega⟩
  have hw:wr .i64 ((i:Int)+1)=((i+1:Nat):Int):=by rw [wr_i64_id (by omega) (by omega)]; omega
  obtain ⟨b,ih,ih2⟩:=right14_loop k l hg hk hl r q (i+1) (by omega) (by omega)
  have hil:i<l.length:=by omega
  have e2:fd1_.l1 (k+40) l (q+1) (i:Int)=fd1_.b1 (k+40) l (fd1_.l1 (k+40) l q) (i:Int):=rfl
  rw [e2]
  unfold fd1_.b1
  rw [iP (by simp; omega),iP (by omega),gt_natG l hil]
  obtain ⟨h1,h2⟩:=hg l[i] (List.getElem_mem hil)
  obtain ⟨b2,c1,c2⟩:=rightD_eq k l[i] h1 (by omega)
  rw [c1,oB,hw,ih]
  cases b2 with
  | false=>exact ⟨false,rfl,fun h=>by cases h⟩
  | true =>
   refine ⟨b,rfl,fun hb a ha=>?_⟩
   rw [List.drop_eq_getElem_cons hil] at ha
   rcases List.mem_cons.1 ha with rfl | ha
   ·exact c2 rfl
   ·exact ih2 hb a ha
def Right14 (l:List L39):Prop:=l.length≤50∧∀ a∈l,SmallA a∧SortS a.2.2.2.2
theorem right14_eq (k:Nat)(l:List L39)(hg:∀ a∈l,Gd39 a)(hk:100<k):∃ b,fd1_.f (k+40) l=some b∧(b=true→Right14 l):=by
 unfold fd1_.f
 rcases great13 l (k+40) (by omega) with h | ⟨h,h1,h2⟩
 ·rw [h]; exact ⟨false,rfl,fun h=>by cases h⟩
 ·rw [h,oB,iN (by simp)]
  obtain ⟨b,c1,c2⟩:=right14_loop k l (fun a ha=>⟨(hg a ha).2.2.2.2,(h2 a ha).2⟩) (by omega) h1 l.length (k+40) 0 (by omega) (by omega)
  exact ⟨b,c1,fun hb=>⟨h1,fun a ha=>⟨h2 a ha,c2 hb a (by simpa using ha)⟩⟩⟩
theorem list_loop (xs:List L39)(a:List Int)(hl:xs.length<4611686018427387904):∀ (l:List L39) (q i:Nat),xs.drop i=l→i≤xs.length→l.length<q→fc4_.l1 xs a q (i:Int)=some (match findA l a with | some x=>(x,true) | none=>((a,0,[0,0,0,0],[],[]),true))
 | [],q,i,hd,hi,hq=>by
  obtain ⟨q,rfl⟩:∃ m,q=m+1:=⟨q - 1,by omega⟩
  have:xs.length≤i:=by simpa using hd
  show fc4_.b1 _ _ _ _=_
  unfold fc4_.b1
  rw [iN (by simp; omega)]; rfl
 | x::l,q,i,hd,hi,hq=>by
  simp only [List.length_cons] at hq
  obtain ⟨q,rfl⟩:∃ m,q=m+1:=⟨q - 1,by omega⟩
  obtain ⟨h1,h2,h3⟩:=gt_dropA hd
  show fc4_.b1 _ _ _ _=_
  unfold fc4_.b1 findA
  rw [iP (by simp; omega),iP (by omega),h1]
  by_cases c:x.1=a
  ·rw [dT c,iP rfl,iP c]
  ·rw [dF c,iN (by simp),iN c,next1 i (by omega)]
   exact list_loop xs a hl l q (i+1) h3 (by omega) (by omega)
def baseA (l:List L39)(a:List Int):L39:=match findA l a with | some x=>x | none=>(a,0,[0,0,0,0],[],[])
theorem list_eq (l:List L39)(a:List Int)(k:Nat)(hk:l.length<k)(hl:l.length<4611686018427387904):fc4_.f k l a=some (baseA l a,true):=by
 have h:=list_loop l a hl l k 0 rfl (by omega) hk
 unfold baseA
 cases hf:findA l a with
 | some x=>rw [hf] at h; exact h
 | none=>rw [hf] at h; exact h
theorem baseA_fst (l:List L39)(a:List Int):(baseA l a).1=a:=by
 unfold baseA
 cases hf:findA l a with
 | some x=>exact (findA_mem hf).2
 | none=>rfl
theorem stateList_loop (l:List L39)(hl:l.length≤50)(hs:∀ a∈l,SmallA a):∀ (r q i:Nat),i+r=l.length→r<q→ff6_.l1 l q (l.take i) (i:Int)=some l
 | 0,q,i,hi,hq=>by
  obtain ⟨q,rfl⟩:∃ m,q=m+1:=⟨q - 1,by omega⟩
  show ff6_.b1 _ _ _ _=_
  unfold ff6_.b1
  rw [iN (by simp; omega),List.take_of_length_le (by omega)]; rfl
 | r+1,q,i,hi,hq=>by
  obtain ⟨q,rfl⟩:∃ m,q=m+1:=⟨q - 1,by omega⟩
  have hil:i<l.length:=by omega
  have hw:wr .i64 ((i:Int)+1)=((i+1:Nat):Int):=by rw [wr_i64_id (by omega) (by omega)]; omega
  obtain ⟨s1,s2⟩:=hs l[i] (List.getElem_mem hil)
  show ff6_.b1 _ _ _ _=_
  unfold ff6_.b1 fa9_.f ff0_.f
  rw [iP (by simp; omega),iP (by omega),gt_natG l hil,iP (by simp only [List.length_nil]; omega),oB,iP (by simp only [List.length_nil]; omega),oB,
   iP (by simp only [List.length_take,List.length_cons,List.length_nil]; omega),hw]
  have e:l.take i++[((l[i]).1,(l[i]).2.1,(l[i]).2.2.1,[]++(l[i]).2.2.2.1,[]++(l[i]).2.2.2.2)]=l.take (i+1):=by
   rw [List.take_succ_eq_append_getElem hil]; rfl
  rw [e]
  exact stateList_loop l hl hs r q (i+1) (by omega) (by omega)
theorem stateList_eq (l:List L39)(hl:l.length≤50)(hs:∀ a∈l,SmallA a)(k:Nat)(hk:50<k):ff6_.f k l=some l:=stateList_loop l hl hs l.length k 0 (by omega) (by omega)
section
variable {α:Type} [Inhabited α]
theorem at_toArray (xs:List α)(i:Nat):xs.toArray[i]! = gt xs (i:Int):=by
 unfold gt
 rw [Int.toNat_natCast,List.getD_eq_getElem?_getD]
 by_cases h:i<xs.length
 ·rw [getElem!_pos xs.toArray i (by simpa using h),List.getElem?_eq_getElem h]; simp
 ·rw [getElem!_neg xs.toArray i (by simpa using h),List.getElem?_eq_none (by omega)]; rfl
theorem swp_toArray (xs:List α)(i j:Nat):Sort.swp xs.toArray i j=((xs.set i (gt xs (j:Int))).set j (gt xs (i:Int))).toArray:=by
 unfold Sort.swp
 rw [at_toArray,at_toArray]
 simp
theorem swp_len (xs:List α)(i j:Nat):(Sort.swp xs.toArray i j).toList.length=xs.length:=by rw [swp_toArray]; simp
theorem insInner_size (lt:α→α→Bool)(a:Nat):∀ (j:Nat) (d:Array α),(Sort.insInner lt a j d).size=d.size
 | 0,d=>rfl
 | j+1,d=>by
  unfold Sort.insInner
  split
  ·rw [insInner_size lt a j]; simp [Sort.swp]
  ·rfl
end
def ltC {α:Type}(cf:α→α→Int)(x y:α):Bool:=decide (cf x y<0)
section
variable {g:SortG} {K:Nat} {cf:g.α→g.α→Int} (hC:∀ x y,g.cmp K x y=some (cf x y))
include hC
theorem ins_inner (a:Nat)(y2:Int)(rec1:List g.α→Int→Option (List g.α)):∀ (j q:Nat) (xs:List g.α),j<xs.length→xs.length<4611686018427387904→j<q →
  fa5_.l2 g K (a:Int) y2 rec1 q xs (j:Int)=fa5_.j1 g y2 rec1 (Sort.insInner (ltC cf) a j xs.toArray).toList
 | 0,q,xs,hj,hl,hq=>by
  obtain ⟨q,rfl⟩:∃ m,q=m+1:=⟨q - 1,by omega⟩
  show fa5_.b2 g K _ _ _ _ _ _=_
  unfold fa5_.b2
  rw [iN (by simp)]
  rfl
 | j+1,q,xs,hj,hl,hq=>by
  obtain ⟨q,rfl⟩:∃ m,q=m+1:=⟨q - 1,by omega⟩
  have hw:wr .i64 (((j+1:Nat):Int) - 1)=(j:Int):=by rw [wr_i64_id (by omega) (by omega)]; omega
  show fa5_.b2 g K _ _ _ _ _ _=_
  unfold fa5_.b2 Sort.insInner
  rw [hw]
  by_cases c:a<j+1
  ·rw [iP (dT (by omega)),iP (by omega),iP (by omega),hC,oB]
   unfold fa5_.j2
   rw [at_toArray,at_toArray]
   by_cases c2:cf (gt xs ((j+1:Nat):Int)) (gt xs (j:Int))<0
   ·rw [iP (dT c2),hw,iP (by omega),iP (by omega),iP (by rw [List.length_set]; omega),show ltC cf (gt xs ((j+1:Nat):Int)) (gt xs (j:Int))=true from dT c2,iP (by simpa using c)]
    rw [Int.toNat_natCast,Int.toNat_natCast,ins_inner a y2 rec1 j q _ (by simp; omega) (by simpa using hl) (by omega),swp_toArray]
   ·rw [iN (by simpa using c2),show ltC cf (gt xs ((j+1:Nat):Int)) (gt xs (j:Int))=false from dF c2,iN (by simp)]
  ·rw [iN (by simp; omega),iN (by simp; omega)]
   rfl
theorem ins_outer (a b:Nat):∀ (r i q:Nat) (xs:List g.α),b≤i+r→b≤xs.length→i<4611686018427387904→xs.length<4611686018427387904→xs.length<K→r<q →
  fa5_.l1 g K (a:Int) (b:Int) q xs (i:Int)=some (Sort.insOuter (ltC cf) a b i xs.toArray).toList
 | r,i,q,xs,hi,hb,hi2,hl,hk,hq=>by
  obtain ⟨q,rfl⟩:∃ m,q=m+1:=⟨q - 1,by omega⟩
  show fa5_.b1 g _ _ _ _ _ _=_
  unfold fa5_.b1
  rw [Sort.insOuter]
  by_cases c:i<b
  ·rw [iP (dT (by omega)),iP c]
   obtain ⟨r,rfl⟩:∃ m,r=m+1:=⟨r - 1,by omega⟩
   rw [ins_inner hC a _ _ i K xs (by omega) hl (by omega)]
   unfold fa5_.j1
   have hs:=insInner_size (ltC cf) a i xs.toArray
   have hs':(Sort.insInner (ltC cf) a i xs.toArray).toList.length=xs.length:=by simpa using hs
   rw [show wr .i64 ((i:Int)+1)=((i+1:Nat):Int) by rw [wr_i64_id (by omega) (by omega)]; omega]
   rw [ins_outer a b r (i+1) q _ (by omega) (by omega) (by omega) (by omega) (by omega) (by omega)]
  ·rw [iN (by simp; omega),iN c]
theorem ins_eq (a b:Nat)(xs:List g.α)(ha:a≤b)(hb:b≤xs.length)(hl:xs.length<4611686018427387904 - 1)(hk:xs.length+1<K) :
  fa5_.f g K xs (a:Int) (b:Int)=some (Sort.insertionSort (ltC cf) xs.toArray a b).toList:=by
 unfold fa5_.f
 rw [show wr .i64 ((a:Int)+1)=((a+1:Nat):Int) by rw [wr_i64_id (by omega) (by omega)]; omega]
 exact ins_outer hC a b b (a+1) K xs (by omega) hb (by omega) (by omega) (by omega) (by omega)
end
theorem siftDown_size {α:Type} [Inhabited α] (lt:α→α→Bool)(hi first:Nat):∀ (r root:Nat) (d:Array α),hi≤root+r→(Sort.siftDown lt hi first root d).size=d.size
 | r,root,d,h=>by
  rw [Sort.siftDown]
  by_cases c:2*root+1≥hi
  ·rw [dif_pos c]
  ·rw [dif_neg c]
   obtain ⟨r,rfl⟩:∃ m,r=m+1:=⟨r - 1,by omega⟩
   split
   ·split
    ·rfl
    ·split
     ·rw [siftDown_size lt hi first r _ _ (by omega)]; simp [Sort.swp]
     ·rfl
   ·split
    ·rfl
    ·rw [siftDown_size lt hi first r _ _ (by omega)]; simp [Sort.swp]
theorem heapBuild_size {α:Type} [Inhabited α] (lt:α→α→Bool)(hi first:Nat):∀ (n:Nat) (d:Array α),(Sort.heapBuild lt hi first n d).size=d.size
 | 0,d=>rfl
 | n+1,d=>by
  show (Sort.heapBuild lt hi first n (Sort.siftDown lt hi first n d)).size=_
  rw [heapBuild_size lt hi first n,siftDown_size lt hi first hi n d (by omega)]
theorem wrn {x:Int}(n:Nat)(h:x=(n:Int))(hn:n<9223372036854775808):wr .i64 x=(n:Int):=by rw [h,wr_i64_id (by omega) (by omega)]
section
variable {g:SortG} {K:Nat} {cf:g.α→g.α→Int} (hC:∀ x y,g.cmp K x y=some (cf x y))
include hC
theorem sift_j1 (first root c:Nat)(xs:List g.α)(rec1:List g.α→Int→Option (List g.α))(hl:xs.length<2305843009213693952)(h1:first+root<xs.length)(h2:first+c<xs.length) :
  fc0_.j1 g K (first:Int) xs (root:Int) rec1 (c:Int)=if ltC cf (gt xs ((first+root:Nat):Int)) (gt xs ((first+c:Nat):Int))=true then rec1 (Sort.swp xs.toArray (first+root) (first+c)).toList (c:Int) else some xs:=by
 have f1:wr .i64 ((first:Int)+(root:Int))=((first+root:Nat):Int):=wrn _ (by omega) (by omega)
 have f2:wr .i64 ((first:Int)+(c:Int))=((first+c:Nat):Int):=wrn _ (by omega) (by omega)
 unfold fc0_.j1
 simp only [f1,f2]
 rw [iP (by omega),iP (by omega),hC,oB]
 by_cases c2:cf (gt xs ((first+root:Nat):Int)) (gt xs ((first+c:Nat):Int))<0
 ·rw [dT c2,show ltC cf (gt xs ((first+root:Nat):Int)) (gt xs ((first+c:Nat):Int))=true from dT c2,iN (by simp),iP rfl,iP (by rw [List.length_set]; omega)]
  rw [Int.toNat_natCast,Int.toNat_natCast,swp_toArray]
 ·rw [dF c2,show ltC cf (gt xs ((first+root:Nat):Int)) (gt xs ((first+c:Nat):Int))=false from dF c2,iP (by simp),iN (by simp)]
theorem sift_eq (hi first:Nat):∀ (r root q:Nat) (xs:List g.α),hi≤root+r→r<q→first+hi≤xs.length→xs.length<2305843009213693952→root<4000000000000000000 →
  fc0_.l1 g K (hi:Int) (first:Int) q xs (root:Int)=some (Sort.siftDown (ltC cf) hi first root xs.toArray).toList
 | r,root,q,xs,h,hq,hb,hl,h0=>by
  obtain ⟨q,rfl⟩:∃ m,q=m+1:=⟨q - 1,by omega⟩
  rw [Sort.siftDown]
  have e0:wr .i64 (2*(root:Int))=((2*root:Nat):Int):=wrn _ (by omega) (by omega)
  have e1:wr .i64 (((2*root:Nat):Int)+1)=((2*root+1:Nat):Int):=wrn _ (by omega) (by omega)
  have e2:wr .i64 (((2*root+1:Nat):Int)+1)=((2*root+1+1:Nat):Int):=wrn _ (by omega) (by omega)
  show fc0_.b1 g K _ _ _ _ _=_
  unfold fc0_.b1
  by_cases c:2*root+1≥hi
  ·rw [dif_pos c]
   simp only [e0,e1]
   rw [iP (dT (by omega))]
  ·rw [dif_neg c]
   obtain ⟨r,rfl⟩:∃ m,r=m+1:=⟨r - 1,by omega⟩
   simp only [e0,e1,e2]
   rw [iN (by simp; omega)]
   simp only [at_toArray]
   have hj4:∀ b:Bool,fc0_.j2 g K (first:Int) xs (root:Int) (fc0_.l1 g K (hi:Int) (first:Int) q) b=fc0_.j1 g K (first:Int) xs (root:Int) (fc0_.l1 g K (hi:Int) (first:Int) q) ((if b=true then 2*root+2 else 2*root+1:Nat):Int):=fun b=>by
    unfold fc0_.j2
    simp only [e0,e1,e2]
    cases b <;> rfl
   by_cases c1:2*root+1+1<hi
   ·have f1:wr .i64 ((first:Int)+((2*root+1:Nat):Int))=((first+(2*root+1):Nat):Int):=wrn _ (by omega) (by omega)
    have f2:wr .i64 (((first+(2*root+1):Nat):Int)+1)=((first+(2*root+1)+1:Nat):Int):=wrn _ (by omega) (by omega)
    simp only [f1,f2]
    rw [iP (dT (by omega)),iP (by omega),iP (by omega),hC,oB,hj4]
    by_cases c2:cf (gt xs ((first+(2*root+1):Nat):Int)) (gt xs ((first+(2*root+1)+1:Nat):Int))<0
    ·rw [dT c2,show ltC cf (gt xs ((first+(2*root+1):Nat):Int)) (gt xs ((first+(2*root+1)+1:Nat):Int))=true from dT c2,iP rfl,iP (by simpa using c1),sift_j1 hC first root (2*root+2) xs _ hl (by omega) (by omega)]
     cases h3:ltC cf (gt xs ((first+root:Nat):Int)) (gt xs ((first+(2*root+2):Nat):Int)) with
     | true =>
      rw [iP rfl,iN (by simp),dif_pos (by omega),sift_eq hi first r (2*root+2) q _ (by omega) (by omega) (by rw [swp_len]; omega) (by rw [swp_len]; omega) (by omega)]
     | false=>rw [iN (by simp),iP (by simp)]
    ·rw [dF c2,show ltC cf (gt xs ((first+(2*root+1):Nat):Int)) (gt xs ((first+(2*root+1)+1:Nat):Int))=false from dF c2,iN (show ¬ (false=true) by simp),iN (by simp),sift_j1 hC first root (2*root+1) xs _ hl (by omega) (by omega)]
     cases h3:ltC cf (gt xs ((first+root:Nat):Int)) (gt xs ((first+(2*root+1):Nat):Int)) with
     | true =>
      rw [iP rfl,iN (by simp),sift_eq hi first r (2*root+1) q _ (by omega) (by omega) (by rw [swp_len]; omega) (by rw [swp_len]; omega) (by omega)]
     | false=>rw [iN (by simp),iP (by simp)]
   ·rw [iN (by simp; omega),hj4,iN (show ¬ (false=true) by simp),iN (by simp; omega),sift_j1 hC first root (2*root+1) xs _ hl (by omega) (by omega)]
    cases h3:ltC cf (gt xs ((first+root:Nat):Int)) (gt xs ((first+(2*root+1):Nat):Int)) with
    | true =>
     rw [iP rfl,iN (by simp),sift_eq hi first r (2*root+1) q _ (by omega) (by omega) (by rw [swp_len]; omega) (by rw [swp_len]; omega) (by omega)]
    | false=>rw [iN (by simp),iP (by simp)]
theorem siftf_eq (hi first root:Nat)(xs:List g.α)(hk:hi+1<K)(hb:first+hi≤xs.length)(hl:xs.length<2305843009213693952)(h0:root<4000000000000000000) :
  fc0_.f g K xs (root:Int) (hi:Int) (first:Int)=some (Sort.siftDown (ltC cf) hi first root xs.toArray).toList:=sift_eq hC hi first hi root K xs (by omega) (by omega) hb hl h0
theorem heap_build (a b:Nat)(hab:a≤b)(hk:b+1<K):∀ (n q:Nat) (xs:List g.α),n<q→n<4000000000000000000→b≤xs.length→xs.length<2305843009213693952 →
  fc1_.l2 g K (a:Int) (b:Int) q xs ((n:Int) - 1)=fc1_.j1 g K (a:Int) (b:Int) (Sort.heapBuild (ltC cf) (b - a) a n xs.toArray).toList
 | 0,q,xs,hq,hn,hb,hl=>by
  obtain ⟨q,rfl⟩:∃ m,q=m+1:=⟨q - 1,by omega⟩
  show fc1_.b2 g _ _ _ _ _ _=_
  unfold fc1_.b2
  rw [iN (by simp)]
  rfl
 | n+1,q,xs,hq,hn,hb,hl=>by
  obtain ⟨q,rfl⟩:∃ m,q=m+1:=⟨q - 1,by omega⟩
  show fc1_.b2 g _ _ _ _ _ _=_
  unfold fc1_.b2
  have e0:((n+1:Nat):Int) - 1=(n:Int):=by omega
  have e1:wr .i64 ((b:Int) - (a:Int))=((b - a:Nat):Int):=wrn _ (by omega) (by omega)
  have e2:wr .i64 ((n:Int) - 1)=(n:Int) - 1:=wr_i64_id (by omega) (by omega)
  simp only [e0,e1,e2]
  have hs:=siftDown_size (ltC cf) (b - a) a (b - a) n xs.toArray (by omega)
  have hs':(Sort.siftDown (ltC cf) (b - a) a n xs.toArray).toList.length=xs.length:=by simpa using hs
  rw [iP (dT (by omega)),siftf_eq hC (b - a) a n xs (by omega) (by omega) hl (by omega),oB,heap_build a b hab hk n q _ (by omega) (by omega) (by omega) (by omega)]
  rfl
theorem heap_pop (a:Nat):∀ (n q:Nat) (xs:List g.α),n<q→n+1<K→a+n≤xs.length→xs.length<2305843009213693952 →
  fc1_.l1 g K (a:Int) q xs ((n:Int) - 1)=some (Sort.heapPop (ltC cf) a n xs.toArray).toList
 | 0,q,xs,hq,hk,hb,hl=>by
  obtain ⟨q,rfl⟩:∃ m,q=m+1:=⟨q - 1,by omega⟩
  show fc1_.b1 g _ _ _ _ _=_
  unfold fc1_.b1
  rw [iN (by simp)]
  rfl
 | n+1,q,xs,hq,hk,hb,hl=>by
  obtain ⟨q,rfl⟩:∃ m,q=m+1:=⟨q - 1,by omega⟩
  show fc1_.b1 g _ _ _ _ _=_
  unfold fc1_.b1
  have e0:((n+1:Nat):Int) - 1=(n:Int):=by omega
  have e1:wr .i64 ((a:Int)+(n:Int))=((a+n:Nat):Int):=wrn _ (by omega) (by omega)
  have e2:wr .i64 ((n:Int) - 1)=(n:Int) - 1:=wr_i64_id (by omega) (by omega)
  simp only [e0,e1]
  rw [iP (dT (by omega)),iP (by omega),iP (by omega),iP (by rw [List.length_set]; omega)]
  simp only [e2]
  have hw:((xs.set (Int.toNat (a:Int)) (gt xs ((a+n:Nat):Int))).set (Int.toNat ((a+n:Nat):Int)) (gt xs (a:Int)))=(Sort.swp xs.toArray a (a+n)).toList:=by rw [swp_toArray,Int.toNat_natCast,Int.toNat_natCast]
  rw [hw]
  have hl2:=swp_len xs a (a+n)
  have hs:=siftDown_size (ltC cf) n a n 0 (Sort.swp xs.toArray a (a+n)) (by omega)
  have hs':(Sort.siftDown (ltC cf) n a 0 (Sort.swp xs.toArray a (a+n))).toList.length=xs.length:=by
   have h3:(Sort.swp xs.toArray a (a+n)).size=xs.length:=by simpa using hl2
   rw [Array.length_toList,hs,h3]
  rw [show (0:Int)=((0:Nat):Int) from rfl,siftf_eq hC n a 0 _ (by omega) (by omega) (by omega) (by omega),oB,Array.toArray_toList,heap_pop a n q _ (by omega) (by omega) (by omega) (by omega)]
  rfl
theorem heap_eq (a b:Nat)(xs:List g.α)(ha:a≤b)(hb:b≤xs.length)(hl:xs.length<2305843009213693952)(hk:xs.length+5<K) :
  fc1_.f g K xs (a:Int) (b:Int)=some (Sort.heapSort (ltC cf) xs.toArray a b).toList:=by
 unfold fc1_.f Sort.heapSort
 have e1:wr .i64 ((b:Int) - (a:Int))=((b - a:Nat):Int):=wrn _ (by omega) (by omega)
 have e2:wr .i64 (((b - a:Nat):Int) - 1)=((b - a:Nat):Int) - 1:=wr_i64_id (by omega) (by omega)
 have e3:Int.tdiv (((b - a:Nat):Int) - 1) 2=((((b - a - 1) / 2+1:Nat):Int)) - 1:=by
  by_cases c:b=a
  ·subst c; simp
  ·rw [Int.tdiv_eq_ediv_of_nonneg (by omega)]; omega
 have e4:wr .i64 (((((b - a - 1) / 2+1:Nat):Int)) - 1)=((((b - a - 1) / 2+1:Nat):Int)) - 1:=wr_i64_id (by omega) (by omega)
 simp only [e1,e2,e3,e4]
 rw [heap_build hC a b ha (by omega) _ K xs (by omega) (by omega) hb hl]
 unfold fc1_.j1
 simp only [e1,e2]
 have hs:=heapBuild_size (ltC cf) (b - a) a ((b - a - 1) / 2+1) xs.toArray
 have hs':(Sort.heapBuild (ltC cf) (b - a) a ((b - a - 1) / 2+1) xs.toArray).toList.length=xs.length:=by simpa using hs
 rw [heap_pop hC a (b - a) K _ (by omega) (by omega) (by omega) (by omega)]
end
section
variable {α:Type} [Inhabited α]
theorem scanSorted_bd (lt:α→α→Bool)(d:Array α)(b:Nat):∀ (r i:Nat),b≤i+r→i≤Sort.scanSorted lt d b i∧(Sort.scanSorted lt d b i≤b∨Sort.scanSorted lt d b i=i)
 | r,i,h=>by
  rw [Sort.scanSorted]
  split
  ·rename_i c
   simp only [Bool.and_eq_true,decide_eq_true_eq] at c
   obtain ⟨r,rfl⟩:∃ m,r=m+1:=⟨r - 1,by omega⟩
   have:=scanSorted_bd lt d b r (i+1) (by omega)
   omega
  ·omega
theorem shiftDown_size (lt:α→α→Bool):∀ (j:Nat) (d:Array α),(Sort.shiftDown lt j d).size=d.size
 | 0,d=>rfl
 | j+1,d=>by
  unfold Sort.shiftDown
  split
  ·rfl
  ·rw [shiftDown_size lt j]; simp [Sort.swp]
theorem shiftUp_size (lt:α→α→Bool)(b:Nat):∀ (r j:Nat) (d:Array α),b≤j+r→(Sort.shiftUp lt b j d).size=d.size
 | r,j,d,h=>by
  rw [Sort.shiftUp]
  split
  ·obtain ⟨r,rfl⟩:∃ m,r=m+1:=⟨r - 1,by omega⟩
   split
   ·rfl
   ·rw [shiftUp_size lt b r (j+1) _ (by omega)]; simp [Sort.swp]
  ·rfl
end
section
variable {g:SortG} {K:Nat} {cf:g.α→g.α→Int} (hC:∀ x y,g.cmp K x y=some (cf x y))
include hC
theorem pins_up (b:Nat)(y44 y70:Int)(rec1:List g.α→Int→Int→Option (Bool×List g.α)):∀ (r j q:Nat) (xs:List g.α),b≤j+r→r<q→1≤j→b≤xs.length→xs.length<2305843009213693952→j<4000000000000000000 →
  fa_.l2 g K (b:Int) y44 rec1 y70 q xs (j:Int)=fa_.j2 g y44 rec1 (Sort.shiftUp (ltC cf) b j xs.toArray).toList y70
 | r,j,q,xs,h,hq,hj,hb,hl,h4=>by
  obtain ⟨q,rfl⟩:∃ m,q=m+1:=⟨q - 1,by omega⟩
  show fa_.b2 g K _ _ _ _ _ _ _=_
  unfold fa_.b2
  have e1:wr .i64 ((j:Int) - 1)=((j - 1:Nat):Int):=wrn _ (by omega) (by omega)
  have e2:wr .i64 ((j:Int)+1)=((j+1:Nat):Int):=wrn _ (by omega) (by omega)
  rw [Sort.shiftUp]
  simp only [e1]
  by_cases c:j<b
  ·obtain ⟨r,rfl⟩:∃ m,r=m+1:=⟨r - 1,by omega⟩
   rw [iP (show decide ((j:Int)<(b:Int))=true from dT (by omega)),iP c,iP (by omega),iP (by omega),hC,oB,at_toArray,at_toArray]
   by_cases c2:cf (gt xs (j:Int)) (gt xs ((j - 1:Nat):Int))<0
   ·rw [dT c2,show ltC cf (gt xs (j:Int)) (gt xs ((j - 1:Nat):Int))=true from dT c2,iN (show ¬ ((!true)=true) by simp),iN (show ¬ ((!true)=true) by simp),iP (by rw [List.length_set]; omega)]
    simp only [e2]
    have hw:((xs.set (Int.toNat (j:Int)) (gt xs ((j - 1:Nat):Int))).set (Int.toNat ((j - 1:Nat):Int)) (gt xs (j:Int)))=(Sort.swp xs.toArray j (j - 1)).toList:=by rw [swp_toArray,Int.toNat_natCast,Int.toNat_natCast]
    have hl2:=swp_len xs j (j - 1)
    rw [hw,pins_up b y44 y70 rec1 r (j+1) q _ (by omega) (by omega) (by omega) (by omega) (by omega) (by omega),Array.toArray_toList]
   ·rw [dF c2,show ltC cf (gt xs (j:Int)) (gt xs ((j - 1:Nat):Int))=false from dF c2,iP (by simp),iP (by simp)]
  ·rw [iN (show ¬ decide ((j:Int)<(b:Int))=true by simp; omega),iN c]
theorem pins_down (b:Nat)(y44 y70:Int)(rec1:List g.α→Int→Int→Option (Bool×List g.α)):∀ (j q:Nat) (xs:List g.α),j<xs.length→j<q→xs.length<2305843009213693952 →
  fa_.l3 g K (b:Int) y44 rec1 y70 q xs (j:Int)=fa_.j4 g K (b:Int) y44 rec1 y70 (Sort.shiftDown (ltC cf) j xs.toArray).toList
 | 0,q,xs,hj,hq,hl=>by
  obtain ⟨q,rfl⟩:∃ m,q=m+1:=⟨q - 1,by omega⟩
  show fa_.b3 g _ _ _ _ _ _ _ _=_
  unfold fa_.b3
  rw [iN (by simp)]
  rfl
 | j+1,q,xs,hj,hq,hl=>by
  obtain ⟨q,rfl⟩:∃ m,q=m+1:=⟨q - 1,by omega⟩
  show fa_.b3 g _ _ _ _ _ _ _ _=_
  unfold fa_.b3 Sort.shiftDown
  have e1:wr .i64 (((j+1:Nat):Int) - 1)=(j:Int):=wrn _ (by omega) (by omega)
  simp only [e1]
  rw [iP (show decide ((1:Int)≤((j+1:Nat):Int))=true from dT (by omega)),iP (by omega),iP (by omega),hC,oB,at_toArray,at_toArray]
  by_cases c2:cf (gt xs ((j+1:Nat):Int)) (gt xs (j:Int))<0
  ·rw [dT c2,show ltC cf (gt xs ((j+1:Nat):Int)) (gt xs (j:Int))=true from dT c2,iN (show ¬ ((!true)=true) by simp),iN (show ¬ ((!true)=true) by simp),iP (by rw [List.length_set]; omega)]
   have hw:((xs.set (Int.toNat ((j+1:Nat):Int)) (gt xs (j:Int))).set (Int.toNat (j:Int)) (gt xs ((j+1:Nat):Int)))=(Sort.swp xs.toArray (j+1) j).toList:=by rw [swp_toArray,Int.toNat_natCast,Int.toNat_natCast]
   have hl2:=swp_len xs (j+1) j
   rw [hw,pins_down b y44 y70 rec1 j q _ (by omega) (by omega) (by omega),Array.toArray_toList]
  ·rw [dF c2,show ltC cf (gt xs ((j+1:Nat):Int)) (gt xs (j:Int))=false from dF c2,iP (by simp),iP (by simp)]
theorem pins_scan (a b:Nat)(y44:Int)(xs:List g.α)(rec1:List g.α→Int→Int→Option (Bool×List g.α))(hb:b≤xs.length)(hl:xs.length<2305843009213693952):∀ (r i q:Nat),b≤i+r→r<q→1≤i→i<4000000000000000000 →
  fa_.l4 g K (a:Int) (b:Int) xs y44 rec1 q (i:Int)=fa_.j3 g K (a:Int) (b:Int) xs y44 rec1 ((Sort.scanSorted (ltC cf) xs.toArray b i:Nat):Int)
 | r,i,q,h,hq,hi,h4=>by
  obtain ⟨q,rfl⟩:∃ m,q=m+1:=⟨q - 1,by omega⟩
  show fa_.b4 g _ _ _ _ _ _ _ _=_
  unfold fa_.b4
  have e1:wr .i64 ((i:Int) - 1)=((i - 1:Nat):Int):=wrn _ (by omega) (by omega)
  have e2:wr .i64 ((i:Int)+1)=((i+1:Nat):Int):=wrn _ (by omega) (by omega)
  rw [Sort.scanSorted]
  simp only [e1]
  by_cases c:i<b
  ·obtain ⟨r,rfl⟩:∃ m,r=m+1:=⟨r - 1,by omega⟩
   rw [iP (show decide ((i:Int)<(b:Int))=true from dT (by omega)),iP (by omega),iP (by omega),hC,oB,at_toArray,at_toArray]
   unfold fa_.j5
   by_cases c2:cf (gt xs (i:Int)) (gt xs ((i - 1:Nat):Int))<0
   ·rw [dT c2,show ltC cf (gt xs (i:Int)) (gt xs ((i - 1:Nat):Int))=true from dT c2,iN (by simp),iN (by simp)]
   ·rw [dF c2,show ltC cf (gt xs (i:Int)) (gt xs ((i - 1:Nat):Int))=false from dF c2,iP (by simp),iP (by simpa using c),e2]
    exact pins_scan a b y44 xs rec1 hb hl r (i+1) q (by omega) (by omega) (by omega) (by omega)
  ·rw [iN (show ¬ decide ((i:Int)<(b:Int))=true by simp; omega),iN (by simp; omega)]
   unfold fa_.j5
   rw [iN (by simp)]
theorem pins_loop (a b:Nat)(hab:a<b):∀ (s i q:Nat) (xs:List g.α),s≤5→s<q→a<i→i≤b→b≤xs.length→xs.length<2305843009213693952→xs.length+5<K →
  fa_.l1 g K (a:Int) (b:Int) q xs ((5 - s:Nat):Int) (i:Int)=some ((Sort.partialIns (ltC cf) a b s i xs.toArray).2,(Sort.partialIns (ltC cf) a b s i xs.toArray).1.toList)
 | 0,i,q,xs,hs,hq,hi,hib,hb,hl,hk=>by
  obtain ⟨q,rfl⟩:∃ m,q=m+1:=⟨q - 1,by omega⟩
  show fa_.b1 g _ _ _ _ _ _ _=_
  unfold fa_.b1
  rw [iN (by simp)]
  rfl
 | s+1,i,q,xs,hs,hq,hi,hib,hb,hl,hk=>by
  obtain ⟨q,rfl⟩:∃ m,q=m+1:=⟨q - 1,by omega⟩
  show fa_.b1 g _ _ _ _ _ _ _=_
  unfold fa_.b1 Sort.partialIns
  rw [iP (show decide (((5 - (s+1):Nat):Int)<5)=true from dT (by omega)),pins_scan hC a b _ xs _ hb hl b i K (by omega) (by omega) (by omega) (by omega)]
  have hbd:=scanSorted_bd (ltC cf) xs.toArray b b i (by omega)
  generalize Sort.scanSorted (ltC cf) xs.toArray b i=i2 at hbd ⊢
  simp only []
  unfold fa_.j3
  have e1:wr .i64 ((i2:Int) - 1)=((i2 - 1:Nat):Int):=wrn _ (by omega) (by omega)
  have e2:wr .i64 ((b:Int) - (a:Int))=((b - a:Nat):Int):=wrn _ (by omega) (by omega)
  have e3:wr .i64 ((i2:Int) - (a:Int))=((i2 - a:Nat):Int):=wrn _ (by omega) (by omega)
  have e4:wr .i64 ((b:Int) - (i2:Int))=((b - i2:Nat):Int):=wrn _ (by omega) (by omega)
  have e5:wr .i64 ((i2:Int)+1)=((i2+1:Nat):Int):=wrn _ (by omega) (by omega)
  have e6:wr .i64 (((5 - (s+1):Nat):Int)+1)=((5 - s:Nat):Int):=wrn _ (by omega) (by omega)
  simp only [e1,e2]
  by_cases c1:i2=b
  ·rw [iP (show ((i2:Int)==(b:Int))=true by simp; omega),iP c1]
  ·rw [iN (show ¬ ((i2:Int)==(b:Int))=true by simp; omega),iN c1]
   by_cases c2:b - a<50
   ·rw [iP (show decide (((b - a:Nat):Int)<50)=true from dT (by omega)),iP c2]
   ·rw [iN (show ¬ decide (((b - a:Nat):Int)<50)=true by simp; omega),iN c2,iP (by omega),iP (by omega),iP (by rw [List.length_set]; omega)]
    have hw:((xs.set (Int.toNat (i2:Int)) (gt xs ((i2 - 1:Nat):Int))).set (Int.toNat ((i2 - 1:Nat):Int)) (gt xs (i2:Int)))=(Sort.swp xs.toArray i2 (i2 - 1)).toList:=by rw [swp_toArray,Int.toNat_natCast,Int.toNat_natCast]
    have hl2:=swp_len xs i2 (i2 - 1)
    simp only [e3,hw]
    have j5:∀ (d:Array g.α),d.size=xs.length→fa_.j4 g K (b:Int) ((5 - (s+1):Nat):Int) (fa_.l1 g K (a:Int) (b:Int) q) (i2:Int) d.toList=some ((Sort.partialIns (ltC cf) a b s i2 (if b - i2≥2 then Sort.shiftUp (ltC cf) b (i2+1) d else d)).2,(Sort.partialIns (ltC cf) a b s i2 (if b - i2≥2 then Sort.shiftUp (ltC cf) b (i2+1) d else d)).1.toList):=fun d hd=>by
     unfold fa_.j4
     simp only [e4,e5]
     have hdl:d.toList.length=xs.length:=by simpa using hd
     by_cases c3:b - i2≥2
     ·have hu:=shiftUp_size (ltC cf) b b (i2+1) d (by omega)
      have hul:(Sort.shiftUp (ltC cf) b (i2+1) d).toList.length=xs.length:=by rw [Array.length_toList,hu,hd]
      rw [iP (show decide ((2:Int)≤((b - i2:Nat):Int))=true from dT (by omega)),iP c3,pins_up hC b _ _ _ b (i2+1) K _ (by omega) (by omega) (by omega) (by omega) (by omega) (by omega),Array.toArray_toList]
      unfold fa_.j2
      rw [e6,pins_loop a b hab s i2 q _ (by omega) (by omega) (by omega) (by omega) (by omega) (by omega) (by omega),Array.toArray_toList]
     ·rw [iN (show ¬ decide ((2:Int)≤((b - i2:Nat):Int))=true by simp; omega),iN c3]
      unfold fa_.j2
      rw [e6,pins_loop a b hab s i2 q _ (by omega) (by omega) (by omega) (by omega) (by omega) (by omega) (by omega),Array.toArray_toList]
    have hsz:(Sort.swp xs.toArray i2 (i2 - 1)).size=xs.length:=by simpa using hl2
    by_cases c3:i2 - a≥2
    ·rw [iP (show decide ((2:Int)≤((i2 - a:Nat):Int))=true from dT (by omega)),pins_down hC b _ _ _ (i2 - 1) K _ (by omega) (by omega) (by omega),Array.toArray_toList,j5 _ (by rw [shiftDown_size,hsz])]
     simp only [iP c3]
    ·rw [iN (show ¬ decide ((2:Int)≤((i2 - a:Nat):Int))=true by simp; omega),j5 _ hsz]
     simp only [iN c3]
theorem pins_eq (a b:Nat)(xs:List g.α)(hab:a<b)(hb:b≤xs.length)(hl:xs.length<2305843009213693952)(hk:xs.length+10<K) :
  fa_.f g K xs (a:Int) (b:Int)=some ((Sort.partialInsertionSort (ltC cf) xs.toArray a b).2,(Sort.partialInsertionSort (ltC cf) xs.toArray a b).1.toList):=by
 unfold fa_.f Sort.partialInsertionSort
 rw [show wr .i64 ((a:Int)+1)=((a+1:Nat):Int) from wrn _ (by omega) (by omega)]
 exact pins_loop hC a b hab 5 (a+1) K xs (by omega) (by omega) (by omega) (by omega) hb hl (by omega)
end
section
variable {α:Type} [Inhabited α]
theorem scanUp_bd (p:α→Bool)(d:Array α)(j:Nat):∀ (r i:Nat),j+1≤i+r→i≤Sort.scanUp p d j i∧(Sort.scanUp p d j i≤j+1∨Sort.scanUp p d j i=i)
 | r,i,h=>by
  rw [Sort.scanUp]
  split
  ·rename_i c
   simp only [Bool.and_eq_true,decide_eq_true_eq] at c
   obtain ⟨r,rfl⟩:∃ m,r=m+1:=⟨r - 1,by omega⟩
   have:=scanUp_bd p d j r (i+1) (by omega)
   omega
  ·omega
theorem scanDown_bd (p:α→Bool)(d:Array α)(i:Nat):∀ j:Nat,Sort.scanDown p d i j≤j∧(i≤j+1→i≤Sort.scanDown p d i j+1∨j=0)
 | 0=>⟨Nat.le_refl _,fun _=> .inr rfl⟩
 | j+1=>by
  unfold Sort.scanDown
  split
  ·rename_i c
   simp only [Bool.and_eq_true,decide_eq_true_eq] at c
   have:=scanDown_bd p d i j
   refine ⟨by omega,fun _=>?_⟩
   by_cases h0:j=0
   ·subst h0
    left
    show i≤0+1
    omega
   ·have:=this.2 (by omega)
    omega
  ·exact ⟨Nat.le_refl _,fun h=>by omega⟩
end
section
variable {g:SortG} {K:Nat} {cf:g.α→g.α→Int} (hC:∀ x y,g.cmp K x y=some (cf x y))
include hC
theorem peq_down (a i:Nat)(xs:List g.α)(rec1:List g.α→Int→Int→Option (Int×List g.α))(hi:1≤i)(ha:a<xs.length)(hl:xs.length<2305843009213693952):∀ (j q:Nat),j<xs.length→j<q →
  fa3_.l2 g K (a:Int) xs rec1 (i:Int) q (j:Int)=fa3_.j3 g xs rec1 (i:Int) ((Sort.scanDown (fun x=>ltC cf (gt xs (a:Int)) x) xs.toArray i j:Nat):Int)
 | 0,q,hj,hq=>by
  obtain ⟨q,rfl⟩:∃ m,q=m+1:=⟨q - 1,by omega⟩
  show fa3_.b2 g K _ _ _ _ _ _=_
  unfold fa3_.b2
  rw [iN (by simp; omega)]
  rfl
 | j+1,q,hj,hq=>by
  obtain ⟨q,rfl⟩:∃ m,q=m+1:=⟨q - 1,by omega⟩
  show fa3_.b2 g K _ _ _ _ _ _=_
  unfold fa3_.b2 Sort.scanDown
  by_cases c:i≤j+1
  ·rw [iP (show decide ((i:Int)≤((j+1:Nat):Int))=true from dT (by omega)),iP (by omega),iP (by omega),hC,oB,at_toArray]
   unfold fa3_.j4
   by_cases c2:cf (gt xs (a:Int)) (gt xs ((j+1:Nat):Int))<0
   ·rw [iP (dT c2),show ltC cf (gt xs (a:Int)) (gt xs ((j+1:Nat):Int))=true from dT c2,iP (by simpa using c)]
    rw [show wr .i64 (((j+1:Nat):Int) - 1)=(j:Int) from wrn _ (by omega) (by omega)]
    exact peq_down a i xs rec1 hi ha hl j q (by omega) (by omega)
   ·rw [iN (by simpa using c2),show ltC cf (gt xs (a:Int)) (gt xs ((j+1:Nat):Int))=false from dF c2,iN (by simp)]
  ·rw [iN (show ¬ decide ((i:Int)≤((j+1:Nat):Int))=true by simp; omega),iN (by simp; omega)]
   unfold fa3_.j4
   rw [iN (by simp)]
theorem peq_up (a j:Nat)(xs:List g.α)(rec1:List g.α→Int→Int→Option (Int×List g.α))(ha:a<xs.length)(hj:j<xs.length)(hl:xs.length<2305843009213693952):∀ (r i q:Nat),j+1≤i+r→r<q→i<4000000000000000000 →
  fa3_.l3 g K (a:Int) xs (j:Int) rec1 q (i:Int)=fa3_.j2 g K (a:Int) xs (j:Int) rec1 ((Sort.scanUp (fun x => !ltC cf (gt xs (a:Int)) x) xs.toArray j i:Nat):Int)
 | r,i,q,h,hq,h4=>by
  obtain ⟨q,rfl⟩:∃ m,q=m+1:=⟨q - 1,by omega⟩
  show fa3_.b3 g _ _ _ _ _ _ _=_
  unfold fa3_.b3
  rw [Sort.scanUp]
  by_cases c:i≤j
  ·obtain ⟨r,rfl⟩:∃ m,r=m+1:=⟨r - 1,by omega⟩
   rw [iP (show decide ((i:Int)≤(j:Int))=true from dT (by omega)),iP (by omega),iP (by omega),hC,oB,at_toArray]
   unfold fa3_.j5
   by_cases c2:cf (gt xs (a:Int)) (gt xs (i:Int))<0
   ·rw [dT c2,show ltC cf (gt xs (a:Int)) (gt xs (i:Int))=true from dT c2,iN (by simp),iN (by simp)]
   ·rw [dF c2,show ltC cf (gt xs (a:Int)) (gt xs (i:Int))=false from dF c2,iP (by simp),iP (by simpa using c)]
    rw [show wr .i64 ((i:Int)+1)=((i+1:Nat):Int) from wrn _ (by omega) (by omega)]
    exact peq_up a j xs rec1 ha hj hl r (i+1) q (by omega) (by omega) (by omega)
  ·rw [iN (show ¬ decide ((i:Int)≤(j:Int))=true by simp; omega),iN (by simp; omega)]
   unfold fa3_.j5
   rw [iN (by simp)]
theorem peq_loop (a:Nat):∀ (r i j q:Nat) (xs:List g.α),j+1≤i+r→r<q→1≤i→i≤xs.length→a<xs.length→j<xs.length→xs.length<2305843009213693952→xs.length+1<K →
  fa3_.l1 g K (a:Int) q xs (j:Int) (i:Int)=some (((Sort.partEqLoop (ltC cf) a i j xs.toArray).1:Int),(Sort.partEqLoop (ltC cf) a i j xs.toArray).2.toList)
 | r,i,j,q,xs,h,hq,hi,hix,ha,hj,hl,hk=>by
  obtain ⟨q,rfl⟩:∃ m,q=m+1:=⟨q - 1,by omega⟩
  show fa3_.b1 g _ _ _ _ _ _=_
  unfold fa3_.b1
  rw [Sort.partEqLoop,peq_up hC a j xs _ ha hj hl (j+1) i K (by omega) (by omega) (by omega)]
  unfold fa3_.j2
  have hb1:=scanUp_bd (fun x => !ltC cf (gt xs (a:Int)) x) xs.toArray j (j+1) i (by omega)
  simp only [at_toArray]
  generalize Sort.scanUp (fun x => !ltC cf (gt xs (a:Int)) x) xs.toArray j i=i2 at hb1 ⊢
  rw [peq_down hC a i2 xs _ (by omega) ha hl j K hj (by omega)]
  have hb2:=scanDown_bd (fun x=>ltC cf (gt xs (a:Int)) x) xs.toArray i2 j
  generalize Sort.scanDown (fun x=>ltC cf (gt xs (a:Int)) x) xs.toArray i2 j=j2 at hb2 ⊢
  unfold fa3_.j3
  by_cases c:i2>j2
  ·rw [iP (show decide ((j2:Int)<(i2:Int))=true from dT (by omega)),iP c]
   rfl
  ·obtain ⟨r,rfl⟩:∃ m,r=m+1:=⟨r - 1,by omega⟩
   rw [iN (show ¬ decide ((j2:Int)<(i2:Int))=true by simp; omega),iN c,iP (by omega),iP (by omega),iP (by rw [List.length_set]; omega),dif_pos (by omega)]
   have e1:wr .i64 ((j2:Int) - 1)=((j2 - 1:Nat):Int):=wrn _ (by omega) (by omega)
   have e2:wr .i64 ((i2:Int)+1)=((i2+1:Nat):Int):=wrn _ (by omega) (by omega)
   have hw:((xs.set (Int.toNat (i2:Int)) (gt xs (j2:Int))).set (Int.toNat (j2:Int)) (gt xs (i2:Int)))=(Sort.swp xs.toArray i2 j2).toList:=by rw [swp_toArray,Int.toNat_natCast,Int.toNat_natCast]
   have hl2:=swp_len xs i2 j2
   rw [e1,e2,hw,peq_loop a r (i2+1) (j2 - 1) q _ (by omega) (by omega) (by omega) (by omega) (by omega) (by omega) (by omega) (by omega),Array.toArray_toList]
theorem peq_eq (a b p:Nat)(xs:List g.α)(hap:a≤p)(hpb:p<b)(hb:b≤xs.length)(hl:xs.length<2305843009213693952)(hk:xs.length+5<K) :
  fa3_.f g K xs (a:Int) (b:Int) (p:Int)=some (((Sort.partitionEqual (ltC cf) xs.toArray a b p).1:Int),(Sort.partitionEqual (ltC cf) xs.toArray a b p).2.toList):=by
 unfold fa3_.f Sort.partitionEqual
 rw [iP (by omega),iP (by omega),iP (by rw [List.length_set]; omega)]
 have e1:wr .i64 ((b:Int) - 1)=((b - 1:Nat):Int):=wrn _ (by omega) (by omega)
 have e2:wr .i64 ((a:Int)+1)=((a+1:Nat):Int):=wrn _ (by omega) (by omega)
 have hw:((xs.set (Int.toNat (a:Int)) (gt xs (p:Int))).set (Int.toNat (p:Int)) (gt xs (a:Int)))=(Sort.swp xs.toArray a p).toList:=by rw [swp_toArray,Int.toNat_natCast,Int.toNat_natCast]
 have hl2:=swp_len xs a p
 rw [e1,e2,hw,peq_loop hC a b (a+1) (b - 1) K _ (by omega) (by omega) (by omega) (by omega) (by omega) (by omega) (by omega) (by omega),Array.toArray_toList]
end
section
variable {g:SortG} {K:Nat} {cf:g.α→g.α→Int} (hC:∀ x y,g.cmp K x y=some (cf x y))
include hC
theorem part_down (a i:Nat)(xs:List g.α)(rec1:List g.α→Int→Int→Option (Int×Bool×List g.α))(hi:1≤i)(ha:a<xs.length)(hl:xs.length<2305843009213693952):∀ (j q:Nat),j<xs.length→j<q →
  fb4_.l2 g K (a:Int) xs rec1 (i:Int) q (j:Int)=fb4_.j5 g (a:Int) xs rec1 (i:Int) ((Sort.scanDown (fun x => !ltC cf x (gt xs (a:Int))) xs.toArray i j:Nat):Int)
 | 0,q,hj,hq=>by
  obtain ⟨q,rfl⟩:∃ m,q=m+1:=⟨q - 1,by omega⟩
  show fb4_.b2 g K _ _ _ _ _ _=_
  unfold fb4_.b2
  rw [iN (by simp; omega)]
  rfl
 | j+1,q,hj,hq=>by
  obtain ⟨q,rfl⟩:∃ m,q=m+1:=⟨q - 1,by omega⟩
  show fb4_.b2 g K _ _ _ _ _ _=_
  unfold fb4_.b2 Sort.scanDown
  by_cases c:i≤j+1
  ·rw [iP (show decide ((i:Int)≤((j+1:Nat):Int))=true from dT (by omega)),iP (by omega),iP (by omega),hC,oB,at_toArray]
   unfold fb4_.j6
   by_cases c2:cf (gt xs ((j+1:Nat):Int)) (gt xs (a:Int))<0
   ·rw [dT c2,show ltC cf (gt xs ((j+1:Nat):Int)) (gt xs (a:Int))=true from dT c2,iN (by simp),iN (by simp)]
   ·rw [dF c2,show ltC cf (gt xs ((j+1:Nat):Int)) (gt xs (a:Int))=false from dF c2,iP (by simp),iP (by simpa using c)]
    rw [show wr .i64 (((j+1:Nat):Int) - 1)=(j:Int) from wrn _ (by omega) (by omega)]
    exact part_down a i xs rec1 hi ha hl j q (by omega) (by omega)
  ·rw [iN (show ¬ decide ((i:Int)≤((j+1:Nat):Int))=true by simp; omega),iN (by simp; omega)]
   unfold fb4_.j6
   rw [iN (by simp)]
theorem part_up (a j:Nat)(xs:List g.α)(rec1:List g.α→Int→Int→Option (Int×Bool×List g.α))(ha:a<xs.length)(hj:j<xs.length)(hl:xs.length<2305843009213693952):∀ (r i q:Nat),j+1≤i+r→r<q→i<4000000000000000000 →
  fb4_.l3 g K (a:Int) xs (j:Int) rec1 q (i:Int)=fb4_.j4 g K (a:Int) xs (j:Int) rec1 ((Sort.scanUp (fun x=>ltC cf x (gt xs (a:Int))) xs.toArray j i:Nat):Int)
 | r,i,q,h,hq,h4=>by
  obtain ⟨q,rfl⟩:∃ m,q=m+1:=⟨q - 1,by omega⟩
  show fb4_.b3 g _ _ _ _ _ _ _=_
  unfold fb4_.b3
  rw [Sort.scanUp]
  by_cases c:i≤j
  ·obtain ⟨r,rfl⟩:∃ m,r=m+1:=⟨r - 1,by omega⟩
   rw [iP (show decide ((i:Int)≤(j:Int))=true from dT (by omega)),iP (by omega),iP (by omega),hC,oB,at_toArray]
   unfold fb4_.j7
   by_cases c2:cf (gt xs (i:Int)) (gt xs (a:Int))<0
   ·rw [iP (dT c2),show ltC cf (gt xs (i:Int)) (gt xs (a:Int))=true from dT c2,iP (by simpa using c)]
    rw [show wr .i64 ((i:Int)+1)=((i+1:Nat):Int) from wrn _ (by omega) (by omega)]
    exact part_up a j xs rec1 ha hj hl r (i+1) q (by omega) (by omega) (by omega)
   ·rw [iN (by simpa using c2),show ltC cf (gt xs (i:Int)) (gt xs (a:Int))=false from dF c2,iN (by simp)]
  ·rw [iN (show ¬ decide ((i:Int)≤(j:Int))=true by simp; omega),iN (by simp; omega)]
   unfold fb4_.j7
   rw [iN (by simp)]
theorem part_loop (a:Nat):∀ (r i j q:Nat) (xs:List g.α),j+1≤i+r→r<q→1≤i→i≤xs.length→a<xs.length→j<xs.length→xs.length<2305843009213693952→xs.length+1<K →
  fb4_.l1 g K (a:Int) q xs (j:Int) (i:Int)=some (((Sort.partLoop (ltC cf) a i j xs.toArray).1:Int),false,(Sort.swp (Sort.partLoop (ltC cf) a i j xs.toArray).2 (Sort.partLoop (ltC cf) a i j xs.toArray).1 a).toList)
 | r,i,j,q,xs,h,hq,hi,hix,ha,hj,hl,hk=>by
  obtain ⟨q,rfl⟩:∃ m,q=m+1:=⟨q - 1,by omega⟩
  show fb4_.b1 g _ _ _ _ _ _=_
  unfold fb4_.b1
  rw [Sort.partLoop,part_up hC a j xs _ ha hj hl (j+1) i K (by omega) (by omega) (by omega)]
  unfold fb4_.j4
  have hb1:=scanUp_bd (fun x=>ltC cf x (gt xs (a:Int))) xs.toArray j (j+1) i (by omega)
  simp only [at_toArray]
  generalize Sort.scanUp (fun x=>ltC cf x (gt xs (a:Int))) xs.toArray j i=i2 at hb1 ⊢
  rw [part_down hC a i2 xs _ (by omega) ha hl j K hj (by omega)]
  have hb2:=scanDown_bd (fun x => !ltC cf x (gt xs (a:Int))) xs.toArray i2 j
  generalize Sort.scanDown (fun x => !ltC cf x (gt xs (a:Int))) xs.toArray i2 j=j2 at hb2 ⊢
  unfold fb4_.j5
  by_cases c:i2>j2
  ·rw [iP (show decide ((j2:Int)<(i2:Int))=true from dT (by omega)),iP c]
   unfold fb4_.j3
   rw [iP (by omega),iP (by omega),iP (by rw [List.length_set]; omega),Int.toNat_natCast,Int.toNat_natCast]
   simp only [swp_toArray]
  ·obtain ⟨r,rfl⟩:∃ m,r=m+1:=⟨r - 1,by omega⟩
   rw [iN (show ¬ decide ((j2:Int)<(i2:Int))=true by simp; omega),iN c,iP (by omega),iP (by omega),iP (by rw [List.length_set]; omega),dif_pos (by omega)]
   have e1:wr .i64 ((j2:Int) - 1)=((j2 - 1:Nat):Int):=wrn _ (by omega) (by omega)
   have e2:wr .i64 ((i2:Int)+1)=((i2+1:Nat):Int):=wrn _ (by omega) (by omega)
   have hw:((xs.set (Int.toNat (i2:Int)) (gt xs (j2:Int))).set (Int.toNat (j2:Int)) (gt xs (i2:Int)))=(Sort.swp xs.toArray i2 j2).toList:=by rw [swp_toArray,Int.toNat_natCast,Int.toNat_natCast]
   have hl2:=swp_len xs i2 j2
   rw [e1,e2,hw,part_loop a r (i2+1) (j2 - 1) q _ (by omega) (by omega) (by omega) (by omega) (by omega) (by omega) (by omega) (by omega),Array.toArray_toList]
theorem part_down4 (a p i:Nat)(x1 xs:List g.α)(hx:((x1.set (Int.toNat (a:Int)) (gt x1 (p:Int))).set (Int.toNat (p:Int)) (gt x1 (a:Int)))=xs)(hi:1≤i)(ha:a<xs.length)(hl:xs.length<2305843009213693952):∀ (j q:Nat),j<xs.length→j<q →
  fb4_.l4 g K x1 (a:Int) (p:Int) (i:Int) q (j:Int)=fb4_.j2 g K x1 (a:Int) (p:Int) (i:Int) ((Sort.scanDown (fun x => !ltC cf x (gt xs (a:Int))) xs.toArray i j:Nat):Int)
 | 0,q,hj,hq=>by
  obtain ⟨q,rfl⟩:∃ m,q=m+1:=⟨q - 1,by omega⟩
  show fb4_.b4 g _ _ _ _ _ _ _=_
  unfold fb4_.b4
  rw [iN (by simp; omega)]
  rfl
 | j+1,q,hj,hq=>by
  obtain ⟨q,rfl⟩:∃ m,q=m+1:=⟨q - 1,by omega⟩
  show fb4_.b4 g _ _ _ _ _ _ _=_
  unfold fb4_.b4 Sort.scanDown
  simp only [hx]
  by_cases c:i≤j+1
  ·rw [iP (show decide ((i:Int)≤((j+1:Nat):Int))=true from dT (by omega)),iP (by omega),iP (by omega),hC,oB,at_toArray]
   unfold fb4_.j8
   by_cases c2:cf (gt xs ((j+1:Nat):Int)) (gt xs (a:Int))<0
   ·rw [dT c2,show ltC cf (gt xs ((j+1:Nat):Int)) (gt xs (a:Int))=true from dT c2,iN (by simp),iN (by simp)]
   ·rw [dF c2,show ltC cf (gt xs ((j+1:Nat):Int)) (gt xs (a:Int))=false from dF c2,iP (by simp),iP (by simpa using c)]
    rw [show wr .i64 (((j+1:Nat):Int) - 1)=(j:Int) from wrn _ (by omega) (by omega)]
    exact part_down4 a p i x1 xs hx hi ha hl j q (by omega) (by omega)
  ·rw [iN (show ¬ decide ((i:Int)≤((j+1:Nat):Int))=true by simp; omega),iN (by simp; omega)]
   unfold fb4_.j8
   rw [iN (by simp)]
theorem part_up5 (a b p:Nat)(x1 xs:List g.α)(hx:((x1.set (Int.toNat (a:Int)) (gt x1 (p:Int))).set (Int.toNat (p:Int)) (gt x1 (a:Int)))=xs)(ha:a<xs.length)(hb:b≤xs.length)(h1:1≤b)(hl:xs.length<2305843009213693952):∀ (r i q:Nat),b≤i+r→r<q→i<4000000000000000000 →
  fb4_.l5 g K x1 (a:Int) (b:Int) (p:Int) q (i:Int)=fb4_.j1 g K x1 (a:Int) (b:Int) (p:Int) ((Sort.scanUp (fun x=>ltC cf x (gt xs (a:Int))) xs.toArray (b - 1) i:Nat):Int)
 | r,i,q,h,hq,h4=>by
  obtain ⟨q,rfl⟩:∃ m,q=m+1:=⟨q - 1,by omega⟩
  show fb4_.b5 g _ _ _ _ _ _ _=_
  unfold fb4_.b5
  have e1:wr .i64 ((b:Int) - 1)=((b - 1:Nat):Int):=wrn _ (by omega) (by omega)
  rw [Sort.scanUp]
  simp only [hx,e1]
  by_cases c:i≤b - 1
  ·obtain ⟨r,rfl⟩:∃ m,r=m+1:=⟨r - 1,by omega⟩
   rw [iP (show decide ((i:Int)≤((b - 1:Nat):Int))=true from dT (by omega)),iP (by omega),iP (by omega),hC,oB,at_toArray]
   unfold fb4_.j9
   by_cases c2:cf (gt xs (i:Int)) (gt xs (a:Int))<0
   ·rw [iP (dT c2),show ltC cf (gt xs (i:Int)) (gt xs (a:Int))=true from dT c2,iP (by simpa using c)]
    rw [show wr .i64 ((i:Int)+1)=((i+1:Nat):Int) from wrn _ (by omega) (by omega)]
    exact part_up5 a b p x1 xs hx ha hb h1 hl r (i+1) q (by omega) (by omega) (by omega)
   ·rw [iN (by simpa using c2),show ltC cf (gt xs (i:Int)) (gt xs (a:Int))=false from dF c2,iN (by simp)]
  ·rw [iN (show ¬ decide ((i:Int)≤((b - 1:Nat):Int))=true by simp; omega),iN (by simp; omega)]
   unfold fb4_.j9
   rw [iN (by simp)]
theorem part_eq (a b p:Nat)(x1:List g.α)(hap:a≤p)(hpb:p<b)(hb:b≤x1.length)(hl:x1.length<2305843009213693952)(hk:x1.length+5<K) :
  fb4_.f g K x1 (a:Int) (b:Int) (p:Int)=some (((Sort.partition (ltC cf) x1.toArray a b p).1:Int),(Sort.partition (ltC cf) x1.toArray a b p).2.1,(Sort.partition (ltC cf) x1.toArray a b p).2.2.toList):=by
 unfold fb4_.f Sort.partition
 rw [iP (by omega),iP (by omega),iP (by rw [List.length_set]; omega)]
 have e2:wr .i64 ((a:Int)+1)=((a+1:Nat):Int):=wrn _ (by omega) (by omega)
 have hw:((x1.set (Int.toNat (a:Int)) (gt x1 (p:Int))).set (Int.toNat (p:Int)) (gt x1 (a:Int)))=(Sort.swp x1.toArray a p).toList:=by rw [swp_toArray,Int.toNat_natCast,Int.toNat_natCast]
 have hl2:=swp_len x1 a p
 have hd:Sort.swp x1.toArray a p=(Sort.swp x1.toArray a p).toList.toArray:=by rw [Array.toArray_toList]
 rw [hd]
 generalize hxs:(Sort.swp x1.toArray a p).toList=xs at hw hl2 ⊢
 have e1:wr .i64 ((b:Int) - 1)=((b - 1:Nat):Int):=wrn _ (by omega) (by omega)
 rw [e2,part_up5 hC a b p x1 xs hw (by omega) (by omega) (by omega) (by omega) b (a+1) K (by omega) (by omega) (by omega)]
 unfold fb4_.j1
 have hb1:=scanUp_bd (fun x=>ltC cf x (gt xs (a:Int))) xs.toArray (b - 1) b (a+1) (by omega)
 simp only [at_toArray,e1]
 generalize Sort.scanUp (fun x=>ltC cf x (gt xs (a:Int))) xs.toArray (b - 1) (a+1)=i2 at hb1 ⊢
 rw [part_down4 hC a p i2 x1 xs hw (by omega) (by omega) (by omega) (b - 1) K (by omega) (by omega)]
 have hb2:=scanDown_bd (fun x => !ltC cf x (gt xs (a:Int))) xs.toArray i2 (b - 1)
 generalize Sort.scanDown (fun x => !ltC cf x (gt xs (a:Int))) xs.toArray i2 (b - 1)=j2 at hb2 ⊢
 unfold fb4_.j2
 simp only [hw]
 by_cases c:i2>j2
 ·rw [iP (show decide ((j2:Int)<(i2:Int))=true from dT (by omega)),iP c,iP (by omega),iP (by omega),iP (by rw [List.length_set]; omega)]
  rw [Int.toNat_natCast,Int.toNat_natCast]
  simp only [swp_toArray]
 ·rw [iN (show ¬ decide ((j2:Int)<(i2:Int))=true by simp; omega),iN c,iP (by omega),iP (by omega),iP (by rw [List.length_set]; omega)]
  have f1:wr .i64 ((j2:Int) - 1)=((j2 - 1:Nat):Int):=wrn _ (by omega) (by omega)
  have f2:wr .i64 ((i2:Int)+1)=((i2+1:Nat):Int):=wrn _ (by omega) (by omega)
  have hw2:((xs.set (Int.toNat (i2:Int)) (gt xs (j2:Int))).set (Int.toNat (j2:Int)) (gt xs (i2:Int)))=(Sort.swp xs.toArray i2 j2).toList:=by rw [swp_toArray,Int.toNat_natCast,Int.toNat_natCast]
  have hl3:=swp_len xs i2 j2
  rw [f1,f2,hw2,part_loop hC a (b+1) (i2+1) (j2 - 1) K _ (by omega) (by omega) (by omega) (by omega) (by omega) (by omega) (by omega) (by omega),Array.toArray_toList]
end
section
variable {α:Type} [Inhabited α]
end
theorem shl_u64 (u v:UInt64)(n:Nat)(h:v.toNat=n)(hn:n<64):shl .u64 (u.toNat:Int) n=((u <<< v).toNat:Int):=by
 have h1:shl .u64 (u.toNat:Int) n=((u.toNat:Int)*2 ^ n) % 18446744073709551616:=by
  have:=wr_u64 ((u.toNat:Int)*2 ^ n)
  exact this
 rw [h1,UInt64.toNat_shiftLeft,h,Nat.mod_eq_of_lt hn,Nat.shiftLeft_eq]
 simp
theorem shr_u64 (u v:UInt64)(n:Nat)(h:v.toNat=n)(hn:n<64):shr (u.toNat:Int) n=((u >>> v).toNat:Int):=by
 unfold shr
 rw [Int.fdiv_eq_ediv_of_nonneg _ (Int.le_of_lt (Int.pow_pos (by omega))),UInt64.toNat_shiftRight,h,Nat.mod_eq_of_lt hn,Nat.shiftRight_eq_div_pow]
 simp
theorem xor_u64 (u v:UInt64):bits .xor .u64 (u.toNat:Int) (v.toNat:Int)=((u ^^^ v).toNat:Int):=by
 rw [bits_xor_u64_nat u.toNat v.toNat u.toNat_lt v.toNat_lt,UInt64.toNat_xor]
theorem xor_next (u:UInt64):fb6_.f (u.toNat:Int)=some (((Sort.xorNext u).toNat:Int),((Sort.xorNext u).toNat:Int)):=by
 unfold fb6_.f Sort.xorNext
 simp only [shl_u64 _ 13 13 rfl (by omega),shr_u64 _ 7 7 rfl (by omega),shl_u64 _ 17 17 rfl (by omega),xor_u64]
theorem bl_shift (s n:Nat)(h:2 ^ s≤n):Sort.bitsLen n=Sort.bitsLen (n / 2 ^ s)+s:=by
 have hp:0<2 ^ s:=Nat.pow_pos (by omega)
 have h1:n / 2 ^ s≠0:=by
  have:=Nat.div_le_div_right (c:=2 ^ s) h
  rw [Nat.div_self hp] at this
  omega
 have h0:n≠0:=by omega
 unfold Sort.bitsLen
 rw [iN h0,iN h1]
 obtain ⟨a1,a2⟩:=(Nat.log2_eq_iff (k:=(n / 2 ^ s).log2) h1).1 rfl
 have:n.log2=(n / 2 ^ s).log2+s:=by
  refine (Nat.log2_eq_iff h0).2 ⟨?_,?_⟩
  ·rw [Nat.pow_add]
   exact (Nat.le_div_iff_mul_le hp).1 a1
  ·rw [show (n / 2 ^ s).log2+s+1=(n / 2 ^ s).log2+1+s by omega,Nat.pow_add]
   exact (Nat.div_lt_iff_lt_mul hp).1 a2
 omega
theorem len8:∀ i:Fin 256,ff7_.j3 0 (i.val:Int)=some ((Sort.bitsLen i.val:Nat):Int):=by decide +kernel
theorem shr_nat (n s:Nat):shr (n:Int) s=((n / 2 ^ s:Nat):Int):=by
 unfold shr
 rw [Int.fdiv_eq_ediv_of_nonneg _ (Int.le_of_lt (Int.pow_pos (by omega)))]
 simp
theorem bl_le8 (m:Nat)(hm:m<256):Sort.bitsLen m≤8:=by
 have:∀ i:Fin 256,Sort.bitsLen i.val≤8:=by decide +kernel
 exact this ⟨m,hm⟩
theorem len_j3 (y:Nat)(hy:y≤64)(m:Nat)(hm:m<256):ff7_.j3 (y:Int) (m:Int)=some ((y+Sort.bitsLen m:Nat):Int):=by
 have h8:=len8 ⟨m,hm⟩
 have h9:=bl_le8 m hm
 unfold ff7_.j3 at h8 ⊢
 simp only at h8
 split at h8
 ·rename_i c
  rw [iP c]
  have h10:=sI h8
  have hb:wr .i64 (bt txt0 (wr .u8 (m:Int)))=((Sort.bitsLen m:Nat):Int):=by
   have e:wr .i64 (0+wr .i64 (bt txt0 (wr .u8 (m:Int))))=wr .i64 (bt txt0 (wr .u8 (m:Int))):=by
    rw [Int.zero_add,wr_i64,wr_i64]; omega
   rw [← e]; exact h10
  rw [hb,wrn (y+Sort.bitsLen m) (by omega) (by omega)]
 ·cases h8
theorem len_j2 (y:Nat)(hy:y≤48)(m:Nat)(hm:m<65536):ff7_.j2 (y:Int) (m:Int)=some ((y+Sort.bitsLen m:Nat):Int):=by
 unfold ff7_.j2
 by_cases c:256≤m
 ·rw [iP (show decide ((256:Int)≤(m:Int))=true from dT (by omega)),wrn (y+8) (by omega) (by omega),shr_nat,len_j3 (y+8) (by omega) _ (by omega),bl_shift 8 m c]
  congr 2; omega
 ·rw [iN (show ¬ decide ((256:Int)≤(m:Int))=true by simp; omega),len_j3 y (by omega) m (by omega)]
theorem len_j1 (y:Nat)(hy:y≤32)(m:Nat)(hm:m<4294967296):ff7_.j1 (y:Int) (m:Int)=some ((y+Sort.bitsLen m:Nat):Int):=by
 unfold ff7_.j1
 by_cases c:65536≤m
 ·rw [iP (show decide ((65536:Int)≤(m:Int))=true from dT (by omega)),wrn (y+16) (by omega) (by omega),shr_nat,len_j2 (y+16) (by omega) _ (by omega),bl_shift 16 m c]
  congr 2; omega
 ·rw [iN (show ¬ decide ((65536:Int)≤(m:Int))=true by simp; omega),len_j2 y (by omega) m (by omega)]
theorem len_eq (n:Nat)(hn:n<18446744073709551616):fg0_.f (n:Int)=some ((Sort.bitsLen n:Nat):Int):=by
 have h:ff7_.f (n:Int)=some ((Sort.bitsLen n:Nat):Int):=by
  unfold ff7_.f
  by_cases c:4294967296≤n
  ·rw [iP (show decide ((4294967296:Int)≤(n:Int))=true from dT (by omega)),shr_nat,show (32:Int)=((32:Nat):Int) from rfl,len_j1 32 (by omega) _ (by omega),bl_shift 32 n c]
   congr 2; omega
  ·rw [iN (show ¬ decide ((4294967296:Int)≤(n:Int))=true by simp; omega),show (0:Int)=((0:Nat):Int) from rfl,len_j1 0 (by omega) n (by omega)]
   congr 2; omega
 unfold fg0_.f
 rw [h]; rfl
theorem pow_bl (l:Nat)(h:l≠0):l<2 ^ Sort.bitsLen l∧2 ^ Sort.bitsLen l≤2*l:=by
 unfold Sort.bitsLen
 rw [iN h]
 obtain ⟨a1,a2⟩:=(Nat.log2_eq_iff (k:=l.log2) h).1 rfl
 refine ⟨a2,?_⟩
 rw [Nat.pow_succ]; omega
variable {g:SortG}
theorem brk_step (a b M idx q:Nat)(r:UInt64)(xs:List g.α)(hab:a+8≤b)(hb:b≤xs.length)(hl:xs.length<2305843009213693952)(hM1:1≤M)(hM2:M≤2*(b - a))(hi:idx≤a+(b - a) / 4*2+1) :
  fa4_.l1 g (a:Int) (b:Int) (M:Int) (q+1) xs (idx:Int) (r.toNat:Int)=fa4_.l1 g (a:Int) (b:Int) (M:Int) q (Sort.breakStep a (b - a) M (r,xs.toArray) idx).2.toList ((idx+1:Nat):Int) (((Sort.breakStep a (b - a) M (r,xs.toArray) idx).1.toNat:Nat):Int):=by
 show fa4_.b1 g _ _ _ _ _ _ _=_
 unfold fa4_.b1 Sort.breakStep
 have e1:wr .i64 ((b:Int) - (a:Int))=((b - a:Nat):Int):=wrn _ (by omega) (by omega)
 have e2:wr .i64 (Int.tdiv ((b - a:Nat):Int) 4)=(((b - a) / 4:Nat):Int):=by rw [Int.tdiv_eq_ediv_of_nonneg (by omega)]; exact wrn _ (by omega) (by omega)
 have e3:wr .i64 ((((b - a) / 4:Nat):Int)*2)=(((b - a) / 4*2:Nat):Int):=wrn _ (by omega) (by omega)
 have e4:wr .i64 ((a:Int)+(((b - a) / 4*2:Nat):Int))=((a+(b - a) / 4*2:Nat):Int):=wrn _ (by omega) (by omega)
 have e5:wr .i64 (((a+(b - a) / 4*2:Nat):Int)+1)=((a+(b - a) / 4*2+1:Nat):Int):=wrn _ (by omega) (by omega)
 have e6:wr .u64 ((M:Int) - 1)=((M - 1:Nat):Int):=by rw [wr_u64_id (by omega) (by omega)]; omega
 simp only [e1,e2,e3,e4,e5,e6,xor_next,oB]
 rw [iP (show decide ((idx:Int)≤((a+(b - a) / 4*2+1:Nat):Int))=true from dT (by omega))]
 rw [bits_and_u64_nat _ (M - 1) (Sort.xorNext r).toNat_lt (by omega)]
 have hle:(Sort.xorNext r).toNat &&& (M - 1)≤M - 1:=Nat.and_le_right
 generalize (Sort.xorNext r).toNat &&& (M - 1)=o at hle ⊢
 rw [wrn o rfl (by omega)]
 have j2:∀ p:Nat,p<b - a→fa4_.j1 g (a:Int) xs (idx:Int) (fa4_.l1 g (a:Int) (b:Int) (M:Int) q) (((Sort.xorNext r).toNat:Int),((Sort.xorNext r).toNat:Int)) (p:Int)=fa4_.l1 g (a:Int) (b:Int) (M:Int) q (Sort.swp xs.toArray idx (a+p)).toList ((idx+1:Nat):Int) ((Sort.xorNext r).toNat:Int):=fun p hp=>by
  unfold fa4_.j1
  have f1:wr .i64 ((a:Int)+(p:Int))=((a+p:Nat):Int):=wrn _ (by omega) (by omega)
  have f2:wr .i64 ((idx:Int)+1)=((idx+1:Nat):Int):=wrn _ (by omega) (by omega)
  simp only [f1,f2]
  rw [iP (by omega),iP (by omega),iP (by rw [List.length_set]; omega),swp_toArray,Int.toNat_natCast,Int.toNat_natCast]
 by_cases c:o≥b - a
 ·rw [iP (show decide (((b - a:Nat):Int)≤(o:Int))=true from dT (by omega)),wrn (o - (b - a)) (by omega) (by omega),j2 _ (by omega)]
  simp only [iP c]
 ·rw [iN (show ¬ decide (((b - a:Nat):Int)≤(o:Int))=true by simp; omega),j2 _ (by omega)]
  simp only [iN c]
theorem brk_end (a b M idx q:Nat)(r:Int)(xs:List g.α)(hab:a+8≤b)(hb:b≤xs.length)(hl:xs.length<2305843009213693952)(hi:a+(b - a) / 4*2+1<idx) :
  fa4_.l1 g (a:Int) (b:Int) (M:Int) (q+1) xs (idx:Int) r=some xs:=by
 show fa4_.b1 g _ _ _ _ _ _ _=_
 unfold fa4_.b1
 have e1:wr .i64 ((b:Int) - (a:Int))=((b - a:Nat):Int):=wrn _ (by omega) (by omega)
 have e2:wr .i64 (Int.tdiv ((b - a:Nat):Int) 4)=(((b - a) / 4:Nat):Int):=by rw [Int.tdiv_eq_ediv_of_nonneg (by omega)]; exact wrn _ (by omega) (by omega)
 have e3:wr .i64 ((((b - a) / 4:Nat):Int)*2)=(((b - a) / 4*2:Nat):Int):=wrn _ (by omega) (by omega)
 have e4:wr .i64 ((a:Int)+(((b - a) / 4*2:Nat):Int))=((a+(b - a) / 4*2:Nat):Int):=wrn _ (by omega) (by omega)
 have e5:wr .i64 (((a+(b - a) / 4*2:Nat):Int)+1)=((a+(b - a) / 4*2+1:Nat):Int):=wrn _ (by omega) (by omega)
 simp only [e1,e2,e3,e4,e5]
 rw [iN (by simp; omega)]
theorem breakStep_size {α:Type} [Inhabited α] (a l M:Nat)(st:UInt64×Array α)(idx:Nat):(Sort.breakStep a l M st idx).2.size=st.2.size:=by
 unfold Sort.breakStep; simp [Sort.swp]
theorem next_pow (l:Nat)(h0:l≠0)(hl:l<2305843009213693952):fb0_.f (l:Int)=some ((1 <<< Sort.bitsLen l:Nat):Int):=by
 have hp:=pow_bl l h0
 have ht:Sort.bitsLen l<64:=by
  refine Decidable.byContradiction fun c=>?_
  have:=Nat.pow_le_pow_right (n:=2) (by omega) (show 64≤Sort.bitsLen l by omega)
  omega
 unfold fb0_.f
 rw [wr_u64_id (by omega) (by omega),len_eq l (by omega),oB,iP (by omega),Int.toNat_natCast,Nat.min_eq_left (by omega),Nat.shiftLeft_eq,Nat.one_mul]
 have h1:shl .u64 1 (Sort.bitsLen l)=((1:Int)*2 ^ Sort.bitsLen l) % 18446744073709551616:=wr_u64 _
 rw [h1]
 have h2:((2 ^ Sort.bitsLen l:Nat):Int)=(2:Int) ^ Sort.bitsLen l:=by simp
 rw [Int.one_mul, ← h2,Int.emod_eq_of_lt (by omega) (by omega)]
theorem brk_eq (a b K:Nat)(xs:List g.α)(hab:a≤b)(hb:b≤xs.length)(hl:xs.length<2305843009213693952)(hk:10<K) :
  fa4_.f g K xs (a:Int) (b:Int)=some (Sort.breakPatterns xs.toArray a b).toList:=by
 unfold fa4_.f Sort.breakPatterns
 have e1:wr .i64 ((b:Int) - (a:Int))=((b - a:Nat):Int):=wrn _ (by omega) (by omega)
 have e2:wr .i64 (Int.tdiv ((b - a:Nat):Int) 4)=(((b - a) / 4:Nat):Int):=by rw [Int.tdiv_eq_ediv_of_nonneg (by omega)]; exact wrn _ (by omega) (by omega)
 have e3:wr .i64 ((((b - a) / 4:Nat):Int)*2)=(((b - a) / 4*2:Nat):Int):=wrn _ (by omega) (by omega)
 have e4:wr .i64 ((a:Int)+(((b - a) / 4*2:Nat):Int))=((a+(b - a) / 4*2:Nat):Int):=wrn _ (by omega) (by omega)
 simp only [e1,e2,e3,e4]
 by_cases c:b - a≥8
 ·have e5:wr .i64 (((a+(b - a) / 4*2:Nat):Int) - 1)=((a+(b - a) / 4*2 - 1:Nat):Int):=wrn _ (by omega) (by omega)
  have e6:wr .u64 ((b - a:Nat):Int)=(((UInt64.ofNat (b - a)).toNat:Nat):Int):=by
   rw [wr_u64_id (by omega) (by omega),UInt64.toNat_ofNat_of_lt' (by show b - a<18446744073709551616; omega)]
  have hp:=pow_bl (b - a) (by omega)
  rw [iP (show decide ((8:Int)≤((b - a:Nat):Int))=true from dT (by omega)),next_pow (b - a) (by omega) (by omega),oB,e5,e6]
  simp only [iP c]
  have hM:(1 <<< Sort.bitsLen (b - a):Nat)=2 ^ Sort.bitsLen (b - a):=by rw [Nat.shiftLeft_eq,Nat.one_mul]
  have hM1:1≤(1 <<< Sort.bitsLen (b - a):Nat):=by rw [hM]; omega
  have hM2:(1 <<< Sort.bitsLen (b - a):Nat)≤2*(b - a):=by rw [hM]; exact hp.2
  generalize (1 <<< Sort.bitsLen (b - a):Nat)=M at hM1 hM2 ⊢
  obtain ⟨K,rfl⟩:∃ m,K=m+1+1+1+1:=⟨K - 4,by omega⟩
  rw [brk_step a b M _ _ _ xs (by omega) hb hl hM1 hM2 (by omega)]
  have h1:=breakStep_size a (b - a) M (UInt64.ofNat (b - a),xs.toArray) (a+(b - a) / 4*2 - 1)
  generalize Sort.breakStep a (b - a) M (UInt64.ofNat (b - a),xs.toArray) (a+(b - a) / 4*2 - 1)=s1 at h1 ⊢
  have h1':s1.2.toList.length=xs.length:=by simpa using h1
  rw [brk_step a b M _ _ _ _ (by omega) (by omega) (by omega) hM1 hM2 (by omega),Array.toArray_toList]
  have h2:=breakStep_size a (b - a) M s1 (a+(b - a) / 4*2 - 1+1)
  rw [show (s1.1,s1.2)=s1 from rfl]
  generalize Sort.breakStep a (b - a) M s1 (a+(b - a) / 4*2 - 1+1)=s2 at h2 ⊢
  have h2':s2.2.toList.length=xs.length:=by rw [Array.length_toList,h2]; simpa using h1
  rw [brk_step a b M _ _ _ _ (by omega) (by omega) (by omega) hM1 hM2 (by omega),Array.toArray_toList]
  have h3:=breakStep_size a (b - a) M s2 (a+(b - a) / 4*2 - 1+1+1)
  rw [show (s2.1,s2.2)=s2 from rfl]
  rw [show a+(b - a) / 4*2 - 1+2=a+(b - a) / 4*2 - 1+1+1 from rfl]
  generalize Sort.breakStep a (b - a) M s2 (a+(b - a) / 4*2 - 1+1+1)=s3 at h3 ⊢
  have h3':s3.2.toList.length=xs.length:=by rw [Array.length_toList,h3]; simpa using h2'
  rw [brk_end a b M _ _ _ _ (by omega) (by omega) (by omega) (by omega)]
 ·rw [iN (show ¬ decide ((8:Int)≤((b - a:Nat):Int))=true by simp; omega)]
  simp only [iN c]
section
variable {g:SortG} {K:Nat} {cf:g.α→g.α→Int} (hC:∀ x y,g.cmp K x y=some (cf x y))
include hC
theorem ord_eq (xs:List g.α)(a b s:Nat)(ha:a<xs.length)(hb:b<xs.length)(hs:s<1000) :
  fd0_.f g K xs (a:Int) (b:Int) (s:Int)=some (((Sort.order2 (ltC cf) xs.toArray a b s).1:Int),((Sort.order2 (ltC cf) xs.toArray a b s).2.1:Int),((Sort.order2 (ltC cf) xs.toArray a b s).2.2:Int)):=by
 unfold fd0_.f Sort.order2
 rw [iP (by omega),iP (by omega),hC,oB,at_toArray,at_toArray]
 have e1:wr .i64 ((s:Int)+1)=((s+1:Nat):Int):=wrn _ (by omega) (by omega)
 rw [e1]
 by_cases c:cf (gt xs (b:Int)) (gt xs (a:Int))<0
 ·rw [iP (dT c),iP (show ltC cf (gt xs (b:Int)) (gt xs (a:Int))=true from dT c)]
 ·rw [iN (by simpa using c),iN (by rw [show ltC cf (gt xs (b:Int)) (gt xs (a:Int))=false from dF c]; simp)]
omit hC in
theorem order2_lt (lt:g.α→g.α→Bool)(d:Array g.α)(a b s n:Nat)(ha:a<n)(hb:b<n):(Sort.order2 lt d a b s).1<n∧(Sort.order2 lt d a b s).2.1<n∧(Sort.order2 lt d a b s).2.2≤s+1:=by
 unfold Sort.order2
 split
 ·exact ⟨hb,ha,Nat.le_refl _⟩
 ·exact ⟨ha,hb,Nat.le_succ _⟩
theorem med_eq (xs:List g.α)(a b c s:Nat)(ha:a<xs.length)(hb:b<xs.length)(hc:c<xs.length)(hs:s<900) :
  fd2_.f g K xs (a:Int) (b:Int) (c:Int) (s:Int)=some (((Sort.median (ltC cf) xs.toArray a b c s).1:Int),((Sort.median (ltC cf) xs.toArray a b c s).2:Int)):=by
 unfold fd2_.f Sort.median
 have h1:=order2_lt (ltC cf) xs.toArray a b s xs.length ha hb
 have h2:=order2_lt (ltC cf) xs.toArray (Sort.order2 (ltC cf) xs.toArray a b s).2.1 c (Sort.order2 (ltC cf) xs.toArray a b s).2.2 xs.length h1.2.1 hc
 rw [ord_eq hC xs a b s ha hb (by omega),oB]
 simp only []
 rw [ord_eq hC xs _ c _ h1.2.1 hc (by omega),oB]
 simp only []
 rw [ord_eq hC xs _ _ _ h1.1 h2.1 (by omega),oB]
omit hC in
theorem median_lt (lt:g.α→g.α→Bool)(d:Array g.α)(a b c s n:Nat)(ha:a<n)(hb:b<n)(hc:c<n):(Sort.median lt d a b c s).1<n∧(Sort.median lt d a b c s).2≤s+3:=by
 unfold Sort.median
 have h1:=order2_lt lt d a b s n ha hb
 have h2:=order2_lt lt d (Sort.order2 lt d a b s).2.1 c (Sort.order2 lt d a b s).2.2 n h1.2.1 hc
 have h3:=order2_lt lt d (Sort.order2 lt d a b s).1 (Sort.order2 lt d (Sort.order2 lt d a b s).2.1 c (Sort.order2 lt d a b s).2.2).1 (Sort.order2 lt d (Sort.order2 lt d a b s).2.1 c (Sort.order2 lt d a b s).2.2).2.2 n h1.1 h2.1
 exact ⟨h3.2.1,Nat.le_trans h3.2.2 (by omega)⟩
theorem madj_eq (xs:List g.α)(a s:Nat)(h0:1≤a)(ha:a+1<xs.length)(hl:xs.length<2305843009213693952)(hs:s<900) :
  fa1_.f g K xs (a:Int) (s:Int)=some (((Sort.medianAdjacent (ltC cf) xs.toArray a s).1:Int),((Sort.medianAdjacent (ltC cf) xs.toArray a s).2:Int)):=by
 unfold fa1_.f Sort.medianAdjacent
 have e1:wr .i64 ((a:Int) - 1)=((a - 1:Nat):Int):=wrn _ (by omega) (by omega)
 have e2:wr .i64 ((a:Int)+1)=((a+1:Nat):Int):=wrn _ (by omega) (by omega)
 rw [e1,e2,med_eq hC xs (a - 1) a (a+1) s (by omega) (by omega) (by omega) hs,oB]
def hintN:Sort.Hint→Int
 | .unknown=>0
 | .increasing=>1
 | .decreasing=>2
theorem piv_eq (xs:List g.α)(a b:Nat)(hab:a<b)(hb:b≤xs.length)(hl:xs.length<2305843009213693952) :
  fa7_.f g K xs (a:Int) (b:Int)=some (((Sort.choosePivot (ltC cf) xs.toArray a b).1:Int),hintN (Sort.choosePivot (ltC cf) xs.toArray a b).2):=by
 unfold fa7_.f Sort.choosePivot
 have e1:wr .i64 ((b:Int) - (a:Int))=((b - a:Nat):Int):=wrn _ (by omega) (by omega)
 have e2:wr .i64 (Int.tdiv ((b - a:Nat):Int) 4)=(((b - a) / 4:Nat):Int):=by rw [Int.tdiv_eq_ediv_of_nonneg (by omega)]; exact wrn _ (by omega) (by omega)
 have e3:∀ m:Nat,m≤3→wr .i64 ((((b - a) / 4:Nat):Int)*(m:Int))=(((b - a) / 4*m:Nat):Int):=fun m hm=>wrn _ (by simp) (by
  have:(b - a) / 4*m≤(b - a) / 4*3:=Nat.mul_le_mul_left _ hm
  omega)
 have e4:∀ m:Nat,m≤3→wr .i64 ((a:Int)+(((b - a) / 4*m:Nat):Int))=((a+(b - a) / 4*m:Nat):Int):=fun m hm=>wrn _ (by omega) (by
  have:(b - a) / 4*m≤(b - a) / 4*3:=Nat.mul_le_mul_left _ hm
  omega)
 have m1:=e3 1 (by omega); have m2:=e3 2 (by omega); have m3:=e3 3 (by omega)
 have n1:=e4 1 (by omega); have n2:=e4 2 (by omega); have n3:=e4 3 (by omega)
 have fin:∀ (p s:Nat),fa7_.j1 g (p:Int) (s:Int)=some ((p:Int),hintN (if s=0 then .increasing else if s=12 then .decreasing else .unknown)):=fun p s=>by
  unfold fa7_.j1
  by_cases c0:s=0
  ·subst c0; simp [hintN]
  ·by_cases c1:s=12
   ·subst c1; simp [hintN]
   ·rw [iN (by simp; omega),iN (by simp; omega),iN c0,iN c1]; rfl
 simp only [e1,e2]
 rw [show (1:Int)=((1:Nat):Int) from rfl,show (2:Int)=((2:Nat):Int) from rfl,show (3:Int)=((3:Nat):Int) from rfl,m1,m2,m3,n1,n2,n3]
 have j2:∀ (p q r t:Nat),p<xs.length→q<xs.length→r<xs.length→t<900→fa7_.j2 g K xs (r:Int) (q:Int) (p:Int) (t:Int)=some (((Sort.median (ltC cf) xs.toArray p q r t).1:Int),hintN (if (Sort.median (ltC cf) xs.toArray p q r t).2=0 then .increasing else if (Sort.median (ltC cf) xs.toArray p q r t).2=12 then .decreasing else .unknown)):=fun p q r t hp hq hr ht=>by
  unfold fa7_.j2
  rw [med_eq hC xs p q r t hp hq hr ht,oB]
  exact fin _ _
 by_cases c8:b - a≥8
 ·rw [iP (show decide ((8:Int)≤((b - a:Nat):Int))=true from dT (by omega))]
  simp only [iP c8]
  by_cases c50:b - a≥50
  ·rw [iP (show decide ((50:Int)≤((b - a:Nat):Int))=true from dT (by omega))]
   simp only [iP c50]
   have b1:1≤a+(b - a) / 4*1∧a+(b - a) / 4*1+1<xs.length:=by omega
   have b2:1≤a+(b - a) / 4*2∧a+(b - a) / 4*2+1<xs.length:=by omega
   have b3:1≤a+(b - a) / 4*3∧a+(b - a) / 4*3+1<xs.length:=by omega
   have q1:(Sort.medianAdjacent (ltC cf) xs.toArray (a+(b - a) / 4*1) 0).1<xs.length∧(Sort.medianAdjacent (ltC cf) xs.toArray (a+(b - a) / 4*1) 0).2≤0+3:=median_lt (ltC cf) xs.toArray _ _ _ 0 xs.length (by omega) (by omega) (by omega)
   have g1:=madj_eq hC xs (a+(b - a) / 4*1) 0 b1.1 b1.2 hl (by omega)
   rw [show (((0:Nat):Int))=(0:Int) from rfl] at g1
   rw [g1,oB]
   generalize Sort.medianAdjacent (ltC cf) xs.toArray (a+(b - a) / 4*1) 0=r1 at q1 ⊢
   simp only []
   have q2:(Sort.medianAdjacent (ltC cf) xs.toArray (a+(b - a) / 4*2) r1.2).1<xs.length∧(Sort.medianAdjacent (ltC cf) xs.toArray (a+(b - a) / 4*2) r1.2).2≤r1.2+3:=median_lt (ltC cf) xs.toArray _ _ _ _ xs.length (by omega) (by omega) (by omega)
   rw [madj_eq hC xs (a+(b - a) / 4*2) r1.2 b2.1 b2.2 hl (by omega),oB]
   generalize Sort.medianAdjacent (ltC cf) xs.toArray (a+(b - a) / 4*2) r1.2=r2 at q2 ⊢
   simp only []
   have q3:(Sort.medianAdjacent (ltC cf) xs.toArray (a+(b - a) / 4*3) r2.2).1<xs.length∧(Sort.medianAdjacent (ltC cf) xs.toArray (a+(b - a) / 4*3) r2.2).2≤r2.2+3:=median_lt (ltC cf) xs.toArray _ _ _ _ xs.length (by omega) (by omega) (by omega)
   rw [madj_eq hC xs (a+(b - a) / 4*3) r2.2 b3.1 b3.2 hl (by omega),oB]
   generalize Sort.medianAdjacent (ltC cf) xs.toArray (a+(b - a) / 4*3) r2.2=r3 at q3 ⊢
   simp only []
   exact j2 r1.1 r2.1 r3.1 r3.2 q1.1 q2.1 q3.1 (by omega)
  ·rw [iN (show ¬ decide ((50:Int)≤((b - a:Nat):Int))=true by simp; omega)]
   simp only [iN c50]
   exact j2 _ _ _ 0 (by omega) (by omega) (by omega) (by omega)
 ·rw [iN (show ¬ decide ((8:Int)≤((b - a:Nat):Int))=true by simp; omega)]
  simp only [iN c8]
  exact fin _ 0
end
variable {g:SortG} {K:Nat}
theorem rev_loop:∀ (r i j q:Nat) (xs:List g.α),j≤i+r→r<q→j<xs.length→xs.length<2305843009213693952 →
  fa6_.l1 g q xs (j:Int) (i:Int)=some (Sort.reverseLoop i j xs.toArray).toList
 | r,i,j,q,xs,h,hq,hj,hl=>by
  obtain ⟨q,rfl⟩:∃ m,q=m+1:=⟨q - 1,by omega⟩
  show fa6_.b1 g _ _ _ _=_
  unfold fa6_.b1
  rw [Sort.reverseLoop]
  by_cases c:i<j
  ·obtain ⟨r,rfl⟩:∃ m,r=m+1:=⟨r - 1,by omega⟩
   rw [iP (dT (by omega)),iP c,iP (by omega),iP (by omega),iP (by rw [List.length_set]; omega)]
   have e1:wr .i64 ((j:Int) - 1)=((j - 1:Nat):Int):=wrn _ (by omega) (by omega)
   have e2:wr .i64 ((i:Int)+1)=((i+1:Nat):Int):=wrn _ (by omega) (by omega)
   have hw:((xs.set (Int.toNat (i:Int)) (gt xs (j:Int))).set (Int.toNat (j:Int)) (gt xs (i:Int)))=(Sort.swp xs.toArray i j).toList:=by rw [swp_toArray,Int.toNat_natCast,Int.toNat_natCast]
   have hl2:=swp_len xs i j
   rw [e1,e2,hw,rev_loop r (i+1) (j - 1) q _ (by omega) (by omega) (by omega) (by omega),Array.toArray_toList]
  ·rw [iN (by simp; omega),iN c]
theorem rev_eq (a b:Nat)(xs:List g.α)(hab:a<b)(hb:b≤xs.length)(hl:xs.length<2305843009213693952)(hk:xs.length+1<K) :
  fa6_.f g K xs (a:Int) (b:Int)=some (Sort.reverseRange xs.toArray a b).toList:=by
 unfold fa6_.f Sort.reverseRange
 rw [show wr .i64 ((b:Int) - 1)=((b - 1:Nat):Int) from wrn _ (by omega) (by omega)]
 exact rev_loop b a (b - 1) K xs (by omega) (by omega) (by omega) hl
section
variable {g:SortG} {K:Nat} {cf:g.α→g.α→Int} (hC:∀ x y,g.cmp K x y=some (cf x y))
include hC
theorem pdq_front (a b lim:Nat)(self0:fc3_.Ty g)(rec1:List g.α→Bool→Bool→Int→Int→Int→Option (List g.α))(d:Array g.α)(wb wp:Bool)(hab:¬ b - a≤12)(h0:¬ lim=0)(hlim:lim<1000000)(hb:b≤d.size)(hl:d.size<2305843009213693952)(hK:d.size+20≤K) :
    fc3_.b1 g K self0 rec1 d.toList wp wb (a:Int) (b:Int) (lim:Int) =
      (let d1:=if (!wb)=true then Sort.breakPatterns d a b else d
       let limit:=if (!wb)=true then lim - 1 else lim
       let c:=Sort.choosePivot (ltC cf) d1 a b
       let d2:=if c.2 = .decreasing then Sort.reverseRange d1 a b else d1
       let pivot:=if c.2 = .decreasing then (b - 1) - (c.1 - a) else c.1
       let hint:=if c.2 = .decreasing then Sort.Hint.increasing else c.2
       let pi:=if (wb&&wp&&decide (hint = .increasing))=true then Sort.partialInsertionSort (ltC cf) d2 a b else (d2,false)
       if pi.2=true then some pi.1.toList else fc3_.j3 g K self0 wp wb (a:Int) (b:Int) rec1 (limit:Int) (pivot:Int) pi.1.toList):=by
  have hdl:d.toList.length=d.size:=Array.length_toList
  have e1:wr .i64 ((b:Int) - (a:Int))=((b - a:Nat):Int):=wrn _ (by omega) (by omega)
  have e2:wr .i64 ((b:Int) - 1)=((b - 1:Nat):Int):=wrn _ (by omega) (by omega)
  have hj5:∀ (limit pivot:Nat) (d2:Array g.α),d2.size=d.size→∀ (hint:Sort.Hint),fc3_.j2 g K self0 wp wb (a:Int) (b:Int) rec1 (limit:Int) d2.toList (hintN hint) (pivot:Int) =
      (let pi:=if (wb&&wp&&decide (hint = .increasing))=true then Sort.partialInsertionSort (ltC cf) d2 a b else (d2,false)
       if pi.2=true then some pi.1.toList else fc3_.j3 g K self0 wp wb (a:Int) (b:Int) rec1 (limit:Int) (pivot:Int) pi.1.toList):=fun limit pivot d2 h2 hint=>by
    have h2l:d2.toList.length=d.size:=by rw [Array.length_toList,h2]
    have hp:=pins_eq hC a b d2.toList (by omega) (by omega) (by omega) (by omega)
    rw [Array.toArray_toList] at hp
    unfold fc3_.j2 fc3_.j5
    cases wb <;> cases wp <;> cases hint <;> simp [hintN,hp]
  have hj1:∀ (limit:Nat) (d1:Array g.α),d1.size=d.size→fc3_.j1 g K self0 wp wb (a:Int) (b:Int) rec1 d1.toList (limit:Int) =
      (let c:=Sort.choosePivot (ltC cf) d1 a b
       let d2:=if c.2 = .decreasing then Sort.reverseRange d1 a b else d1
       let pivot:=if c.2 = .decreasing then (b - 1) - (c.1 - a) else c.1
       let hint:=if c.2 = .decreasing then Sort.Hint.increasing else c.2
       let pi:=if (wb&&wp&&decide (hint = .increasing))=true then Sort.partialInsertionSort (ltC cf) d2 a b else (d2,false)
       if pi.2=true then some pi.1.toList else fc3_.j3 g K self0 wp wb (a:Int) (b:Int) rec1 (limit:Int) (pivot:Int) pi.1.toList):=fun limit d1 h1=>by
    have h1l:d1.toList.length=d.size:=by rw [Array.length_toList,h1]
    have hp:=piv_eq hC d1.toList a b (by omega) (by omega) (by omega)
    have hr:=rev_eq (g:=g) (K:=K) a b d1.toList (by omega) (by omega) (by omega) (by omega)
    rw [Array.toArray_toList] at hp hr
    have hc:=Sort.choosePivot_holds (ltC cf) d1 a b (by omega)
    unfold fc3_.j1
    rw [hp,oB]
    generalize Sort.choosePivot (ltC cf) d1 a b=c at hc ⊢
    obtain ⟨c1,c2⟩:=c
    simp only at hc ⊢
    have e3:wr .i64 ((c1:Int) - (a:Int))=((c1 - a:Nat):Int):=wrn _ (by omega) (by omega)
    have e4:wr .i64 (((b - 1:Nat):Int) - ((c1 - a:Nat):Int))=((b - 1 - (c1 - a):Nat):Int):=wrn _ (by omega) (by omega)
    have hsz:=(Sort.reverseRange_holds d1 a b (by omega) (by omega)).1
    cases c2 with
    | decreasing =>
      rw [iP (show (hintN Sort.Hint.decreasing==2)=true from rfl),hr,oB,e2,e3,e4]
      simp only [if_true]
      exact hj5 limit (b - 1 - (c1 - a)) (Sort.reverseRange d1 a b) (by omega) .increasing
    | unknown =>
      rw [iN (show ¬ (hintN Sort.Hint.unknown==2)=true from by decide)]
      have:=hj5 limit c1 d1 h1 .unknown
      simpa using this
    | increasing =>
      rw [iN (show ¬ (hintN Sort.Hint.increasing==2)=true from by decide)]
      have:=hj5 limit c1 d1 h1 .increasing
      simpa using this
  unfold fc3_.b1
  rw [e1,iN (show ¬ decide (((b - a:Nat):Int)≤12)=true by simp; omega),iN (show ¬ ((lim:Int)==0)=true by simp; omega)]
  cases wb with
  | true=>simpa using hj1 lim d rfl
  | false =>
    have hbk:=brk_eq a b K d.toList (by omega) (by omega) (by omega) (by omega)
    rw [Array.toArray_toList] at hbk
    have e5:wr .i64 ((lim:Int) - 1)=((lim - 1:Nat):Int):=wrn _ (by omega) (by omega)
    have hsz:=(Sort.breakPatterns_holds d a b (by omega) (by omega)).1
    rw [iP (show (!false)=true from rfl),hbk,oB,e5]
    have:=hj1 (lim - 1) (Sort.breakPatterns d a b) hsz
    simpa using this
theorem pdq_j3 (a b lim pivot:Nat)(self0:fc3_.Ty g)(rec1:List g.α→Bool→Bool→Int→Int→Int→Option (List g.α))(d:Array g.α)(wb wp:Bool)(hp:pivot<b)(ha:a≤b)(hb:b≤d.size)(hl:d.size<2305843009213693952) :
  fc3_.j3 g K self0 wp wb (a:Int) (b:Int) rec1 (lim:Int) (pivot:Int) d.toList=fc3_.j4 g K self0 wp wb (a:Int) (b:Int) rec1 (lim:Int) (pivot:Int) d.toList (decide (a>0) && !ltC cf d[a - 1]! d[pivot]!):=by
 have hdl:d.toList.length=d.size:=Array.length_toList
 unfold fc3_.j3
 by_cases c:0<a
 ·have e1:wr .i64 ((a:Int) - 1)=((a - 1:Nat):Int):=wrn _ (by omega) (by omega)
  rw [iP (show decide ((0:Int)<(a:Int))=true from dT (by omega)),e1,iP (by omega),iP (by omega),hC,oB]
  have h1:=at_toArray d.toList (a - 1)
  have h2:=at_toArray d.toList pivot
  rw [Array.toArray_toList] at h1 h2
  rw [h1,h2,dT c,Bool.true_and]; rfl
 ·rw [iN (show ¬ decide ((0:Int)<(a:Int))=true by simp; omega),dF c,Bool.false_and]
end
section
variable {g:SortG} {cf:g.α→g.α→Int} {kc:Nat} (hA:∀ K,kc≤K→∀ x y,g.cmp K x y=some (cf x y))
include hA
omit hA in
theorem pdq_fin (F N:Nat)(e:Array g.α)(a b lim:Nat)(X:Option (List g.α))(hF:N+20+(b - a)<F)(hh:∀ K F q,N+20+(b - a)≤K→N+20+(b - a)≤F→b - a<q→fc3_.l1 g K (fc3_.f g F) q e.toList true true (a:Int) (b:Int) (lim:Int)=X):fc3_.f g F e.toList (a:Int) (b:Int) (lim:Int)=X:=by
 obtain ⟨F,rfl⟩:∃ m,F=m+1:=⟨F - 1,by omega⟩
 exact hh F F F (by omega) (by omega) (by omega)
theorem pdq_loop (h:Sort.SWO (ltC cf))(d:Array g.α)(a b limit:Nat)(wb wp:Bool):a≤b→b≤d.size→Sort.Below (ltC cf) a b d→d.size<2305843009213693952→limit<1000000→∀ K F q,kc+d.size+20+(b - a)≤K→kc+d.size+20+(b - a)≤F→b - a<q →
  fc3_.l1 g K (fc3_.f g F) q d.toList wp wb (a:Int) (b:Int) (limit:Int)=some (Sort.pdq (ltC cf) d a b limit wb wp).toList:=by
 fun_induction Sort.pdq (ltC cf) d a b limit wb wp
 case case1 d a b limit wb wp h12 =>
  intro hab hb _ hl hlim K F q hK hF hq
  have hC:=hA K (by omega)
  obtain ⟨q,rfl⟩:∃ m,q=m+1:=⟨q - 1,by omega⟩
  have hdl:d.toList.length=d.size:=Array.length_toList
  show fc3_.b1 g _ _ _ _ _ _ _ _ _=_
  unfold fc3_.b1
  have:=ins_eq hC a b d.toList hab (by omega) (by omega) (by omega)
  rw [Array.toArray_toList] at this
  rw [show wr .i64 ((b:Int) - (a:Int))=((b - a:Nat):Int) from wrn _ (by omega) (by omega),iP (show decide (((b - a:Nat):Int)≤12)=true from dT (by omega)),this]; rfl
 case case2 d a b wb wp h12 =>
  intro hab hb _ hl hlim K F q hK hF hq
  have hC:=hA K (by omega)
  obtain ⟨q,rfl⟩:∃ m,q=m+1:=⟨q - 1,by omega⟩
  have hdl:d.toList.length=d.size:=Array.length_toList
  show fc3_.b1 g _ _ _ _ _ _ _ _ _=_
  unfold fc3_.b1
  have:=heap_eq hC a b d.toList hab (by omega) (by omega) (by omega)
  rw [Array.toArray_toList] at this
  rw [show wr .i64 ((b:Int) - (a:Int))=((b - a:Nat):Int) from wrn _ (by omega) (by omega),iN (show ¬ decide (((b - a:Nat):Int)≤12)=true by simp; omega),iP (show (((0:Nat):Int)==0)=true from rfl),this]; rfl
 case case3 d a b limit wb wp h12 hl0 d1 c d2 hint pi hpi2 =>
  intro hab hb hB hl hlim K F q hK hF hq
  have hC:=hA K (by omega)
  obtain ⟨q,rfl⟩:∃ m,q=m+1:=⟨q - 1,by omega⟩
  refine (pdq_front hC a b limit (fc3_.f g F) _ d wb wp h12 hl0 hlim hb hl (by omega)).trans ?_
  exact iP hpi2
 case case4 d a b limit0 wb wp h12 hl0 d1 limit c d2 pivot hint pi hpi2 d3 hc mid d4 hx hg ih1 =>
  intro hab hb hB hl hlim K F q hK hF hq
  have hC:=hA K (by omega)
  obtain ⟨q,rfl⟩:∃ m,q=m+1:=⟨q - 1,by omega⟩
  refine (pdq_front hC a b limit0 (fc3_.f g F) _ d wb wp h12 hl0 hlim hb hl (by omega)).trans ?_
  refine (iN hpi2).trans ?_
  have s1:Sort.PermIn a b d d1:=Sort.step_break d hab hb _
  have b1:b≤d1.size:=by rw [s1.1]; exact hb
  have s2:Sort.PermIn a b d1 d2:=Sort.step_reverse Sort.reverseRange_holds d1 hab b1 _
  have b2:b≤d2.size:=by rw [s2.1]; exact b1
  have B2:Sort.Below (ltC cf) a b d2:=(hB.perm hb s1).perm b1 s2
  have s3:=Sort.step_partial (Sort.partialInsertionSort_holds (lt:=ltC cf)) h d2 (a:=a) (b:=b) (by omega) b2 B2 ((wb&&wp&&decide (hint=Sort.Hint.increasing))=true)
  have s3':Sort.PermIn a b d2 d3:=s3.1
  have b3:b≤d3.size:=by rw [s3'.1]; exact b2
  have e3:d3.size=d.size:=by rw [s3'.1,s2.1,s1.1]
  have B3:Sort.Below (ltC cf) a b d3:=B2.perm b2 s3'
  have hc0:=Sort.choosePivot_holds (ltC cf) d1 a b (by omega)
  have hpv:a≤pivot∧pivot<b:=Sort.pivot_range hc0.1 hc0.2 _
  refine (pdq_j3 hC a b limit pivot (fc3_.f g F) _ d3 wb wp hpv.2 hab b3 (by omega)).trans ?_
  have hpe:=peq_eq hC a b pivot d3.toList hpv.1 hpv.2 (by rw [Array.length_toList]; exact b3) (by rw [Array.length_toList]; omega) (by rw [Array.length_toList]; omega)
  rw [Array.toArray_toList,hx] at hpe
  unfold fc3_.j4
  rw [iP hc,hpe,oB]
  simp only [Bool.and_eq_true,decide_eq_true_eq,Bool.not_eq_true'] at hc
  obtain ⟨_,hm2,hs4,hB4,hfin⟩:=Sort.round_eq h (Sort.partitionEqual_holds (lt:=ltC cf)) hc.1 hpv.1 hpv.2 b3 B3 hc.2 hx
  have hlim2:limit≤limit0:=by show (if _ then _ else _)≤_; (split; exact Nat.sub_le _ _; exact Nat.le_refl _)
  exact ih1 hm2 (by rw [hs4]; exact b3) hB4 (by omega) (by omega) K F q (by omega) (by omega) (by omega)
 case case5 d a b limit wb wp h12 hl0 d1 c d2 pivot hint pi hpi2 d3 hc mid d4 hx hg =>
  intro hab hb hB
  have s1:Sort.PermIn a b d d1:=Sort.step_break d hab hb _
  have b1:b≤d1.size:=by rw [s1.1]; exact hb
  have s2:Sort.PermIn a b d1 d2:=Sort.step_reverse Sort.reverseRange_holds d1 hab b1 _
  have b2:b≤d2.size:=by rw [s2.1]; exact b1
  have B2:Sort.Below (ltC cf) a b d2:=(hB.perm hb s1).perm b1 s2
  have s3:=Sort.step_partial (Sort.partialInsertionSort_holds (lt:=ltC cf)) h d2 (a:=a) (b:=b) (by omega) b2 B2 ((wb&&wp&&decide (hint=Sort.Hint.increasing))=true)
  have s3':Sort.PermIn a b d2 d3:=s3.1
  have b3:b≤d3.size:=by rw [s3'.1]; exact b2
  have B3:Sort.Below (ltC cf) a b d3:=B2.perm b2 s3'
  have hc0:=Sort.choosePivot_holds (ltC cf) d1 a b (by omega)
  have hpv:a≤pivot∧pivot<b:=Sort.pivot_range hc0.1 hc0.2 _
  simp only [Bool.and_eq_true,decide_eq_true_eq,Bool.not_eq_true'] at hc
  obtain ⟨g1,g2,_⟩:=Sort.round_eq h (Sort.partitionEqual_holds (lt:=ltC cf)) hc.1 hpv.1 hpv.2 b3 B3 hc.2 hx
  exact absurd ⟨g1,g2⟩ hg
 case case6 d a b limit0 wb wp h12 hl0 d1 limit c d2 pivot hint pi hpi2 d3 hc mid ap d4 hx hg hlt ih3 ih2 ih1 =>
  intro hab hb hB hl hlim K F q hK hF hq
  have hC:=hA K (by omega)
  obtain ⟨q,rfl⟩:∃ m,q=m+1:=⟨q - 1,by omega⟩
  refine (pdq_front hC a b limit0 (fc3_.f g F) _ d wb wp h12 hl0 hlim hb hl (by omega)).trans ?_
  refine (iN hpi2).trans ?_
  have s1:Sort.PermIn a b d d1:=Sort.step_break d hab hb _
  have b1:b≤d1.size:=by rw [s1.1]; exact hb
  have s2:Sort.PermIn a b d1 d2:=Sort.step_reverse Sort.reverseRange_holds d1 hab b1 _
  have b2:b≤d2.size:=by rw [s2.1]; exact b1
  have B2:Sort.Below (ltC cf) a b d2:=(hB.perm hb s1).perm b1 s2
  have s3:=Sort.step_partial (Sort.partialInsertionSort_holds (lt:=ltC cf)) h d2 (a:=a) (b:=b) (by omega) b2 B2 ((wb&&wp&&decide (hint=Sort.Hint.increasing))=true)
  have s3':Sort.PermIn a b d2 d3:=s3.1
  have b3:b≤d3.size:=by rw [s3'.1]; exact b2
  have e3:d3.size=d.size:=by rw [s3'.1,s2.1,s1.1]
  have B3:Sort.Below (ltC cf) a b d3:=B2.perm b2 s3'
  have hc0:=Sort.choosePivot_holds (ltC cf) d1 a b (by omega)
  have hpv:a≤pivot∧pivot<b:=Sort.pivot_range hc0.1 hc0.2 _
  refine (pdq_j3 hC a b limit pivot (fc3_.f g F) _ d3 wb wp hpv.2 hab b3 (by omega)).trans ?_
  have hpe:=part_eq hC a b pivot d3.toList hpv.1 hpv.2 (by rw [Array.length_toList]; exact b3) (by rw [Array.length_toList]; omega) (by rw [Array.length_toList]; omega)
  rw [Array.toArray_toList,hx] at hpe
  unfold fc3_.j4
  rw [iN hc,hpe,oB]
  obtain ⟨g1,g2,hs4,hBa,hBr,hleft,_⟩:=Sort.round_part h (Sort.partition_holds (lt:=ltC cf)) hpv.1 hpv.2 b3 B3 hx
  have hlim2:limit≤limit0:=by show (if _ then _ else _)≤_; (split; exact Nat.sub_le _ _; exact Nat.le_refl _)
  have f1:wr .i64 ((mid:Int) - (a:Int))=((mid - a:Nat):Int):=wrn _ (by omega) (by omega)
  have f2:wr .i64 ((b:Int) - (mid:Int))=((b - mid:Nat):Int):=wrn _ (by omega) (by omega)
  have f3:wr .i64 ((b:Int) - (a:Int))=((b - a:Nat):Int):=wrn _ (by omega) (by omega)
  have f4:wr .i64 (Int.tdiv ((b - a:Nat):Int) 8)=(((b - a) / 8:Nat):Int):=by rw [Int.tdiv_eq_ediv_of_nonneg (by omega)]; exact wrn _ (by omega) (by omega)
  have f5:wr .i64 ((mid:Int)+1)=((mid+1:Nat):Int):=wrn _ (by omega) (by omega)
  simp only [f1,f2,f3,f4,f5]
  rw [iP (show decide (((mid - a:Nat):Int)<((b - mid:Nat):Int))=true from dT (by omega))]
  have hb4:b≤d4.size:=by omega
  obtain ⟨l1,l2⟩:=Sort.pdq_holds (Sort.insertionSort_holds (lt:=ltC cf)) (Sort.heapSort_holds (lt:=ltC cf)) (Sort.partialInsertionSort_holds (lt:=ltC cf)) (Sort.partition_holds (lt:=ltC cf)) (Sort.partitionEqual_holds (lt:=ltC cf)) Sort.reverseRange_holds h d4 a mid limit true true g1 (by omega) hBa
  obtain ⟨hBL,hfin⟩:=hleft _ l1 l2
  rw [pdq_fin F (kc+d4.size) d4 a mid limit _ (by omega) (fun K F q k1 k2 k3=>ih3 g1 (by omega) hBa (by omega) (by omega) K F q (by omega) (by omega) k3),oB]
  have:=ih1 (by omega) (by rw [l1.1]; exact hb4) hBL (by rw [l1.1]; omega) (by omega) K F q (by rw [l1.1]; omega) (by rw [l1.1]; omega) (by omega)
  rw [← this]
  congr 1
  simp only [ge_iff_le,decide_eq_decide]; omega
 case case7 d a b limit0 wb wp h12 hl0 d1 limit c d2 pivot hint pi hpi2 d3 hc mid ap d4 hx hg hlt ih3 ih2 ih1 =>
  intro hab hb hB hl hlim K F q hK hF hq
  have hC:=hA K (by omega)
  obtain ⟨q,rfl⟩:∃ m,q=m+1:=⟨q - 1,by omega⟩
  refine (pdq_front hC a b limit0 (fc3_.f g F) _ d wb wp h12 hl0 hlim hb hl (by omega)).trans ?_
  refine (iN hpi2).trans ?_
  have s1:Sort.PermIn a b d d1:=Sort.step_break d hab hb _
  have b1:b≤d1.size:=by rw [s1.1]; exact hb
  have s2:Sort.PermIn a b d1 d2:=Sort.step_reverse Sort.reverseRange_holds d1 hab b1 _
  have b2:b≤d2.size:=by rw [s2.1]; exact b1
  have B2:Sort.Below (ltC cf) a b d2:=(hB.perm hb s1).perm b1 s2
  have s3:=Sort.step_partial (Sort.partialInsertionSort_holds (lt:=ltC cf)) h d2 (a:=a) (b:=b) (by omega) b2 B2 ((wb&&wp&&decide (hint=Sort.Hint.increasing))=true)
  have s3':Sort.PermIn a b d2 d3:=s3.1
  have b3:b≤d3.size:=by rw [s3'.1]; exact b2
  have e3:d3.size=d.size:=by rw [s3'.1,s2.1,s1.1]
  have B3:Sort.Below (ltC cf) a b d3:=B2.perm b2 s3'
  have hc0:=Sort.choosePivot_holds (ltC cf) d1 a b (by omega)
  have hpv:a≤pivot∧pivot<b:=Sort.pivot_range hc0.1 hc0.2 _
  refine (pdq_j3 hC a b limit pivot (fc3_.f g F) _ d3 wb wp hpv.2 hab b3 (by omega)).trans ?_
  have hpe:=part_eq hC a b pivot d3.toList hpv.1 hpv.2 (by rw [Array.length_toList]; exact b3) (by rw [Array.length_toList]; omega) (by rw [Array.length_toList]; omega)
  rw [Array.toArray_toList,hx] at hpe
  unfold fc3_.j4
  rw [iN hc,hpe,oB]
  obtain ⟨g1,g2,hs4,hBa,hBr,_,hright⟩:=Sort.round_part h (Sort.partition_holds (lt:=ltC cf)) hpv.1 hpv.2 b3 B3 hx
  have hlim2:limit≤limit0:=by show (if _ then _ else _)≤_; (split; exact Nat.sub_le _ _; exact Nat.le_refl _)
  have f1:wr .i64 ((mid:Int) - (a:Int))=((mid - a:Nat):Int):=wrn _ (by omega) (by omega)
  have f2:wr .i64 ((b:Int) - (mid:Int))=((b - mid:Nat):Int):=wrn _ (by omega) (by omega)
  have f3:wr .i64 ((b:Int) - (a:Int))=((b - a:Nat):Int):=wrn _ (by omega) (by omega)
  have f4:wr .i64 (Int.tdiv ((b - a:Nat):Int) 8)=(((b - a) / 8:Nat):Int):=by rw [Int.tdiv_eq_ediv_of_nonneg (by omega)]; exact wrn _ (by omega) (by omega)
  have f5:wr .i64 ((mid:Int)+1)=((mid+1:Nat):Int):=wrn _ (by omega) (by omega)
  simp only [f1,f2,f3,f4,f5]
  rw [iN (show ¬ decide (((mid - a:Nat):Int)<((b - mid:Nat):Int))=true by simp; omega)]
  have hb4:b≤d4.size:=by omega
  obtain ⟨l1,l2⟩:=Sort.pdq_holds (Sort.insertionSort_holds (lt:=ltC cf)) (Sort.heapSort_holds (lt:=ltC cf)) (Sort.partialInsertionSort_holds (lt:=ltC cf)) (Sort.partition_holds (lt:=ltC cf)) (Sort.partitionEqual_holds (lt:=ltC cf)) Sort.reverseRange_holds h d4 (mid+1) b limit true true (by omega) (by omega) hBr
  obtain ⟨hBL,hfin⟩:=hright _ l1 l2
  rw [pdq_fin F (kc+d4.size) d4 (mid+1) b limit _ (by omega) (fun K F q k1 k2 k3=>ih3 (by omega) (by omega) hBr (by omega) (by omega) K F q (by omega) (by omega) k3),oB]
  have:=ih1 g1 (by rw [l1.1]; omega) hBL (by rw [l1.1]; omega) (by omega) K F q (by rw [l1.1]; omega) (by rw [l1.1]; omega) (by omega)
  rw [← this]
  congr 1
  simp only [ge_iff_le,decide_eq_decide]; omega
 case case8 d a b limit wb wp h12 hl0 d1 c d2 pivot hint pi hpi2 d3 hc mid ap d4 hx hg =>
  intro hab hb hB
  have s1:Sort.PermIn a b d d1:=Sort.step_break d hab hb _
  have b1:b≤d1.size:=by rw [s1.1]; exact hb
  have s2:Sort.PermIn a b d1 d2:=Sort.step_reverse Sort.reverseRange_holds d1 hab b1 _
  have b2:b≤d2.size:=by rw [s2.1]; exact b1
  have B2:Sort.Below (ltC cf) a b d2:=(hB.perm hb s1).perm b1 s2
  have s3:=Sort.step_partial (Sort.partialInsertionSort_holds (lt:=ltC cf)) h d2 (a:=a) (b:=b) (by omega) b2 B2 ((wb&&wp&&decide (hint=Sort.Hint.increasing))=true)
  have s3':Sort.PermIn a b d2 d3:=s3.1
  have b3:b≤d3.size:=by rw [s3'.1]; exact b2
  have B3:Sort.Below (ltC cf) a b d3:=B2.perm b2 s3'
  have hc0:=Sort.choosePivot_holds (ltC cf) d1 a b (by omega)
  have hpv:a≤pivot∧pivot<b:=Sort.pivot_range hc0.1 hc0.2 _
  obtain ⟨g1,g2,_⟩:=Sort.round_part h (Sort.partition_holds (lt:=ltC cf)) hpv.1 hpv.2 b3 B3 hx
  exact absurd ⟨g1,g2⟩ hg
theorem sort_eq (h:Sort.SWO (ltC cf))(k:Nat)(xs:List g.α)(hl:xs.length<1000000000000)(hk:kc+2*xs.length+30<k):∃ ys,ff5_.f g k xs=some ys∧ys.Perm xs∧ys.Pairwise (fun x y=>¬ cf y x<0):=by
 have hlen:Sort.bitsLen xs.length<1000:=by
  have:=pow_bl xs.length
  unfold Sort.bitsLen at this ⊢
  split
  ·omega
  ·rename_i h0
   rw [iN h0] at this
   refine Decidable.byContradiction fun c=>?_
   have h1:=Nat.pow_le_pow_right (n:=2) (by omega) (show 64≤xs.length.log2+1 by omega)
   have h2:=(this h0).2
   omega
 obtain ⟨p1,p2⟩:=Sort.pdq_holds (Sort.insertionSort_holds (lt:=ltC cf)) (Sort.heapSort_holds (lt:=ltC cf)) (Sort.partialInsertionSort_holds (lt:=ltC cf)) (Sort.partition_holds (lt:=ltC cf)) (Sort.partitionEqual_holds (lt:=ltC cf)) Sort.reverseRange_holds h xs.toArray 0 xs.length (Sort.bitsLen xs.length) true true (Nat.zero_le _) (by simp) (Or.inl rfl)
 refine ⟨(Sort.pdq (ltC cf) xs.toArray 0 xs.length (Sort.bitsLen xs.length) true true).toList,?_,?_,?_⟩
 ·unfold ff5_.f
  rw [wr_u64_id (by omega) (by omega),len_eq xs.length (by omega),oB]
  obtain ⟨k,rfl⟩:∃ m,k=m+1:=⟨k - 1,by omega⟩
  have:=pdq_loop hA h xs.toArray 0 xs.length (Sort.bitsLen xs.length) true true (Nat.zero_le _) (by simp) (Or.inl rfl) (by simp; omega) (by omega) k k k (by simp; omega) (by simp; omega) (by omega)
  show Option.bind (fc3_.l1 g k (fc3_.f g k) k xs true true 0 (xs.length:Int) _) _=_
  rw [show (0:Int)=((0:Nat):Int) from rfl,show xs=xs.toArray.toList from rfl,show xs.toArray.toList.length=xs.length from rfl,this]; rfl
 ·have h3:=p1.2.2
  have h4:(Sort.pdq (ltC cf) xs.toArray 0 xs.length (Sort.bitsLen xs.length) true true).size=xs.length:=by rw [p1.1]; simp
  have e1:(xs.toArray.extract 0 xs.length).toList=xs:=by simp
  have e2:∀ R:Array g.α,R.size=xs.length→(R.extract 0 xs.length).toList=R.toList:=fun R h=>by rw [← h]; simp
  rw [e1,e2 _ h4] at h3
  exact h3
 ·generalize Sort.pdq (ltC cf) xs.toArray 0 xs.length (Sort.bitsLen xs.length) true true=R at p1 p2
  have hR:R.size=xs.length:=by rw [p1.1]; simp
  rw [List.pairwise_iff_getElem]
  intro i j hi hj hij
  have:=p2 i j (Nat.zero_le _) hij (by simpa [hR] using hj)
  rw [getElem!_pos R i (by simpa using hi),getElem!_pos R j (by simpa using hj)] at this
  unfold ltC at this
  simpa using this
end
abbrev KvS:=List ((List Int)×(List Int))
abbrev KvB:=List ((List Int)×Bool)
theorem lexW_lt (a b:List Int):lexW a b<0↔rd a 3<rd b 3∨(rd a 3=rd b 3∧(rd a 2<rd b 2∨(rd a 2=rd b 2∧(rd a 1<rd b 1∨(rd a 1=rd b 1∧rd a 0<rd b 0))))):=by
 unfold lexW
 by_cases e:a=b
 ·rw [iP e,e]; omega
 rw [iN e]
 split
 ·split
  ·split
   ·split <;> omega
   ·split <;> omega
  ·split <;> omega
 ·split <;> omega
def cfW (x y:List Int×List Int):Int:=lexW x.1 y.1
theorem cfW_lt (x y:List Int×List Int):ltC cfW x y=decide (lexW x.1 y.1<0):=rfl
theorem swoW:Sort.SWO (ltC cfW) where
 irrefl x:=by rw [cfW_lt,decide_eq_false_iff_not,lexW_lt]; omega
 trans x y z h1 h2:=by rw [cfW_lt,decide_eq_true_eq,lexW_lt] at *; omega
 ntrans x y z h1 h2:=by rw [cfW_lt,decide_eq_false_iff_not,lexW_lt] at *; omega
theorem sto_base {k:Nat}(x:L39×L39×Bool×KvS×Bool×Bool×KvB)(hx:x.1.2.2.2.2.length≤2000):∀ (l:KvS) (q i:Nat) (out:KvS),x.1.2.2.2.2.drop i=l→i≤x.1.2.2.2.2.length→l.length<q→out.length≤i→fc_.l2 k x q out (i:Int)=fc_.j1 k x (out++l.filter fun s=>(aget x.2.2.2.1 s.1).isNone)
 | [],q,i,out,hd,hi,hq,ho=>by
  obtain ⟨q,rfl⟩:∃ m,q=m+1:=⟨q - 1,by omega⟩
  have:x.1.2.2.2.2.length≤i:=by simpa using hd
  show fc_.b2 _ _ _ _ _=_
  unfold fc_.b2
  rw [iN (by simp; omega)]; simp
 | s::l,q,i,out,hd,hi,hq,ho=>by
  simp only [List.length_cons] at hq
  obtain ⟨q,rfl⟩:∃ m,q=m+1:=⟨q - 1,by omega⟩
  obtain ⟨h1,h2,h3⟩:=gt_dropA hd
  show fc_.b2 _ _ _ _ _=_
  unfold fc_.b2 fc_.j4 fc_.j3
  rw [iP (by simp; omega),iP (by omega),h1,next1 i (by omega)]
  cases hg:aget x.2.2.2.1 s.1 with
  | none =>
   rw [iP (by simp [lk]),iP (by simp only [List.length_singleton]; omega),sto_base x hx l q (i+1) _ h3 (by omega) (by omega) (by simp; omega),List.filter_cons_of_pos (by simp [hg]),List.append_assoc]
   rfl
  | some w =>
   rw [iN (by simp [lk]),sto_base x hx l q (i+1) _ h3 (by omega) (by omega) (by omega),List.filter_cons_of_neg (by simp [hg])]
theorem rd_at (xs:List Int){i:Nat}(h:i<xs.length):rd xs (i:Int)=xs[i]:=by
 rw [rd_getD,List.getD_eq_getElem?_getD,List.getElem?_eq_getElem h]; rfl
theorem drop_dec {α:Type} [DecidableEq α] (x y:List α){i:Nat}(hx:i<x.length)(hy:i<y.length):decide (x.drop i=y.drop i)=(decide (x[i]=y[i])&&decide (x.drop (i+1)=y.drop (i+1))):=by
 rw [← Bool.decide_and]
 refine decide_eq_decide.2 ?_
 rw [List.drop_eq_getElem_cons hx,List.drop_eq_getElem_cons hy,List.cons.injEq]
theorem eqB_loop (x y:List Int)(hl:x.length=y.length)(hm:x.length<1000000):∀ (r q i:Nat),i+r=x.length→r<q→fa8_.l1 x y q (i:Int)=some (decide (x.drop i=y.drop i))
 | 0,q,i,hi,hq=>by
  obtain ⟨q,rfl⟩:∃ m,q=m+1:=⟨q - 1,by omega⟩
  show fa8_.b1 _ _ _ _=_
  unfold fa8_.b1 fa8_.j1
  rw [iN (by simp; omega),List.drop_eq_nil_of_le (by omega),List.drop_eq_nil_of_le (by omega)]
  rfl
 | r+1,q,i,hi,hq=>by
  obtain ⟨q,rfl⟩:∃ m,q=m+1:=⟨q - 1,by omega⟩
  show fa8_.b1 _ _ _ _=_
  unfold fa8_.b1
  rw [iP (by simp; omega),iP (by omega),iP (by omega),next1 i (by omega),rd_at x (by omega),rd_at y (by omega),drop_dec x y (by omega) (by omega)]
  by_cases c:x[i]'(by omega)=y[i]'(by omega)
  ·rw [iN (by simp [c]),eqB_loop x y hl hm r q (i+1) (by omega) (by omega),dT c,Bool.true_and]
  ·rw [iP (by simpa using c),dF c,Bool.false_and]
theorem eqB_eq {k:Nat}(x y:List Int)(hm:x.length<1000000)(hk:x.length<k):fa8_.f k x y=some (decide (x=y)):=by
 unfold fa8_.f
 by_cases c:x.length=y.length
 ·rw [iN (by simp [c])]
  exact eqB_loop x y c hm x.length k 0 (by omega) hk
 ·rw [iP (by simp; omega),dF (fun e=>c (by rw [e]))]
theorem eqS_loop (x y:KvS)(hl:x.length=y.length)(hm:x.length<1000000):∀ (r q i:Nat),i+r=x.length→r<q→ff4_.l1 x y q (i:Int)=some (decide (x.drop i=y.drop i))
 | 0,q,i,hi,hq=>by
  obtain ⟨q,rfl⟩:∃ m,q=m+1:=⟨q - 1,by omega⟩
  show ff4_.b1 _ _ _ _=_
  unfold ff4_.b1 ff4_.j1
  rw [iN (by simp; omega),List.drop_eq_nil_of_le (by omega),List.drop_eq_nil_of_le (by omega)]
  rfl
 | r+1,q,i,hi,hq=>by
  obtain ⟨q,rfl⟩:∃ m,q=m+1:=⟨q - 1,by omega⟩
  show ff4_.b1 _ _ _ _=_
  unfold ff4_.b1
  rw [iP (by simp; omega),iP (by omega),iP (by omega),next1 i (by omega),gt_natG x (by omega),gt_natG y (by omega),drop_dec x y (by omega) (by omega)]
  by_cases c:x[i]'(by omega)=y[i]'(by omega)
  ·rw [iN (by simp [c]),eqS_loop x y hl hm r q (i+1) (by omega) (by omega),dT c,Bool.true_and]
  ·rw [iP (by simpa using c),dF c,Bool.false_and]
theorem eqS_eq {k:Nat}(x y:KvS)(hm:x.length<1000000)(hk:x.length<k):ff4_.f k x y=some (decide (x=y)):=by
 unfold ff4_.f
 by_cases c:x.length=y.length
 ·rw [iN (by simp [c])]
  exact eqS_loop x y c hm x.length k 0 (by omega) hk
 ·rw [iP (by simp; omega),dF (fun e=>c (by rw [e]))]
def cfA (x y:L39):Int:=Lib.compareBytes (akey x.1) (akey y.1)
theorem cfA_lt (x y:L39):ltC cfA x y=decide (akey x.1<akey y.1):=by
 unfold ltC cfA
 exact decide_eq_decide.2 (cb_lt _ _)
theorem swoA:Sort.SWO (ltC cfA) where
 irrefl x:=by rw [cfA_lt]; exact dF (List.lt_irrefl (akey x.1))
 trans x y z h1 h2:=by rw [cfA_lt] at *; simp only [decide_eq_true_eq] at *; exact List.lt_trans h1 h2
 ntrans x y z h1 h2:=by
  rw [cfA_lt] at *
  simp only [decide_eq_false_iff_not,List.not_lt] at *
  exact List.le_trans h2 h1
theorem topics_loop (l:List L51)(n:Nat)(hn:n<l.length)(rec1:Int→Option Bool)(ht:(l[n]).2.1.length≤1000)(hl:l.length≤1000):∀ (r q j:Nat),j+r=(l[n]).2.1.length→r<q→fb7_.l2 l l (n:Int) rec1 q (j:Int)=rec1 ((n+1:Nat):Int)
 | 0,q,j,hj,hq=>by
  obtain ⟨q,rfl⟩:∃ m,q=m+1:=⟨q - 1,by omega⟩
  show fb7_.b2 _ _ _ _ _ _=_
  unfold fb7_.b2 fb7_.j2
  rw [gt_natG l hn,iN (by simp; omega),next1 n (by omega)]
 | r+1,q,j,hj,hq=>by
  obtain ⟨q,rfl⟩:∃ m,q=m+1:=⟨q - 1,by omega⟩
  show fb7_.b2 _ _ _ _ _ _=_
  unfold fb7_.b2
  rw [gt_natG l hn,iP (by simp; omega),iP (by omega),iP (by omega),iP (by omega),iN (by simp),next1 j (by omega)]
  exact topics_loop l n hn rec1 ht hl r q (j+1) (by omega) (by omega)
theorem sameLogs_loop (k:Nat)(l:List L51)(hl:l.length≤1000)(hs:∀ g∈l,g.2.1.length≤1000)(hk:1000<k):∀ (r q n:Nat),n+r=l.length→r<q→fb7_.l1 k l l q (n:Int)=some true
 | 0,q,n,hn,hq=>by
  obtain ⟨q,rfl⟩:∃ m,q=m+1:=⟨q - 1,by omega⟩
  show fb7_.b1 _ _ _ _ _=_
  unfold fb7_.b1 fb7_.j1
  rw [iN (by simp; omega)]
 | r+1,q,n,hn,hq=>by
  obtain ⟨q,rfl⟩:∃ m,q=m+1:=⟨q - 1,by omega⟩
  have hnl:n<l.length:=by omega
  have h1:=hs l[n] (List.getElem_mem hnl)
  show fb7_.b1 _ _ _ _ _=_
  unfold fb7_.b1 fb7_.j3
  rw [iP (by simp; omega),iP (by omega),iP (by omega),iN (by simp),iN (by simp),iN (by simp),iP (by omega)]
  refine (topics_loop l n hnl _ h1 hl (l[n]).2.1.length k 0 (by omega) (by omega)).trans ?_
  exact sameLogs_loop k l hl hs hk r q (n+1) (by omega) (by omega)
theorem same_l (x:L39)(hl:x.2.2.2.2.length<4611686018427387904):∀ (r i q:Nat),i+r=x.2.2.2.2.length→r<q→fe_.l1 x x q (i:Int)=some true
 | 0,i,q,hi,hq=>by
  obtain ⟨q,rfl⟩:∃ m,q=m+1:=⟨q - 1,by omega⟩
  show fe_.b1 _ _ _ _=_
  unfold fe_.b1
  rw [iN (by simp; omega)]; rfl
 | r+1,i,q,hi,hq=>by
  obtain ⟨q,rfl⟩:∃ m,q=m+1:=⟨q - 1,by omega⟩
  show fe_.b1 _ _ _ _=_
  unfold fe_.b1
  rw [iP (by simp; omega),iP (by omega),iP (by omega),iN (by simp),next1 i (by omega)]
  exact same_l x hl r (i+1) q (by omega) (by omega)
theorem same_self (x:L39)(k:Nat)(hk:x.2.2.2.2.length<k)(hl:x.2.2.2.2.length<4611686018427387904):fe_.f k x x=some true:=by
 unfold fe_.f fe_.j1
 rw [iN (by simp),iN (by simp),iN (by simp),iN (by simp),iN (by simp)]
 exact same_l x hl x.2.2.2.2.length 0 k (by omega) hk
theorem find_loop (xs:List L39)(a:List Int)(hl:xs.length<4611686018427387904):∀ (l:List L39) (q i:Nat),xs.drop i=l→i≤xs.length→l.length<q→fe0_.l1 xs a q (i:Int)=some (match findA l a with | some x=>(x,true) | none=>((([0,0,0,0,0,0,0,0,0,0,0,0,0,0,0,0,0,0,0,0],0,[0,0,0,0],[],[]):L39),false))
 | [],q,i,hd,hi,hq=>by
  obtain ⟨q,rfl⟩:∃ m,q=m+1:=⟨q - 1,by omega⟩
  have:xs.length≤i:=by simpa using hd
  show fe0_.b1 _ _ _ _=_
  unfold fe0_.b1
  rw [iN (by simp; omega)]; rfl
 | x::l,q,i,hd,hi,hq=>by
  simp only [List.length_cons] at hq
  obtain ⟨q,rfl⟩:∃ m,q=m+1:=⟨q - 1,by omega⟩
  obtain ⟨h1,h2,h3⟩:=gt_dropA hd
  show fe0_.b1 _ _ _ _=_
  unfold fe0_.b1 findA
  rw [iP (by simp; omega),iP (by omega),h1]
  by_cases c:x.1=a
  ·rw [dT c,iP rfl,iP c]
  ·rw [dF c,iN (by simp),iN c,next1 i (by omega)]
   exact find_loop xs a hl l q (i+1) h3 (by omega) (by omega)
theorem find_eq (xs:List L39)(a:List Int)(k:Nat)(hk:xs.length<k)(hl:xs.length<4611686018427387904):fe0_.f k xs a=some (match findA xs a with | some x=>(x,true) | none=>((([0,0,0,0,0,0,0,0,0,0,0,0,0,0,0,0,0,0,0,0],0,[0,0,0,0],[],[]):L39),false)) :=
 find_loop xs a hl xs k 0 rfl (by omega) hk
abbrev Hp:=(List ((List Int)×Option Nat))×(List L76)×(List KvS)×(List KvB)
abbrev kO:List Int:=[1,0,0,0]
abbrev vO:List Int:=[9,0,0,0]
abbrev eO (B:L39)(code:List Int):L76:=(B,(B.1,B.2.1,B.2.2.1,code,B.2.2.2.2),false,0,false,false,0)
abbrev hO (a:List Int)(B:L39)(code:List Int)(m:KvS):Hp:=([(a,some 0)],[eO B code],[m],[[]])
section
variable (W:List L39) (hW:W.length≤50) (hs:∀ x∈W,SmallA x) {k:Nat} (hk:5000<k) (a code:List Int) (hc:code.length≤300) (m:KvS) (rf:Int) (lg:List L51) (un:List Clo) (hu:un.length≤1000)
include hW hs hk hc hu
theorem own_at0:fe4_.f k (W,([],[],[],[]),0,[],[],[]) a=some (some 0,((),([(a,some 0)],[(baseA W a,baseA W a,false,0,false,false,0)],[[]],[[]]),(),[],[],[])):=by
 unfold fe4_.f
 refine (iN (by simp [lk,aget])).trans ?_
 refine (congrArg (fun o=>Option.bind o _) (list_eq W a k (by omega) (by omega))).trans ?_
 rw [oB]
 have hb:=baseA_fst W a
 have e:(a,(baseA W a).2.1,(baseA W a).2.2.1,(baseA W a).2.2.2.1,(baseA W a).2.2.2.2)=baseA W a:=by
  conv=>rhs; rw [show baseA W a=((baseA W a).1,(baseA W a).2) from rfl,hb]
 unfold fe4_.j1 fe4_.j2
 rw [iN (by simp),e]
 rfl
theorem own_done (h:Hp)(c:Clo):fb1_.f (W,h,rf,lg,un,[]) c=some ((),(),(),(),un++[c],()):=by
 unfold fb1_.f
 rw [iP (by simp; omega)]
theorem own_code:∃ un2,un2.length≤1∧fb_.f k (W,([],[],[],[]),0,[],[],[]) a code=some ((),hO a (baseA W a) code [],(),[],un2,[]):=by
 refine ⟨[Clo.c30 (baseA W a).2.2.2.1 (some 0)],by simp,?_⟩
 ·unfold fb_.f fa2_.f
  rw [own_at0 W hW hs hk a code hc un hu,oB,iP (by rfl),iP (by simp; omega)]
  refine (congrArg (fun o=>Option.bind o _) (own_done W hW hs hk code hc 0 [] [] (by simp) _ _)).trans ?_
  rfl
theorem own_at:fe4_.f k (W,hO a (baseA W a) code m,rf,lg,un,[]) a=some (some 0,((),hO a (baseA W a) code m,(),lg,un,[])):=by
 have ha:aget [(a,some 0)] a=some (some 0):=by simp [aget]
 unfold fe4_.f
 simp only [ha]
 rfl
theorem own_set:∃ un2,un2.length≤un.length+1∧fe1_.f k (W,hO a (baseA W a) code [],rf,lg,un,[]) a kO vO=some ((),hO a (baseA W a) code [(kO,vO)],(),lg,un2,[]):=by
 refine ⟨un++[Clo.c33 false [0,0,0,0] 0 kO],by simp,?_⟩
 ·unfold fe1_.f
  rw [own_at W hW hs hk a code hc [] rf lg un hu,oB,iP (by rfl)]
  refine (congrArg (fun o=>Option.bind o _) (own_done W hW hs hk code hc rf lg un hu _ _)).trans ?_
  rfl
theorem own_getcode:fd9_.f k (W,hO a (baseA W a) code m,rf,lg,un,[]) a=some (code,((),hO a (baseA W a) code m,(),lg,un,[])):=by
 unfold fd9_.f fa9_.f
 rw [own_at W hW hs hk a code hc m rf lg un hu,oB,iP (by rfl)]
 refine (congrArg (fun o=>Option.bind o _) (iP (show (([]:List Int).length+code.length)*1≤140737488355328 by simp; omega))).trans ?_
 rfl
theorem own_load:fd7_.f k (W,hO a (baseA W a) code [(kO,vO)],rf,lg,un,[]) a kO=some (vO,((),hO a (baseA W a) code [(kO,vO)],(),lg,un,[])):=by
 unfold fd7_.f fd7_.j1
 rw [own_at W hW hs hk a code hc _ rf lg un hu,oB,iP (by rfl)]
 rfl
theorem own_sto (B:L39)(hB:B.2.2.2.2.length≤100)(now:L39):∃ S,fc_.f k (B,now,false,[(kO,vO)],false,false,([]:KvB))=some S∧S.length≤200:=by
 have hl:=List.length_filter_le (fun s:List Int×List Int=>(aget [(kO,vO)] s.1).isNone) B.2.2.2.2
 obtain ⟨ys,y1,y2,y3⟩:=sort_eq (g:=G1) (cf:=cfW) (kc:=0) (fun K _ x y=>rfl) swoW k ((B.2.2.2.2.filter fun s=>(aget [(kO,vO)] s.1).isNone)++[(kO,vO)]) (by simp; omega) (by simp; omega)
 refine ⟨ys,?_,by rw [y2.length_eq]; simp; omega⟩
 unfold fc_.f
 rw [iP (by rfl)]
 refine (sto_base (B,now,false,[(kO,vO)],false,false,([]:KvB)) (show B.2.2.2.2.length≤2000 by omega) B.2.2.2.2 k 0 [] rfl (Nat.zero_le _) (by omega) (Nat.zero_le _)).trans ?_
 rw [List.nil_append]
 unfold fc_.j1
 obtain ⟨q,rfl⟩:∃ q,k=q+2:=⟨k - 2,by omega⟩
 show fc_.b1 _ _ _ _=_
 unfold fc_.b1
 refine rngL_cons (by simp) (fun e he=>?_)
 obtain rfl:e=(kO,vO):=by simpa using he
 rw [iP (by decide),iP (by simp; omega)]
 have hd:adel [(kO,vO)] kO=([]:KvS):=by simp [adel]
 show fc_.l1 (q+2) (q+1) (adel [(kO,vO)] kO) _=_
 rw [hd]
 show fc_.b1 _ _ _ _=_
 unfold fc_.b1 fc_.j2
 rw [rngL_nil]
 have y1':ff5_.f G1 (q+2) ((B.2.2.2.2.filter fun s=>(aget [(kO,vO)] s.1).isNone)++[(kO,vO)])=some ys:=y1
 exact (congrArg (fun o=>Option.bind o _) y1').trans rfl
theorem own_same (x y:L39)(h1:x.2.2.2.1.length≤3000)(h2:x.2.2.2.2.length≤3000):∃ b,ff8_.f k x y=some b:=by
 unfold ff8_.f
 rw [eqB_eq _ _ (by omega) (by omega),oB,eqS_eq _ _ (by omega) (by omega),oB]
 repeat' split
 all_goals exact ⟨_,rfl⟩
theorem own_sort (xs:List L39)(hx:xs.length≤1):∃ T,fc2_.j1 k xs=some T∧T.length≤1:=by
 obtain ⟨ys,y1,y2,y3⟩:=sort_eq (g:=G2) (cf:=cfA) (kc:=0) (fun K _ x y=>rfl) swoA k xs (by omega) (by omega)
 have y1':ff5_.f G2 k xs=some ys:=y1
 unfold fc2_.j1
 exact ⟨ys,by rw [y1',oB],by rw [y2.length_eq]; exact hx⟩
theorem own_changes:∃ T,fc2_.f k (W,hO a (baseA W a) code [(kO,vO)],rf,lg,un,[])=some T∧T.length≤1:=by
 have hB:(baseA W a).2.2.2.2.length≤100:=by
  unfold baseA
  cases hf:findA W a with
  | some x=>exact (hs x (findA_mem hf).1).2
  | none=>simp
 obtain ⟨S,s1,s2⟩:=own_sto W hW hs hk code hc un hu (baseA W a) hB ((baseA W a).1,(baseA W a).2.1,(baseA W a).2.2.1,code,(baseA W a).2.2.2.2)
 obtain ⟨b,b1⟩:=own_same W hW hs hk code hc un hu ((baseA W a).1,(baseA W a).2.1,(baseA W a).2.2.1,code,S) (baseA W a) (by show code.length≤3000; omega) (by show S.length≤3000; omega)
 obtain ⟨T,t1,t2⟩:=own_sort W hW hs hk code hc un hu (if b=true then [] else [((baseA W a).1,(baseA W a).2.1,(baseA W a).2.2.1,code,S)]) (by split <;> simp)
 refine ⟨T,?_,t2⟩
 have hcl:fa9_.f code=some code:=by
  unfold fa9_.f
  rw [iP (by simp; omega)]; rfl
 unfold fc2_.f
 obtain ⟨q,hq⟩:∃ q,k=q+2:=⟨k - 2,by omega⟩
 rw [show fc2_.l1 k (W,hO a (baseA W a) code [(kO,vO)],rf,lg,un,[]) k=fc2_.l1 k (W,hO a (baseA W a) code [(kO,vO)],rf,lg,un,[]) (q+2) by rw [← hq]]
 show fc2_.b1 _ _ _ _ _=_
 unfold fc2_.b1
 refine rngL_cons (by simp) (fun e he=>?_)
 obtain rfl:e=(a,some 0):=by simpa using he
 rw [iP (by rfl)]
 refine (iP (by rfl)).trans ?_
 refine (congrArg (fun o=>Option.bind o _) hcl).trans ?_
 rw [oB]
 refine (congrArg (fun o=>Option.bind o _) s1).trans ?_
 rw [oB]
 unfold fc2_.j2
 rw [iP (by rfl)]
 refine (congrArg (fun o=>Option.bind o _) b1).trans ?_
 rw [oB]
 have hd:adel [(a,some 0)] a=([]:List (List Int×Option Nat)):=by simp [adel]
 have last:∀ out,fc2_.l1 k (W,hO a (baseA W a) code [(kO,vO)],rf,lg,un,[]) (q+1) out (adel [(a,some 0)] a)=fc2_.j1 k out:=fun out=>by
  rw [hd]
  show fc2_.b1 _ _ _ _ _=_
  unfold fc2_.b1
  rw [rngL_nil]
 cases b with
 | true =>
  rw [iN (by simp)]
  exact (last []).trans t1
 | false =>
  rw [iP (by rfl),iP (by simp)]
  exact (last _).trans t1
theorem own_logs (x:L51)(h1:x.2.1.length≤20)(h2:x.2.2.length≤300)(h:Hp):fd4_.f k (W,h,rf,[x],un,[])=some [x]:=by
 obtain ⟨q,rfl⟩:∃ q,k=q+2:=⟨k - 2,by omega⟩
 have ho:ff9_.f x=some x:=by
  unfold ff9_.f ff3_.f fa9_.f
  rw [iP (by simp; omega),oB,iP (by simp; omega)]
  rfl
 unfold fd4_.f
 show fd4_.b1 _ (fd4_.b1 _ (fd4_.l1 _ q)) _ _=_
 unfold fd4_.b1 fd4_.j1
 refine (iP (show decide ((0:Int)<(([x]:List L51).length:Int))=true by simp)).trans ((iP (show (0:Int)≤0∧(0:Int)<(([x]:List L51).length:Int) by simp)).trans ?_)
 refine (congrArg (fun o=>Option.bind o _) (show ff9_.f (gt [x] 0)=some x from ho)).trans ?_
 rw [oB,iP (by simp)]
 exact iN (show ¬ decide (wr .i64 ((0:Int)+1)<(([x]:List L51).length:Int))=true by rw [show wr .i64 ((0:Int)+1)=1 from rfl]; simp)
end
theorem own_l1 {W:List L39}{k:Nat}(a code:List Int)(x:L51)(t2:List L39)(t3:W2)(t8:W18)(T:List L39)(hT:T.length≤1000):∀ (r q n:Nat),n+r=T.length→r<q→fb5_.l1 k W a code x t2 t3 t8 T q (n:Int)=fb5_.j4 k W a code x t2 t3 t8
 | 0,q,n,hn,hq=>by
  obtain ⟨q,rfl⟩:∃ m,q=m+1:=⟨q - 1,by omega⟩
  show fb5_.b1 _ _ _ _ _ _ _ _ _ _ _=_
  unfold fb5_.b1
  rw [iN (by simp; omega)]
 | r+1,q,n,hn,hq=>by
  obtain ⟨q,rfl⟩:∃ m,q=m+1:=⟨q - 1,by omega⟩
  show fb5_.b1 _ _ _ _ _ _ _ _ _ _ _=_
  unfold fb5_.b1
  rw [iP (by simp; omega),iP (by omega),next1 n (by omega)]
  exact own_l1 a code x t2 t3 t8 T hT r q (n+1) (by omega) (by omega)
theorem own_l2 {W:List L39}{k:Nat}(a code:List Int)(x:L51)(t2:List L39)(t3:W2)(t8:W18)(T:List L51)(hT:T.length≤1000):∀ (r q n:Nat),n+r=T.length→r<q→fb5_.l2 k W a code x t2 t3 t8 T q (n:Int)=fb5_.j3 k W a code x t2 t3 t8
 | 0,q,n,hn,hq=>by
  obtain ⟨q,rfl⟩:∃ m,q=m+1:=⟨q - 1,by omega⟩
  show fb5_.b2 _ _ _ _ _ _ _ _ _ _ _=_
  unfold fb5_.b2
  rw [iN (by simp; omega)]
 | r+1,q,n,hn,hq=>by
  obtain ⟨q,rfl⟩:∃ m,q=m+1:=⟨q - 1,by omega⟩
  show fb5_.b2 _ _ _ _ _ _ _ _ _ _ _=_
  unfold fb5_.b2
  rw [iP (by simp; omega),iP (by omega),next1 n (by omega)]
  exact own_l2 a code x t2 t3 t8 T hT r q (n+1) (by omega) (by omega)
theorem own_all (W:List L39)(hW:W.length≤50)(hs:∀ x∈W,SmallA x){k:Nat}(hk:5000<k)(a code:List Int)(hc:code.length≤300)(x:L51)(h1:x.2.1.length≤20)(h2:x.2.2.length≤300) :
  fb5_.j2 k W a code x W (W,([],[],[],[]),0,[],[],[])=some true:=by
 obtain ⟨un1,u1,e1⟩:=own_code W hW hs hk a code hc [] (by simp)
 have e2:fb9_.f (W,hO a (baseA W a) code [],0,[],un1,[]) x=some ((),(),(),[x],un1++[Clo.c31 () 0],()):=by
  unfold fb9_.f fe8_.f fe2_.f fa2_.f
  refine (congrArg (fun o=>Option.bind o _) (own_done W hW hs hk code hc 0 [] un1 (by omega) _ _)).trans ?_
  rw [oB,iP (by simp; omega),oB,iP (by simp; omega),oB,oB]
  refine (iP (by simp)).trans ?_
  rfl
 obtain ⟨un3,u3,e3⟩:=own_set W hW hs hk a code hc 0 [x] (un1++[Clo.c31 () 0]) (by simp; omega)
 have hu3:un3.length≤1000:=by simp at u3; omega
 have e4:=own_getcode W hW hs hk a code hc [(kO,vO)] 0 [x] un3 hu3
 have e5:=own_logs W hW hs hk code hc 0 un3 hu3 x h1 h2 (hO a (baseA W a) code [(kO,vO)])
 obtain ⟨T,e6,e7⟩:=own_changes W hW hs hk a code hc 0 [x] un3 hu3
 have e8:=own_load W hW hs hk a code hc 0 [x] un3 hu3
 have hB:(baseA W a).2.2.2.2.length≤100:=by
  unfold baseA
  cases hf:findA W a with
  | some x=>exact (hs x (findA_mem hf).1).2
  | none=>simp
 have e9:fb7_.f k [x] [x]=some true:=by
  unfold fb7_.f
  rw [iN (by simp)]
  exact sameLogs_loop k [x] (by simp) (fun g hg=>by rw [show g=x by simpa using hg]; omega) (by omega) 1 k 0 (by simp) (by omega)
 unfold fb5_.j2
 refine (congrArg (fun o=>Option.bind o _) e1).trans ?_
 rw [oB]
 refine (congrArg (fun o=>Option.bind o _) e2).trans ?_
 rw [oB]
 refine (congrArg (fun o=>Option.bind o _) e3).trans ?_
 rw [oB]
 refine (congrArg (fun o=>Option.bind o _) e4).trans ?_
 rw [oB]
 refine (congrArg (fun o=>Option.bind o _) e5).trans ?_
 rw [oB]
 refine (own_l2 a code x W _ _ [x] (by simp) 1 k 0 (by simp) (by omega)).trans ?_
 unfold fb5_.j3
 refine (congrArg (fun o=>Option.bind o _) e6).trans ?_
 rw [oB]
 refine (own_l1 a code x W _ _ T (by omega) T.length k 0 (by omega) (by omega)).trans ?_
 unfold fb5_.j4
 rw [list_eq W a k (by omega) (by omega),oB,find_eq W a k (by omega) (by omega),oB]
 have fin:fb5_.j5 k a code x (W,([],[],[],[]),0,[],[],[]) (code,((),hO a (baseA W a) code [(kO,vO)],(),[x],un3,[])) (baseA W a,true) (baseA W a)=some true:=by
  unfold fb5_.j5 fb5_.j6
  refine (congrArg (fun o=>Option.bind o _) e4).trans ?_
  rw [oB,iP (by simp)]
  refine (congrArg (fun o=>Option.bind o _) e5).trans ?_
  rw [oB,e9,oB,iP rfl]
  refine (congrArg (fun o=>Option.bind o _) e8).trans ?_
  rw [oB,iP (by simp),iP rfl,same_self (baseA W a) k (by omega) (by omega),oB]
 cases hf:findA W a with
 | some y =>
  have hb:baseA W a=y:=by unfold baseA; rw [hf]
  rw [hb] at fin ⊢
  rw [iN (by simp)]
  exact fin
 | none =>
  have hb:baseA W a=(a,0,[0,0,0,0],[],[]):=by unfold baseA; rw [hf]
  rw [hb] at fin ⊢
  rw [iP (by rfl)]
  exact fin
theorem fb5_true (a0:List L39)(a1:List Int)(a2:List Int)(a3:L51)(w0:Gd22 a0)(l1:a1.length=20)(w1:∀ y∈a1,inK .u8 y)(w2:Gd36 a2)(w3:Gd51 a3):∃ k:Nat,fb5_.f k a0 a1 a2 a3=some true:=by
 refine ⟨6000,?_⟩
 have fx:fd3_.f 6000=some true:=by kernel_rfl
 have yes:fb5_.j1 6000 a0 a1 a2 a3 true=some true:=by
  unfold fb5_.j1
  rw [iP rfl,fx,oB]
 obtain ⟨b,h1,h2⟩:=right14_eq 5960 a0 w0.1 (by omega)
 unfold fb5_.f
 rw [h1,oB]
 cases b with
 | false=>exact yes
 | true =>
  have hr:=h2 rfl
  rw [iN (by simp)]
  by_cases c1:(300:Int)<(a2.length:Int)
  ·rw [iP (dT c1)]; exact yes
  rw [iN (by simpa using c1)]
  by_cases c2:(300:Int)<(a3.2.2.length:Int)
  ·rw [iP (dT c2)]; exact yes
  rw [iN (by simpa using c2)]
  by_cases c3:(20:Int)<(a3.2.1.length:Int)
  ·rw [dT c3]; exact yes
  rw [dF c3]
  unfold fb5_.j1
  rw [iN (by simp),stateList_eq a0 hr.1 (fun a ha=>(hr.2 a ha).1) 6000 (by omega),oB]
  unfold fe5_.f
  rw [oB,fx,oB,iN (by simp),iP (by simp; omega),iP (by simp; omega),iP (by simp; omega)]
  exact own_all a0 hr.1 (fun x hx=>(hr.2 x hx).1) (by omega) a1 a2 (by omega) a3 (by omega) (by omega)
end GW
