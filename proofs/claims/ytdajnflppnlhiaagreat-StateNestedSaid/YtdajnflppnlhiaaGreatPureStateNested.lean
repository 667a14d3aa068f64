import Derived.Test.YtdajnflppnlhiaaGreatPurePEq
set_option linter.unusedVariables false
set_option linter.unusedSimpArgs false
set_option linter.unusedSectionVars false
set_option maxRecDepth 100000
namespace GW
open Go Go.RowKit
def cfA (x y:L71):Int:=Lib.compareBytes (akey x.1) (akey y.1)
theorem cfA_lt (x y:L71):ltC cfA x y=decide (akey x.1<akey y.1):=by
 unfold ltC cfA
 exact decide_eq_decide.2 (cb_lt _ _)
theorem swoA:Sort.SWO (ltC cfA) where
 irrefl x:=by rw [cfA_lt]; exact dF (List.lt_irrefl (akey x.1))
 trans x y z h1 h2:=by rw [cfA_lt] at *; simp only [decide_eq_true_eq] at *; exact List.lt_trans h1 h2
 ntrans x y z h1 h2:=by
  rw [cfA_lt] at *
  simp only [decide_eq_false_iff_not,List.not_lt] at *
  exact List.le_trans h2 h1
def LtA (x y:L71):Prop:=akey x.1<akey y.1
theorem lt_ne {x y:L71}(h:LtA x y):x.1≠y.1:=fun e=>by
 unfold LtA at h
 rw [e] at h
 exact List.lt_irrefl _ h
theorem nodup_of_map {α β:Type}{f:α→β}{l:List α}(h:(l.map f).Nodup):l.Nodup:=List.Pairwise.of_map f (fun a b h e=>h (by rw [e])) h
theorem ltA_inj {T:List L71}(hT:T.Pairwise LtA){x y:L71}(hx:x∈T)(hy:y∈T)(e:x.1=y.1):x=y:=by
 induction T with
 | nil=>cases hx
 | cons z T ih =>
  have hc:=List.pairwise_cons.1 hT
  rcases List.mem_cons.1 hx with h1 | h1 <;> rcases List.mem_cons.1 hy with h2 | h2
  ·rw [h1,h2]
  ·have:=lt_ne (hc.1 y h2); rw [h1] at e; exact absurd e this
  ·have:=lt_ne (hc.1 x h1); rw [h2] at e; exact absurd e.symm this
  ·exact ih hc.2 h1 h2
theorem sortA_eq {k:Nat}{xs T:List L71}(hk:5000<k)(hT:T.Pairwise LtA)(hA:∀ x∈T,Ad x.1)(hl:T.length≤2000)(hn:xs.Nodup)(hm:∀ x,x∈xs↔x∈T):fi4_.f G2 k xs=some T:=by
 have hTn:T.Nodup:=hT.imp fun {x y} h (e:x=y)=>lt_ne h (by rw [e])
 have hp:xs.Perm T:=(List.perm_ext_iff_of_nodup hn hTn).2 hm
 have hlen:=hp.length_eq
 obtain ⟨ys,y1,y2,y3⟩:=sort_eq (g:=G2) (cf:=cfA) (kc:=0) (fun K _ x y=>rfl) swoA k xs (by omega) (by omega)
 rw [y1]
 congr 1
 refine List.Perm.eq_of_pairwise (le:=fun x y=>¬ cfA y x<0) (fun x y hx hy h1 h2=>?_) y3 (hT.imp fun {x y} hxy hn=>?_) (y2.trans hp)
 ·have hx':x∈T:=(hm x).1 (y2.mem_iff.1 hx)
  unfold cfA at h1 h2
  rw [cb_lt] at h1 h2
  exact ltA_inj hT hx' hy (akey_inj (hA x hx') (hA y hy) (List.le_antisymm (List.not_lt.1 h1) (List.not_lt.1 h2)))
 ·unfold cfA at hn
  rw [cb_lt] at hn
  exact List.lt_irrefl _ (List.lt_trans hn hxy)
def nowE (y:DE):L71:=if y.2.2=true then (y.1.1,0,[0,0,0,0],[],[]) else y.1
theorem nowE_fst (y:DE):(nowE y).1=y.1.1:=by unfold nowE; split <;> rfl
def CH (W:List L71)(L:List DE)(x:L71):Prop:=x=nowE (atD W L x.1)∧x≠baseA W x.1
theorem ins_loop (k:Nat)(hk:30<k)(y20:Int)(out:List L71)(hl:out.length<1000000)(rec1:Int→List L71→Option (List L71))(x:L71)(hs:out.Pairwise LtA)(hA:∀ z∈out,Ad z.1)(hx:Ad x.1)(hn:∀ z∈out,z.1≠x.1):∀ (m q:Nat),m≤out.length→m<q→(∀ z∈out.drop m,LtA x z) →
  ∃ out2,fa7_.l2 k y20 out rec1 x q (m:Int)=rec1 (wr .i64 (y20+1)) out2∧out2.Pairwise LtA∧(∀ z,z∈out2↔z=x∨z∈out)∧out2.length=out.length+1
 | m,q,hm,hq,hd=>by
  obtain ⟨q,rfl⟩:∃ m,q=m+1:=⟨q - 1,by omega⟩
  have stop:(∀ z∈out.take m,LtA z x)→∃ out2,fa7_.j4 y20 out rec1 x (m:Int)=rec1 (wr .i64 (y20+1)) out2∧out2.Pairwise LtA∧(∀ z,z∈out2↔z=x∨z∈out)∧out2.length=out.length+1:=fun ht=>by
   refine ⟨out.take m++[x]++out.drop m,?_,?_,fun z=>?_,?_⟩
   ·unfold fa7_.j4 fa7_.j2
    have e1:((out.drop (Int.toNat 0)).take (Int.toNat (m:Int) - Int.toNat 0))=out.take m:=by simp
    have e2:((out.drop (Int.toNat (m:Int))).take (Int.toNat (out.length:Int) - Int.toNat (m:Int)))=out.drop m:=by
     rw [Int.toNat_natCast,Int.toNat_natCast,List.take_of_length_le (by simp)]
    rw [iP (by omega),e1,e2,iP (by simp; omega),iP (by simp; omega),iP (by omega),iP (by simp; omega)]
    simp
   ·rw [List.append_assoc]
    refine List.pairwise_append.2 ⟨hs.sublist (List.take_sublist _ _),List.pairwise_cons.2 ⟨hd,hs.sublist (List.drop_sublist _ _)⟩,fun a ha b hb=>?_⟩
    rcases List.mem_cons.1 hb with e | hb
    ·rw [e]; exact ht a ha
    ·exact List.lt_trans (ht a ha) (hd b hb)
   ·have:z∈out↔z∈out.take m∨z∈out.drop m:=by
     conv=>lhs; rw [← List.take_append_drop m out]
     exact List.mem_append
    rw [List.mem_append,List.mem_append,List.mem_singleton,this]
    constructor
    ·rintro ((h | h) | h)
     ·exact .inr (.inl h)
     ·exact .inl h
     ·exact .inr (.inr h)
    ·rintro (h | h | h)
     ·exact .inl (.inr h)
     ·exact .inl (.inl h)
     ·exact .inr h
   ·simp; omega
  show ∃ out2,fa7_.b2 k y20 out rec1 x (fa7_.l2 k y20 out rec1 x q) (m:Int)=_∧_
  unfold fa7_.b2 fa7_.j5
  cases m with
  | zero =>
   rw [iN (by simp),iN (by simp)]
   exact stop (fun z hz=>by simp at hz)
  | succ m =>
   have hw:wr .i64 (((m+1:Nat):Int) - 1)=(m:Int):=by rw [wr_i64_id (by omega) (by omega)]; omega
   have hmem:out[m]'(by omega)∈out:=List.getElem_mem _
   rw [iP (dT (by omega)),hw,iP (by omega),gt_natG out (by omega),less_eqA hx (hA _ hmem) hk,oB]
   by_cases c:akey x.1<akey (out[m]'(by omega)).1
   ·rw [dT c,iP rfl]
    refine ins_loop k hk y20 out hl rec1 x hs hA hx hn m q (by omega) (by omega) (fun z hz=>?_)
    rw [List.drop_eq_getElem_cons (by omega)] at hz
    rcases List.mem_cons.1 hz with e | hz
    ·rw [e]; exact c
    ·exact hd z hz
   ·rw [dF c,iN (by simp)]
    refine stop (fun z hz=>?_)
    have h1:akey (out[m]'(by omega)).1<akey x.1:=by
     refine Decidable.byContradiction fun e=>?_
     exact hn _ hmem (akey_inj (hA _ hmem) hx (List.le_antisymm (List.not_lt.1 c) (List.not_lt.1 e)))
    obtain ⟨j,hj,rfl⟩:=List.mem_iff_getElem.1 hz
    simp only [List.length_take] at hj
    rw [List.getElem_take]
    rcases Nat.lt_or_ge j m with hjm | hjm
    ·exact List.lt_trans (List.pairwise_iff_getElem.1 hs j m (by omega) (by omega) hjm) h1
    ·have:j=m:=by omega
     subst this
     exact h1
theorem findL_nd {L:List DE}(h:(L.map fun x=>x.1.1).Nodup){y:DE}(hy:y∈L):findL L y.1.1=some y:=by
 induction L with
 | nil=>cases hy
 | cons z L ih =>
  simp only [List.map_cons,List.nodup_cons] at h
  unfold findL
  rcases List.mem_cons.1 hy with e | hy
  ·rw [e,iP rfl]
  ·rw [iN (fun e=>h.1 (by rw [e]; exact List.mem_map.2 ⟨y,hy,rfl⟩)),ih h.2 hy]
theorem ch_iff {W:List L71}{L:List DE}(nd:(L.map fun x=>x.1.1).Nodup)(x:L71):CH W L x↔∃ y∈L,x=nowE y∧x≠baseA W x.1:=by
 constructor
 ·rintro ⟨h1,h2⟩
  cases hf:findL L x.1 with
  | some y =>
   refine ⟨y,(findL_mem hf).1,?_,h2⟩
   unfold atD at h1
   rw [hf] at h1
   exact h1
  | none =>
   unfold atD at h1
   rw [hf] at h1
   exact absurd h1 h2
 ·rintro ⟨y,hy,h1,h2⟩
  refine ⟨?_,h2⟩
  have e:x.1=y.1.1:=by rw [h1,nowE_fst]
  unfold atD
  rw [e,findL_nd nd hy]
  exact h1
section
variable {W:List L71} (hW:WG W) {k t:Nat} (hk:5000<k) (ht:t≤1000) {h:Hp} {rf:Int} {lg:List L100} {un:List Clo} {d:Dd} {p:List Dd} (i:Inv W t h rf lg un d p) (ms:List (List Int))
include hW hk ht i
theorem nowE_ok {y:DE}(hy:y∈d.L):(∀ z∈(nowE y).2.2.2.1,inK .u8 z)∧(nowE y).2.2.2.2.length≤2000∧(nowE y).2.2.2.1.length≤3000∧Ad (nowE y).1:=by
 obtain ⟨h1,h2,h3,h4⟩:=i.sz.ent y hy
 rw [nowE_fst]
 unfold nowE
 split
 ·exact ⟨fun z hz=>(by cases hz),by simp,by simp,h4⟩
 ·exact ⟨h3,by omega,h2,h4⟩
theorem chgD_loop:∀ (l:List DE) (q n:Nat) (out:List L71),d.L.drop n=l→n≤d.L.length→l.length<q→out.length≤n→out.Pairwise LtA→(∀ x,x∈out↔∃ y∈d.L.take n,x=nowE y∧x≠baseA W x.1) →
  ∃ T,fa7_.l1 k (d.st W (rowD W p)) q (n:Int) out=some T∧T.Pairwise LtA∧T.length≤d.L.length∧∀ x,x∈T↔∃ y∈d.L,x=nowE y∧x≠baseA W x.1
 | [],q,n,out,hd,hn,hq,ho,hs,hm=>by
  obtain ⟨q,rfl⟩:∃ m,q=m+1:=⟨q - 1,by omega⟩
  have hle:d.L.length≤n:=by simpa using hd
  refine ⟨out,?_,hs,by omega,fun x=>?_⟩
  ·show fa7_.b1 _ _ _ _ _=_
   unfold fa7_.b1 fa7_.j1
   exact iN (show ¬ decide ((n:Int)<(d.L.length:Int))=true by simp; omega)
  ·rw [hm x,List.take_of_length_le hle]
 | y::l,q,n,out,hd,hn,hq,ho,hs,hm=>by
  simp only [List.length_cons] at hq
  obtain ⟨q,rfl⟩:∃ m,q=m+1:=⟨q - 1,by omega⟩
  obtain ⟨h1,h2,h3⟩:=gt_dropA hd
  have hLl:=i.sz.l
  have hy:y∈d.L:=List.drop_subset n d.L (by rw [hd]; exact List.mem_cons_self)
  obtain ⟨o1,o2,o3,o4⟩:=nowE_ok hW hk ht i hy
  obtain ⟨b1,b2,b3⟩:=baseA_ok hW (nowE y).1
  have htake:∀ z,z∈d.L.take (n+1)↔z∈d.L.take n∨z=y:=fun z=>by
   have e:d.L[n]'h2=y:=by rw [← gt_natG d.L h2]; exact h1
   rw [List.take_succ_eq_append_getElem h2,List.mem_append,List.mem_singleton,e]
  have hA:∀ z∈out,Ad z.1:=fun z hz=>by
   obtain ⟨u,hu,e, -⟩:=(hm z).1 hz
   rw [e]
   exact (nowE_ok hW hk ht i (List.mem_of_mem_take hu)).2.2.2
  have hnd:=i.rel.1.nd
  have hne:∀ z∈out,z.1≠(nowE y).1:=fun z hz e=>by
   obtain ⟨u,hu,e2, -⟩:=(hm z).1 hz
   rw [e2,nowE_fst,nowE_fst] at e
   obtain ⟨j,hj,e3⟩:=List.mem_iff_getElem.1 hu
   simp only [List.length_take] at hj
   rw [List.getElem_take] at e3
   have h4:=List.pairwise_iff_getElem.1 hnd j n (by simp; omega) (by simp; omega) (by omega)
   simp only [List.getElem_map] at h4
   rw [e3,show d.L[n]'h2=y by rw [← gt_natG d.L h2]; exact h1] at h4
   exact h4 e
  have step:fa7_.l1 k (d.st W (rowD W p)) (q+1) (n:Int) out=fa7_.j3 k (d.st W (rowD W p)) (n:Int) out (fa7_.l1 k (d.st W (rowD W p)) q) (nowE y):=by
   show fa7_.b1 _ _ _ _ _=_
   unfold fa7_.b1
   refine (iP (show decide ((n:Int)<(d.L.length:Int))=true by simp; omega)).trans ((iP (show (0:Int)≤(n:Int)∧(n:Int)<(d.L.length:Int) by omega)).trans ?_)
   have e:gt (ST37.un (d.st W (rowD W p))).2.1 (n:Int)=y:=h1
   rw [e]
   unfold nowE
   split <;> rfl
  rw [step]
  unfold fa7_.j3
  rw [doc_base hW hk ht i,oB,sameD_eq (nowE y) (baseA W (nowE y).1) o1 b3 (by omega) (by omega),oB]
  by_cases c:nowE y=baseA W (nowE y).1
  ·rw [dT c,iP rfl]
   unfold fa7_.j2
   rw [next1 n (by omega)]
   refine chgD_loop l q (n+1) out h3 (by omega) (by omega) (by omega) hs (fun x=>?_)
   rw [hm x]
   constructor
   ·rintro ⟨u,hu,e⟩; exact ⟨u,(htake u).2 (.inl hu),e⟩
   ·rintro ⟨u,hu,e,e2⟩
    rcases (htake u).1 hu with hu | hu
    ·exact ⟨u,hu,e,e2⟩
    ·rw [hu] at e
     rw [e] at e2
     exact absurd c e2
  ·rw [dF c,iN (by simp)]
   obtain ⟨out2,r1,r2,r3,r4⟩:=ins_loop k (by omega) (n:Int) out (by omega) (fa7_.l1 k (d.st W (rowD W p)) q) (nowE y) hs hA o4 hne out.length k (Nat.le_refl _) (by omega) (fun z hz=>by simp at hz)
   rw [r1,next1 n (by omega)]
   refine chgD_loop l q (n+1) out2 h3 (by omega) (by omega) (by omega) r2 (fun x=>?_)
   rw [r3 x,hm x]
   constructor
   ·rintro (e | ⟨u,hu,e⟩)
    ·exact ⟨y,(htake y).2 (.inr rfl),e,by rw [e]; exact c⟩
    ·exact ⟨u,(htake u).2 (.inl hu),e⟩
   ·rintro ⟨u,hu,e,e2⟩
    rcases (htake u).1 hu with hu | hu
    ·exact .inr ⟨u,hu,e,e2⟩
    ·rw [hu] at e; exact .inl e
theorem chgD_eq:∃ T,fa7_.f k (d.st W (rowD W p))=some T∧T.Pairwise LtA∧T.length≤1000∧(∀ x,x∈T↔CH W d.L x)∧∀ x∈T,(∀ z∈x.2.2.2.1,inK .u8 z)∧x.2.2.2.2.length≤2000∧Ad x.1:=by
 have hLl:=i.sz.l
 obtain ⟨T,t1,t2,t3,t4⟩:=chgD_loop hW hk ht i d.L k 0 [] rfl (Nat.zero_le _) (by omega) (Nat.zero_le _) List.Pairwise.nil (fun x=>by simp)
 refine ⟨T,t1,t2,by omega,fun x=>by rw [t4 x,ch_iff i.rel.1.nd],fun x hx=>?_⟩
 obtain ⟨y,hy,e, -⟩:=(t4 x).1 hx
 obtain ⟨o1,o2,o3,o4⟩:=nowE_ok hW hk ht i hy
 rw [e]
 exact ⟨o1,o2,o4⟩
end
theorem sto_ext {l m:KvS}(hl:StOK l)(hm:StOK m)(h:∀ k,Wd k→slotD l k=slotD m k):l=m:=by
 have sub:∀ {l m:KvS},StOK l→StOK m→(∀ k,Wd k→slotD l k=slotD m k)→∀ s∈l,s∈m:=fun {l m} hl hm h s hs=>by
  obtain ⟨h1,h2⟩:=hl.2 s hs
  have e:=slotD_mem hl hs
  rw [h _ h2] at e
  have:=slotD_has (l:=m) (k:=s.1) (by rw [e]; exact h1)
  rw [e] at this
  exact this
 have nd:∀ {l:KvS},StOK l→l.Nodup:=fun {l} hl=>hl.1.imp fun {x y} h (e:x=y)=>by rw [e] at h; omega
 have hp:l.Perm m:=(List.perm_ext_iff_of_nodup (nd hl) (nd hm)).2 fun s=>⟨sub hl hm h s,sub hm hl (fun k hk=>(h k hk).symm) s⟩
 refine List.Perm.eq_of_pairwise (le:=fun a b=>wv a.1<wv b.1) (fun x y hx hy h1 h2=>?_) hl.1 hm.1 hp
 have h1':wv x.1<wv y.1:=h1
 have h2':wv y.1<wv x.1:=h2
 omega
section
variable {W:List L71} (hW:WG W) {k t:Nat} (hk:5000<k) (ht:t≤1000) {h:Hp} {rf:Int} {lg:List L100} {un:List Clo} {d:Dd} {p:List Dd} (i:Inv W t h rf lg un d p) (ms:List (List Int))
include hW hk ht i
theorem ch_has {x:L71}(c:CH W d.L x):∃ v,aget h.1 x.1=some v:=by
 cases hg:aget h.1 x.1 with
 | some v=>exact ⟨v,rfl⟩
 | none =>
  have e:=i.rel.1.ent x.1
  have ad:=i.rel.1.addr x.1
  rw [vw_none hg] at e
  obtain ⟨b1,b2,b3⟩:=baseA_ok hW x.1
  obtain ⟨e1,e2,e3,e4,e5,e6,e7,e8⟩:=e
  have hd:(atD W d.L x.1).2.2=false:=e5
  have hx:=c.1
  unfold nowE at hx
  rw [hd,iN (by simp)] at hx
  refine absurd (hx.trans (acc_ext (by rw [ad,baseA_fst]) e1 e2 e3 ?_)) c.2
  exact sto_ext e6 b2 fun q hq=>by rw [e7 q hq]; rfl
structure ChInv (W:List L71)(d:Dd)(h:Hp)(R:List (List Int×Option Nat))(out:List L71):Prop where
 nd:(out.map fun x=>x.1).Nodup
 o1:∀ x∈out,CH W d.L x∧∀ e∈R,e.1≠x.1
 o2:∀ x,CH W d.L x→x∈out∨∃ e∈R,e.1=x.1
 sub:∀ e∈R,e∈h.1
 rn:(R.map Prod.fst).Nodup
theorem chgP_loop {T:List L71}(hT:T.Pairwise LtA)(hTl:T.length≤1000)(hTm:∀ x,x∈T↔CH W d.L x)(hTa:∀ x∈T,Ad x.1):∀ (n q:Nat) (R:List (List Int×Option Nat)) (out:List L71),R.length≤n→n<q→ChInv W d h R out→fe2_.l1 k (W,h,rf,lg,un,ms) q out R=some T
 | n,q,[],out,hn,hq,c=>by
  obtain ⟨q,rfl⟩:∃ m,q=m+1:=⟨q - 1,by omega⟩
  show fe2_.b1 _ _ _ _ _=_
  unfold fe2_.b1 fe2_.j1
  rw [rngL_nil,sortA_eq hk hT hTa (by omega) (nodup_of_map c.nd) fun x=>?_]
  ·rfl
  ·rw [hTm x]
   exact ⟨fun hx=>(c.o1 x hx).1,fun hx=>(c.o2 x hx).resolve_right (by simp)⟩
 | n,q,e0::R0,out,hn,hq,c=>by
  obtain ⟨q,rfl⟩:∃ m,q=m+1:=⟨q - 1,by omega⟩
  show fe2_.b1 _ _ _ _ _=_
  unfold fe2_.b1
  refine rngL_cons (by simp) (fun e he=>?_)
  have hlt:=adel_length_lt he
  obtain ⟨n,rfl⟩:∃ m,n=m+1:=⟨n - 1,by simp only [List.length_cons] at hn; omega⟩
  obtain ⟨a,v⟩:=e
  have hg:aget h.1 a=some v:=(aget_mem_iff i.wf.keys.1 a v).2 (c.sub _ he)
  obtain ⟨j,rfl,hj,b1,b2⟩:=i.wf.ids a v hg
  have en:=ent_at i.rel.1 i.wf hg
  have ad:=i.rel.1.addr a
  obtain ⟨z1,z2,z3⟩:=atD_sz hW i.sz a
  obtain ⟨⟨y1,y2⟩,y3,y4⟩:=baseA_ok hW a
  obtain ⟨m,m1,m2⟩:=i.szh
  have hms:=(i.wf.maps j hj).1
  have del:∀ s,s∈adel (e0::R0) a↔s∈e0::R0∧s.1≠a:=fun s=>by
   unfold adel
   rw [List.mem_filter]
   simp
  have hle:out.length≤T.length:=List.Nodup.length_le_of_subset (nodup_of_map c.nd) fun x hx=>(hTm x).2 (c.o1 x hx).1
  have nf:(nowE (atD W d.L a)).1=a:=by rw [nowE_fst]; exact ad
  have hj2:∀ x:L71,x=nowE (atD W d.L a)→fe2_.j2 k (W,h,rf,lg,un,ms) out (e0::R0) (fe2_.l1 k (W,h,rf,lg,un,ms) q) (a,some j) x.1 x.2.1 x.2.2.1 x.2.2.2.1 x.2.2.2.2=some T:=fun x hx=>by
   have hcl:x.2.2.2.1.length≤3000∧x.2.2.2.2.length≤2000:=by
    rw [hx]; unfold nowE; split
    ·exact ⟨by simp,by simp⟩
    ·exact ⟨z2,by omega⟩
   have hx1:x.1=a:=by rw [hx,nf]
   have hb:(atE h.2.1 j).1.1=a:=by rw [b1]; exact baseA_fst W a
   unfold fe2_.j2
   rw [iP (by rfl)]
   refine (congrArg (fun o=>Option.bind o _) (sameP_eq x (atE h.2.1 j).1 (by rw [hx1,hb]) (by omega) (by omega) (by omega) (by omega))).trans ?_
   rw [oB,b1]
   have other:∀ z,z∈e0::R0→z.1=a→z=(a,some j):=fun z hz e=>by
    have h1:=(aget_mem_iff c.rn z.1 z.2).2 hz
    have h2:=(aget_mem_iff c.rn a (some j)).2 he
    rw [e,h2] at h1
    exact Prod.ext e (sI h1).symm
   by_cases cx:x=baseA W a
   ·rw [dT cx,iN (by simp)]
    refine chgP_loop hT hTl hTm hTa n q _ _ (by omega) (by omega) ⟨c.nd,fun z hz=>⟨(c.o1 z hz).1,fun s hs=>(c.o1 z hz).2 s ((del s).1 hs).1⟩,fun z hz=>?_,fun s hs=>c.sub s ((del s).1 hs).1,adel_nodup' c.rn _⟩
    rcases c.o2 z hz with h1 | ⟨s,hs,e⟩
    ·exact .inl h1
    ·refine .inr ⟨s,(del s).2 ⟨hs,fun e2=>?_⟩,e⟩
     have ez:z.1=a:=by rw [← e,e2]
     have h1:=hz.1
     have h2:=hz.2
     rw [ez] at h1 h2
     exact h2 (by rw [h1, ← hx,cx])
   ·rw [dF cx,iP (by rfl),iP (by simp only [List.length_singleton]; omega)]
    refine chgP_loop hT hTl hTm hTa n q _ _ (by omega) (by omega) ⟨?_,fun z hz=>?_,fun z hz=>?_,fun s hs=>c.sub s ((del s).1 hs).1,adel_nodup' c.rn _⟩
    ·rw [List.map_append]
     refine List.nodup_append.2 ⟨c.nd,by simp,fun u hu w hw e=>?_⟩
     obtain ⟨z,hz,rfl⟩:=List.mem_map.1 hu
     simp only [List.map_cons,List.map_nil,List.mem_singleton] at hw
     exact (c.o1 z hz).2 _ he (by show a=z.1; rw [e,hw,hx1])
    ·rcases List.mem_append.1 hz with hz | hz
     ·exact ⟨(c.o1 z hz).1,fun s hs=>(c.o1 z hz).2 s ((del s).1 hs).1⟩
     ·have ez:z=x:=by simpa using hz
      rw [ez]
      exact ⟨⟨by rw [hx1]; exact hx,by rw [hx1]; exact cx⟩,fun s hs e=>((del s).1 hs).2 (by rw [e,hx1])⟩
    ·rcases c.o2 z hz with h1 | ⟨s,hs,e⟩
     ·exact .inl (List.mem_append_left _ h1)
     ·by_cases e2:s.1=a
      ·have ez:z.1=a:=by rw [← e,e2]
       have h1:=hz.1
       rw [ez, ← hx] at h1
       rw [h1]
       exact .inl (by simp)
      ·exact .inr ⟨s,(del s).2 ⟨hs,e2⟩,e⟩
  rw [iP (by rfl)]
  obtain ⟨e1,e2,e3,e4,e5,e6,e7,e8⟩:=en
  have hd5:(atD W d.L a).2.2=(atE h.2.1 j).2.2.2.2.1:=e5
  cases hdead:(atE h.2.1 j).2.2.2.2.1 with
  | true =>
   refine (iN (show ¬ (!(atE h.2.1 j).2.2.2.2.1)=true by rw [hdead]; simp)).trans ?_
   refine hj2 (a,0,[0,0,0,0],[],[]) ?_
   unfold nowE
   rw [hd5,hdead,iP rfl,ad]
  | false =>
   refine (iP (show (!(atE h.2.1 j).2.2.2.2.1)=true by rw [hdead]; rfl)).trans ?_
   have hcode:(atE h.2.1 j).2.1.2.2.2.1.length≤3000:=by
    have:(atD W d.L a).1.2.2.2.1=(atE h.2.1 j).2.1.2.2.2.1:=e3
    rw [← this]; exact z2
   have hcl:fc_.f (atE h.2.1 j).2.1.2.2.2.1=some (atE h.2.1 j).2.1.2.2.2.1:=by
    unfold fc_.f
    rw [iP (by simp; omega)]; rfl
   have hst:=storage_eq (k:=k) (B:=baseA W a) (v:=vwE h (atE h.2.1 j)) (M:=atE h.2.2.1 (eS (atE h.2.1 j))) (S:=(atD W d.L a).1.2.2.2.2) (now:=(atE h.2.1 j).2.1) (dead:=(atE h.2.1 j).2.2.2.2.1) (warm:=(atE h.2.1 j).2.2.2.2.2.1) (wm:=atE h.2.2.2 (eW (atE h.2.1 j))) hk rfl y3 (by omega) (i.wf.keys.2 _ hms) (by have:=m1.2 _ hms; omega) e8 e6 (by omega) e7
   refine (congrArg (fun o=>Option.bind o _) hcl).trans ?_
   rw [oB]
   have hst':fe4_.f k ((atE h.2.1 j).1,(atE h.2.1 j).2.1,(atE h.2.1 j).2.2.1,atE h.2.2.1 (eS (atE h.2.1 j)),(atE h.2.1 j).2.2.2.2.1,(atE h.2.1 j).2.2.2.2.2.1,atE h.2.2.2 (eW (atE h.2.1 j)))=some (atD W d.L a).1.2.2.2.2:=by rw [b1]; exact hst
   refine (congrArg (fun o=>Option.bind o _) hst').trans ?_
   rw [oB]
   refine hj2 ((atE h.2.1 j).2.1.1,(atE h.2.1 j).2.1.2.1,(atE h.2.1 j).2.1.2.2.1,(atE h.2.1 j).2.1.2.2.2.1,(atD W d.L a).1.2.2.2.2) ?_
   unfold nowE
   rw [hd5,hdead,iN (by simp)]
   exact acc_ext (by rw [ad]; exact b2) e1.symm e2.symm e3.symm rfl
theorem changes_eq:∃ T,fe2_.f k (W,h,rf,lg,un,ms)=some T∧fa7_.f k (d.st W (rowD W p))=some T∧fe6_.f k T T=some true:=by
 obtain ⟨T,t1,t2,t3,t4,t5⟩:=chgD_eq hW hk ht i
 obtain ⟨m,m1,m2⟩:=i.szh
 refine ⟨T,?_,t1,sameAll_self T k (fun x hx=>⟨(t5 x hx).1,by have:=(t5 x hx).2.1; omega,by have:=(t5 x hx).2.1; omega⟩) (by omega) (by omega)⟩
 refine chgP_loop hW hk ht i ms t2 t3 t4 (fun x hx=>(t5 x hx).2.2) h.1.length k h.1 [] (Nat.le_refl _) (by have:=m1.1; omega) ⟨by simp,fun x hx=>(by cases hx),fun x hx=>?_,fun e he=>he,i.wf.keys.1⟩
 obtain ⟨v,hv⟩:=ch_has hW hk ht i hx
 exact .inr ⟨(x.1,v),(aget_mem_iff i.wf.keys.1 x.1 v).1 hv,rfl⟩
theorem logs_loop (hl:lg.length≤1000)(hs:∀ g∈lg,g.2.1.length≤2∧g.2.2.length≤300):∀ (r q n:Nat),n+r=lg.length→r<q→fg5_.l1 (W,h,rf,lg,un,ms) q (lg.take n) (n:Int)=some lg
 | 0,q,n,hn,hq=>by
  obtain ⟨q,rfl⟩:∃ m,q=m+1:=⟨q - 1,by omega⟩
  show fg5_.b1 _ _ _ _=_
  unfold fg5_.b1 fg5_.j1
  refine (iN (show ¬ decide ((n:Int)<(lg.length:Int))=true by simp; omega)).trans ?_
  rw [List.take_of_length_le (by omega)]
 | r+1,q,n,hn,hq=>by
  obtain ⟨q,rfl⟩:∃ m,q=m+1:=⟨q - 1,by omega⟩
  have hnl:n<lg.length:=by omega
  obtain ⟨s1,s2⟩:=hs lg[n] (List.getElem_mem hnl)
  show fg5_.b1 _ _ _ _=_
  unfold fg5_.b1
  refine (iP (show decide ((n:Int)<(lg.length:Int))=true by simp; omega)).trans ((iP (show (0:Int)≤(n:Int)∧(n:Int)<(lg.length:Int) by omega)).trans ?_)
  have e:gt (W,h,rf,lg,un,ms).2.2.2.1 (n:Int)=lg[n]:=gt_natG lg hnl
  rw [e,own_eq hW hk ht i _ (by omega) (by omega),oB,iP (by simp; omega),next1 n (by omega), ← List.take_succ_eq_append_getElem hnl]
  exact logs_loop hl hs r q (n+1) (by omega) (by omega)
omit hW hk ht i in
theorem topics_loop (l:List L100)(n:Nat)(hn:n<l.length)(rec1:Int→Option Bool)(ht:(l[n]).2.1.length≤1000)(hl:l.length≤1000):∀ (r q j:Nat),j+r=(l[n]).2.1.length→r<q→fd6_.l2 l l (n:Int) rec1 q (j:Int)=rec1 ((n+1:Nat):Int)
 | 0,q,j,hj,hq=>by
  obtain ⟨q,rfl⟩:∃ m,q=m+1:=⟨q - 1,by omega⟩
  show fd6_.b2 _ _ _ _ _ _=_
  unfold fd6_.b2 fd6_.j2
  rw [gt_natG l hn,iN (by simp; omega),next1 n (by omega)]
 | r+1,q,j,hj,hq=>by
  obtain ⟨q,rfl⟩:∃ m,q=m+1:=⟨q - 1,by omega⟩
  show fd6_.b2 _ _ _ _ _ _=_
  unfold fd6_.b2
  rw [gt_natG l hn,iP (by simp; omega),iP (by omega),iP (by omega),iP (by omega),iN (by simp),next1 j (by omega)]
  exact topics_loop l n hn rec1 ht hl r q (j+1) (by omega) (by omega)
omit hW hk ht i in
theorem sameLogs_loop (k:Nat)(l:List L100)(hl:l.length≤1000)(hs:∀ g∈l,g.2.1.length≤1000)(hk:1000<k):∀ (r q n:Nat),n+r=l.length→r<q→fd6_.l1 k l l q (n:Int)=some true
 | 0,q,n,hn,hq=>by
  obtain ⟨q,rfl⟩:∃ m,q=m+1:=⟨q - 1,by omega⟩
  show fd6_.b1 _ _ _ _ _=_
  unfold fd6_.b1 fd6_.j1
  rw [iN (by simp; omega)]
 | r+1,q,n,hn,hq=>by
  obtain ⟨q,rfl⟩:∃ m,q=m+1:=⟨q - 1,by omega⟩
  have hnl:n<l.length:=by omega
  have h1:=hs l[n] (List.getElem_mem hnl)
  show fd6_.b1 _ _ _ _ _=_
  unfold fd6_.b1 fd6_.j3
  rw [iP (by simp; omega),iP (by omega),iP (by omega),iN (by simp),iN (by simp),iN (by simp),iP (by omega)]
  refine (topics_loop l n hnl _ h1 hl (l[n]).2.1.length k 0 (by omega) (by omega)).trans ?_
  exact sameLogs_loop k l hl hs hk r q (n+1) (by omega) (by omega)
theorem all_eq:fh1_.f k (W,h,rf,lg,un,ms) (d.st W (rowD W p))=some true:=by
 obtain ⟨T,t1,t2,t3⟩:=changes_eq hW hk ht i ms
 have e1:rf=d.rf:=i.rel.2.1
 have e2:lg=d.lg:=i.rel.2.2
 have hl:=i.sz.lg
 have hs:=i.sz.logs
 rw [← e2] at hl hs
 have l1:fg5_.f k (W,h,rf,lg,un,ms)=some lg:=logs_loop hW hk ht i ms (by omega) hs lg.length k 0 (by omega) (by omega)
 have l2:fd6_.f k lg lg=some true:=by
  unfold fd6_.f
  rw [iN (by simp)]
  exact sameLogs_loop k lg (by omega) (fun g hg=>by have:=(hs g hg).1; omega) (by omega) lg.length k 0 (by omega) (by omega)
 unfold fh1_.f ff_.f
 rw [oB]
 refine (iP (show (rf==d.rf)=true by rw [e1]; simp)).trans ?_
 rw [l1,oB]
 refine (congrArg (fun o=>Option.bind o _) (show fd6_.f k lg d.lg=some true by rw [← e2]; exact l2)).trans ?_
 rw [oB,iP rfl,t1,oB,t2,oB,t3,oB]
end
def Mk (mk:List (List Int))(n:Nat):Prop:=∃ l:List Nat,mk=l.map (fun i:Nat=>[(i:Int),(i:Int)])∧l.Pairwise (· ≤ ·)∧∀ i∈l,i≤n
theorem Mk.mono {mk:List (List Int)}{n m:Nat}(h:Mk mk n)(c:n≤m):Mk mk m:=by
 obtain ⟨l,h1,h2,h3⟩:=h
 exact ⟨l,h1,h2,fun i hi=>by have:=h3 i hi; omega⟩
theorem Mk.add {mk:List (List Int)}{n:Nat}(h:Mk mk n):Mk (mk++[[(n:Int),(n:Int)]]) n:=by
 obtain ⟨l,h1,h2,h3⟩:=h
 refine ⟨l++[n],by rw [h1,List.map_append]; rfl,List.pairwise_append.2 ⟨h2,List.pairwise_singleton _ _,fun a ha b hb=>?_⟩,fun i hi=>?_⟩
 ·simp only [List.mem_singleton] at hb
  rw [hb]; exact h3 a ha
 ·rcases List.mem_append.1 hi with hi | hi
  ·exact h3 i hi
  ·simp only [List.mem_singleton] at hi; omega
theorem Mk.cut {mk:List (List Int)}{n:Nat}(h:Mk mk n){j:Nat}(hj:j<mk.length):∃ m:Nat,gt mk (j:Int)=[(m:Int),(m:Int)]∧m≤n∧Mk (mk.take (j+1)) m:=by
 obtain ⟨l,h1,h2,h3⟩:=h
 have hjl:j<l.length:=by rw [h1] at hj; simpa using hj
 refine ⟨l[j],?_,h3 _ (List.getElem_mem _),l.take (j+1),by rw [h1,List.map_take],h2.sublist (List.take_sublist _ _),fun i hi=>?_⟩
 ·rw [h1,gt_natG _ (by simpa using hjl)]; simp
 ·obtain ⟨q,hq,e⟩:=List.mem_iff_getElem.1 hi
  simp only [List.length_take] at hq
  rw [List.getElem_take] at e
  rw [← e]
  rcases Nat.lt_or_ge q j with c | c
  ·exact List.pairwise_iff_getElem.1 h2 q j (by omega) hjl c
  ·have:q=j:=by omega
   subst this
   exact Nat.le_refl _
section
variable {W:List L71} (hW:WG W) {k t:Nat} (hk:5000<k) (ht:t≤900) {h:Hp} {rf:Int} {lg:List L100} {un:List Clo} {d:Dd} {p:List Dd} (i:Inv W t h rf lg un d p) (ms:List (List Int))
include hW hk ht i
theorem do_eq {o:L46}(ho:Gd46 o)(hd:o.2.2.2.2.2.length≤300){mk:List (List Int)}(hmk:Mk mk un.length)(hml:mk.length≤t):∃ h2 rf2 lg2 un2 d2 p2 mk2,fg1_.f k (W,h,rf,lg,un,ms) (d.st W (rowD W p)) mk o=some (true,d2.st W (rowD W p2),mk2,(W,h2,rf2,lg2,un2,ms))∧Inv W (t+4) h2 rf2 lg2 un2 d2 p2∧Mk mk2 un2.length∧mk2.length≤t+4∧(0≤o.1→o.1≤9→mk2=mk∧(p++[d]) <+: (p2++[d2])):=by
 have ht':t≤1000:=by omega
 have ha:Ad o.2.1:=ho.2.1
 have hkey:Wd o.2.2.1:=ho.2.2.1
 have hb:∀ y∈o.2.2.2.2.2,inK .u8 y:=ho.2.2.2.2.2.1
 unfold fg1_.f fg1_.j1
 by_cases c0:(o.1==0)=true
 ·obtain ⟨h2,un2,d2,e1,e2,e3,e4⟩:=step_nonce hW hk ht' i ms ha o.2.2.2.2.1
  rw [iP c0,e1,oB,e2,oB]
  exact ⟨h2,rf,lg,un2,d2,_,mk,rfl,e3,hmk.mono (by omega),by omega,fun _ _=>⟨rfl,List.prefix_append _ _⟩⟩
 rw [iN c0]
 by_cases c1:(o.1==1)=true
 ·obtain ⟨h2,un2,d2,e1,e2,e3,e4⟩:=step_balance hW hk ht' i ms ha o.2.2.2.1
  rw [iP c1,e1,oB,e2,oB]
  exact ⟨h2,rf,lg,un2,d2,_,mk,rfl,e3,hmk.mono (by omega),by omega,fun _ _=>⟨rfl,List.prefix_append _ _⟩⟩
 rw [iN c1]
 by_cases c2:(o.1==2)=true
 ·obtain ⟨h2,un2,d2,e1,e2,e3,e4⟩:=step_code hW hk ht' i ms ha o.2.2.2.2.2 hd hb
  rw [iP c2,e1,oB,e2,oB]
  exact ⟨h2,rf,lg,un2,d2,_,mk,rfl,e3,hmk.mono (by omega),by omega,fun _ _=>⟨rfl,List.prefix_append _ _⟩⟩
 rw [iN c2]
 by_cases c3:(o.1==3)=true
 ·obtain ⟨h2,un2,d2,e1,e2,e3,e4⟩:=step_make hW hk ht' i ms ha
  rw [iP c3,e1,oB,e2,oB]
  exact ⟨h2,rf,lg,un2,d2,_,mk,rfl,e3,hmk.mono (by omega),by omega,fun _ _=>⟨rfl,List.prefix_append _ _⟩⟩
 rw [iN c3]
 by_cases c4:(o.1==4)=true
 ·obtain ⟨h2,un2,d2,e1,e2,e3,e4⟩:=step_set hW hk ht' i ms ha (v:=o.2.2.2.1) hkey
  rw [iP c4,e1,oB,e2,oB]
  exact ⟨h2,rf,lg,un2,d2,_,mk,rfl,e3,hmk.mono (by omega),by omega,fun _ _=>⟨rfl,List.prefix_append _ _⟩⟩
 rw [iN c4]
 by_cases c5:(o.1==5)=true
 ·obtain ⟨b,h2,un2,d2,p2,e1,e2,e3,e4, -, -,e5⟩:=step_touch hW hk ht' i ms (a:=o.2.1)
  rw [iP c5,e2,oB,e1,oB]
  exact ⟨h2,rf,lg,un2,d2,p2,mk,by simp,e3,hmk.mono e4,by omega,fun _ _=>⟨rfl,e5⟩⟩
 rw [iN c5]
 by_cases c6:(o.1==6)=true
 ·obtain ⟨b,h2,un2,d2,p2,e1,e2,e3,e4, -,e5⟩:=step_touchSlot hW hk ht' i ms (a:=o.2.1) o.2.2.1
  rw [iP c6,e2,oB,e1,oB]
  exact ⟨h2,rf,lg,un2,d2,p2,mk,by simp,e3,hmk.mono e4,by omega,fun _ _=>⟨rfl,e5⟩⟩
 rw [iN c6]
 by_cases c7:(o.1==7)=true
 ·obtain ⟨un2,d2,e1,e2,e3,e4⟩:=step_add hW hk ht' i ms (wr .i64 o.2.2.2.2.1)
  rw [iP c7,e1,oB,e2,oB]
  exact ⟨h,_,lg,un2,d2,_,mk,rfl,e3,hmk.mono (by omega),by omega,fun _ _=>⟨rfl,List.prefix_append _ _⟩⟩
 rw [iN c7]
 by_cases c8:(o.1==8)=true
 ·obtain ⟨un2,d2,e1,e2,e3,e4⟩:=step_log hW hk ht' i ms (o.2.1,[o.2.2.1,o.2.2.2.1],o.2.2.2.2.2) (by simp) hd
  rw [iP c8,e1,oB,e2,oB]
  exact ⟨h,rf,_,un2,d2,_,mk,rfl,e3,hmk.mono (by omega),by omega,fun _ _=>⟨rfl,List.prefix_append _ _⟩⟩
 rw [iN c8]
 by_cases c9:(o.1==9)=true
 ·obtain ⟨h2,un2,d2,e1,e2,e3,e4⟩:=step_destroy hW hk ht' i ms ha
  rw [iP c9,e1,oB,e2,oB]
  exact ⟨h2,rf,lg,un2,d2,_,mk,rfl,e3,hmk.mono (by omega),by omega,fun _ _=>⟨rfl,List.prefix_append _ _⟩⟩
 rw [iN c9]
 by_cases c10:(o.1==10)=true
 ·obtain ⟨l1,l2,l3⟩:=i.lens
  have hl:=i.len
  rw [iP c10]
  unfold fg7_.f
  rw [oB,iP (by simp only [List.length_singleton]; omega)]
  refine ⟨h,rf,lg,un,d,p,mk++[[(un.length:Int),(un.length:Int)]],?_,i.mono (by omega),hmk.add,by simp; omega,fun _ h9=>absurd (show o.1=10 by simpa using c10) (by omega)⟩
  have e:((ST37.un (d.st W (rowD W p))).2.2.2.2.2.2.2.length:Int)=(un.length:Int):=by
   show ((rowD W p).length:Int)=_
   omega
  rw [e]
 rw [iN c10]
 have hk10:∀ P:Prop,0≤o.1→o.1≤9→P:=fun P h2 h3=>by
  simp only [beq_iff_eq] at c0 c1 c2 c3 c4 c5 c6 c7 c8 c9 c10
  omega
 by_cases c11:0<mk.length
 ·rw [iP (dT (by omega))]
  have hN:=inK_u64 ho.2.2.2.2.1
  have hu:wr .u64 (mk.length:Int)=(mk.length:Int):=wr_u64_id (by omega) (by omega)
  obtain ⟨N,hNe⟩:=Int.eq_ofNat_of_zero_le hN.1
  have hj:N % mk.length<mk.length:=Nat.mod_lt _ c11
  have hidx:wr .i64 (Int.tmod o.2.2.2.2.1 (mk.length:Int))=((N % mk.length:Nat):Int):=by
   rw [hNe,Int.tmod_eq_emod_of_nonneg (by omega), ← Int.natCast_emod,wr_i64_id (by omega) (by omega)]
  obtain ⟨m,m1,m2,m3⟩:=hmk.cut hj
  obtain ⟨h2,rf2,lg2,d2,b1,b2,b3, -⟩:=step_back hk ht' i ms m2
  rw [hu,hidx,iP (by omega),iP (by omega),m1,show rd [(m:Int),(m:Int)] 0=(m:Int) from rfl,show rd [(m:Int),(m:Int)] 1=(m:Int) from rfl,b1,oB,b2,oB,next1 _ (by omega),iP (by omega),Int.toNat_natCast]
  refine ⟨h2,rf2,lg2,un.take m,d2,p.take m,_,rfl,b3.mono (by omega),?_,by simp; omega,hk10 _⟩
  rw [List.length_take,Nat.min_eq_left m2]
  exact m3
 ·rw [iN (by simpa using c11)]
  exact ⟨h,rf,lg,un,d,p,mk,rfl,i.mono (by omega),hmk,by omega,hk10 _⟩
end
theorem cut_loop (l:List L46):∀ (m q i:Nat),i+m=62→m<q→(∀ o∈l.take i,o.2.2.2.2.2.length≤300)→i≤61→∃ l',fh0_.l1 l q (i:Int)=some l'∧l'.length≤61∧∀ o∈l',o∈l∧o.2.2.2.2.2.length≤300
 | m,0,i,hi,hq,ha,hb=>by omega
 | 0,q+1,i,hi,hq,ha,hb=>by omega
 | m+1,q+1,i,hi,hq,ha,hb=>by
  have e:fh0_.l1 l (q+1) (i:Int)=fh0_.b1 l (fh0_.l1 l q) (i:Int):=rfl
  rw [e]
  unfold fh0_.b1 fh0_.j2 fh0_.j1
  by_cases c:i<l.length
  ·have stop:∃ l',some (l.take (Int.toNat (i:Int)))=some l'∧l'.length≤61∧∀ o∈l',o∈l∧o.2.2.2.2.2.length≤300:=⟨_,rfl,by rw [Int.toNat_natCast,List.length_take]; omega,fun o ho=>by
    rw [Int.toNat_natCast] at ho
    exact ⟨List.mem_of_mem_take ho,ha o ho⟩⟩
   rw [iP (by simpa using c),iP (by omega)]
   by_cases c2:60<i
   ·rw [iP (by simp; omega),iP rfl,iP (by omega)]
    exact stop
   ·rw [iN (by simp; omega),gt_natG l c]
    by_cases c3:(300:Int)<((l[i]).2.2.2.2.2.length:Int)
    ·rw [dT c3,iP rfl,iP (by omega)]
     exact stop
    ·rw [dF c3,iN (by simp),next1 i (by omega)]
     refine cut_loop l m q (i+1) (by omega) (by omega) (fun o ho=>?_) (by omega)
     rw [List.take_succ_eq_append_getElem c] at ho
     rcases List.mem_append.1 ho with ho | ho
     ·exact ha o ho
     ·simp only [List.mem_singleton] at ho
      rw [ho]; omega
  ·rw [iN (by simp; omega)]
   refine ⟨l,rfl,by omega,fun o ho=>⟨ho,ha o ?_⟩⟩
   rw [List.take_of_length_le (by omega)]; exact ho
theorem cut_eq (l:List L46)(hl:∀ o∈l,Gd46 o)(k:Nat)(hk:100<k):∃ l',fh0_.f k l=some l'∧l'.length≤61∧∀ o∈l',Gd46 o∧o.2.2.2.2.2.length≤300:=by
 obtain ⟨l',h1,h2,h3⟩:=cut_loop l 62 k 0 (by omega) (by omega) (by simp) (by omega)
 exact ⟨l',h1,h2,fun o ho=>⟨hl o (h3 o ho).1,(h3 o ho).2⟩⟩
theorem wg_of {l:List L71}(hg:∀ a∈l,Gd71 a)(hr:Right14 l):WG l :=
 ⟨hr.1,fun x hx=>by
  obtain ⟨h1,h2⟩:=hr.2 x hx
  obtain ⟨g1,g2,g3,g4,g5⟩:=hg x hx
  exact ⟨h1,⟨h2.1,fun s hs=>⟨h2.2 s hs,(g5.1 s hs).1⟩⟩,g4.1,g1⟩⟩
theorem inv0 {W:List L71}(hW:WG W):Inv W 0 ([],[],[],[]) 0 [] [] d0 [] where
 wf:=⟨fun a v h=>(by cases h),fun i hi=>absurd hi (Nat.not_lt_zero i),fun i j hi=>absurd hi (Nat.not_lt_zero i),⟨List.nodup_nil,fun j hj=>absurd hj (Nat.not_lt_zero j)⟩⟩
 rel:=⟨⟨List.nodup_nil,fun a=>baseA_fst W a,fun a=>⟨rfl,rfl,rfl,rfl,rfl,(baseA_ok hW a).2.1,fun k hk=>rfl,fun k y h=>(by cases h)⟩,fun a=>⟨fun h=>(by cases h),fun h=>(by cases h)⟩,fun a k=>⟨fun h=>(by cases h),fun h=>(by cases h)⟩,fun a k h=>(by cases h)⟩,rfl,rfl⟩
 hist:=trivial
 len:=rfl
 sz:=⟨Nat.le_refl _,Nat.le_refl _,Nat.le_refl _,Nat.le_refl _,fun x hx=>(by cases hx),fun x hx=>(by cases hx)⟩
 szp:=fun w hw=>by cases hw
 szh:=⟨0,⟨Nat.le_refl _,fun j hj=>absurd hj (Nat.not_lt_zero j)⟩,Nat.le_refl _⟩
 fst:=rfl
theorem mk_nil (n:Nat):Mk [] n:=⟨[],rfl,List.Pairwise.nil,fun i hi=>by cases hi⟩
section
variable {W:List L71} (hW:WG W) {k:Nat} (hk:5000<k) {l:List L46} (hl:l.length≤61) (ho:∀ o∈l,Gd46 o∧o.2.2.2.2.2.length≤300)
include hW hk hl ho
theorem nest_do {n:Nat}(hn:n<l.length){t:Nat}(ht:t≤900){h:Hp}{rf:Int}{lg:List L100}{un:List Clo}{d:Dd}{p:List Dd}(ms:List (List Int))(i:Inv W t h rf lg un d p)(c:0≤(l[n]).1∧(l[n]).1≤9) :
  ∃ h2 rf2 lg2 un2 d2 p2,fg1_.f k (W,h,rf,lg,un,ms) (d.st W (rowD W p)) [] (gt l (n:Int))=some (true,d2.st W (rowD W p2),[],(W,h2,rf2,lg2,un2,ms))∧Inv W (t+4) h2 rf2 lg2 un2 d2 p2∧(p++[d]) <+: (p2++[d2]):=by
 obtain ⟨o1,o2⟩:=ho l[n] (List.getElem_mem hn)
 obtain ⟨h2,rf2,lg2,un2,d2,p2,mk2,e1,e2,e3,e4,e5⟩:=do_eq hW hk ht i ms o1 o2 (mk_nil _) (by simp)
 obtain ⟨e6,e7⟩:=e5 c.1 c.2
 rw [e6] at e1
 rw [gt_natG l hn]
 exact ⟨h2,rf2,lg2,un2,d2,p2,e1,e2,e7⟩
theorem nest3 (x3 x4:List L46)(ms:List (List Int)):∀ (r q n t:Nat) (h:Hp) (rf:Int) (lg:List L100) (un:List Clo) (d:Dd) (p:List Dd),n+r=l.length→r<q→t+4*r≤800→Inv W t h rf lg un d p →
  ∃ h' rf' lg' un' d' p',fb1_.l3 k x3 x4 l q (n:Int) (d.st W (rowD W p)) (d.st W (rowD W p)) W h.1 h.2.1 h.2.2.1 h.2.2.2 rf lg un ms W h.1 h.2.1 h.2.2.1 h.2.2.2 rf lg un ms=fb1_.j1 k x3 x4 (d'.st W (rowD W p')) (d'.st W (rowD W p')) W h'.1 h'.2.1 h'.2.2.1 h'.2.2.2 rf' lg' un' ms W h'.1 h'.2.1 h'.2.2.1 h'.2.2.2 rf' lg' un' ms∧Inv W (t+4*r) h' rf' lg' un' d' p'
 | 0,q,n,t,h,rf,lg,un,d,p,hn,hq,ht,i=>by
  obtain ⟨q,rfl⟩:∃ m,q=m+1:=⟨q - 1,by omega⟩
  refine ⟨h,rf,lg,un,d,p,?_,i⟩
  show fb1_.b3 _ _ _ _ _ _ _ _ _ _ _ _ _ _ _ _ _ _ _ _ _ _ _ _ _ _=_
  unfold fb1_.b3
  rw [iN (by simp; omega)]
 | r+1,q,n,t,h,rf,lg,un,d,p,hn,hq,ht,i=>by
  obtain ⟨q,rfl⟩:∃ m,q=m+1:=⟨q - 1,by omega⟩
  have hnl:n<l.length:=by omega
  have go:∀ (h2:Hp) (rf2:Int) (lg2:List L100) (un2:List Clo) (d2:Dd) (p2:List Dd),Inv W (t+4) h2 rf2 lg2 un2 d2 p2→∃ h' rf' lg' un' d' p',fb1_.j8 (n:Int) (fb1_.l3 k x3 x4 l q) (d2.st W (rowD W p2)) (d2.st W (rowD W p2)) W h2.1 h2.2.1 h2.2.2.1 h2.2.2.2 rf2 lg2 un2 ms W h2.1 h2.2.1 h2.2.2.1 h2.2.2.2 rf2 lg2 un2 ms=fb1_.j1 k x3 x4 (d'.st W (rowD W p')) (d'.st W (rowD W p')) W h'.1 h'.2.1 h'.2.2.1 h'.2.2.2 rf' lg' un' ms W h'.1 h'.2.1 h'.2.2.1 h'.2.2.2 rf' lg' un' ms∧Inv W (t+4*(r+1)) h' rf' lg' un' d' p':=fun h2 rf2 lg2 un2 d2 p2 i2=>by
   unfold fb1_.j8
   rw [next1 n (by omega)]
   obtain ⟨h',rf',lg',un',d',p',e1,e2⟩:=nest3 x3 x4 ms r q (n+1) (t+4) h2 rf2 lg2 un2 d2 p2 (by omega) (by omega) (by omega) i2
   exact ⟨h',rf',lg',un',d',p',e1,e2.mono (by omega)⟩
  have e:∀ P:Option Bool,(∃ h' rf' lg' un' d' p',(fb1_.j9 k l (n:Int) (d.st W (rowD W p)) (d.st W (rowD W p)) W h.1 h.2.1 h.2.2.1 h.2.2.2 rf lg un ms W h.1 h.2.1 h.2.2.1 h.2.2.2 rf lg un ms (fb1_.l3 k x3 x4 l q) (decide (0≤(l[n]).1)&&decide ((l[n]).1≤9))=fb1_.j1 k x3 x4 (d'.st W (rowD W p')) (d'.st W (rowD W p')) W h'.1 h'.2.1 h'.2.2.1 h'.2.2.2 rf' lg' un' ms W h'.1 h'.2.1 h'.2.2.1 h'.2.2.2 rf' lg' un' ms)∧Inv W (t+4*(r+1)) h' rf' lg' un' d' p'):=fun _=>by
   unfold fb1_.j9
   by_cases c:0≤(l[n]).1∧(l[n]).1≤9
   ·obtain ⟨h2,rf2,lg2,un2,d2,p2,e1,e2,e3⟩:=nest_do hW hk hl ho hnl (by omega) ms i c
    obtain ⟨h',rf',lg',un',d',p',g1,g2⟩:=go h2 rf2 lg2 un2 d2 p2 e2
    refine ⟨h',rf',lg',un',d',p',?_,g2⟩
    rw [iP (by simpa using c)]
    refine (congrArg (fun o=>Option.bind o _) e1).trans ?_
    rw [oB]
    refine (congrArg (fun o=>Option.bind o _) e1).trans ?_
    rw [oB]
    exact g1
   ·obtain ⟨h',rf',lg',un',d',p',g1,g2⟩:=go h rf lg un d p (i.mono (by omega))
    refine ⟨h',rf',lg',un',d',p',?_,g2⟩
    rw [iN (by simpa using c)]
    exact g1
  obtain ⟨h',rf',lg',un',d',p',g1,g2⟩:=e none
  refine ⟨h',rf',lg',un',d',p',?_,g2⟩
  rw [← g1]
  show fb1_.b3 _ _ _ _ _ _ _ _ _ _ _ _ _ _ _ _ _ _ _ _ _ _ _ _ _ _=_
  unfold fb1_.b3
  rw [iP (by simp; omega),iP (by omega),gt_natG l hnl]
  by_cases c:0≤(l[n]).1
  ·rw [iP (dT c),dT c,Bool.true_and]
  ·rw [iN (by simpa using c),dF c,Bool.false_and]
theorem nest2 (x4:List L46)(y2:ST37)(t9:Int)(ms:List (List Int)):∀ (r q n t:Nat) (h:Hp) (rf:Int) (lg:List L100) (un:List Clo) (d:Dd) (p:List Dd),n+r=l.length→r<q→t+4*r≤800→Inv W t h rf lg un d p →
  ∃ h' rf' lg' un' d' p',fb1_.l2 k x4 y2 t9 l q (n:Int) (d.st W (rowD W p)) (d.st W (rowD W p)) W h.1 h.2.1 h.2.2.1 h.2.2.2 rf lg un ms W h.1 h.2.1 h.2.2.1 h.2.2.2 rf lg un ms=fb1_.j2 k x4 y2 t9 (d'.st W (rowD W p')) W h'.1 h'.2.1 h'.2.2.1 h'.2.2.2 rf' lg' un' ms W h'.1 h'.2.1 h'.2.2.1 h'.2.2.2 rf' lg' un' ms∧Inv W (t+4*r) h' rf' lg' un' d' p'∧(p++[d]) <+: (p'++[d'])
 | 0,q,n,t,h,rf,lg,un,d,p,hn,hq,ht,i=>by
  obtain ⟨q,rfl⟩:∃ m,q=m+1:=⟨q - 1,by omega⟩
  refine ⟨h,rf,lg,un,d,p,?_,i,List.prefix_rfl⟩
  show fb1_.b2 _ _ _ _ _ _ _ _ _ _ _ _ _ _ _ _ _ _ _ _ _ _ _ _ _ _ _=_
  unfold fb1_.b2
  rw [iN (by simp; omega)]
 | r+1,q,n,t,h,rf,lg,un,d,p,hn,hq,ht,i=>by
  obtain ⟨q,rfl⟩:∃ m,q=m+1:=⟨q - 1,by omega⟩
  have hnl:n<l.length:=by omega
  have go:∀ (h2:Hp) (rf2:Int) (lg2:List L100) (un2:List Clo) (d2:Dd) (p2:List Dd),Inv W (t+4) h2 rf2 lg2 un2 d2 p2→(p++[d]) <+: (p2++[d2])→∃ h' rf' lg' un' d' p',fb1_.j6 (n:Int) (fb1_.l2 k x4 y2 t9 l q) (d2.st W (rowD W p2)) (d2.st W (rowD W p2)) W h2.1 h2.2.1 h2.2.2.1 h2.2.2.2 rf2 lg2 un2 ms W h2.1 h2.2.1 h2.2.2.1 h2.2.2.2 rf2 lg2 un2 ms=fb1_.j2 k x4 y2 t9 (d'.st W (rowD W p')) W h'.1 h'.2.1 h'.2.2.1 h'.2.2.2 rf' lg' un' ms W h'.1 h'.2.1 h'.2.2.1 h'.2.2.2 rf' lg' un' ms∧Inv W (t+4*(r+1)) h' rf' lg' un' d' p'∧(p++[d]) <+: (p'++[d']):=fun h2 rf2 lg2 un2 d2 p2 i2 hp=>by
   unfold fb1_.j6
   rw [next1 n (by omega)]
   obtain ⟨h',rf',lg',un',d',p',e1,e2,e3⟩:=nest2 x4 y2 t9 ms r q (n+1) (t+4) h2 rf2 lg2 un2 d2 p2 (by omega) (by omega) (by omega) i2
   exact ⟨h',rf',lg',un',d',p',e1,e2.mono (by omega),hp.trans e3⟩
  have e:(∃ h' rf' lg' un' d' p',(fb1_.j7 k l (n:Int) (d.st W (rowD W p)) (d.st W (rowD W p)) W h.1 h.2.1 h.2.2.1 h.2.2.2 rf lg un ms W h.1 h.2.1 h.2.2.1 h.2.2.2 rf lg un ms (fb1_.l2 k x4 y2 t9 l q) (decide (0≤(l[n]).1)&&decide ((l[n]).1≤9))=fb1_.j2 k x4 y2 t9 (d'.st W (rowD W p')) W h'.1 h'.2.1 h'.2.2.1 h'.2.2.2 rf' lg' un' ms W h'.1 h'.2.1 h'.2.2.1 h'.2.2.2 rf' lg' un' ms)∧Inv W (t+4*(r+1)) h' rf' lg' un' d' p'∧(p++[d]) <+: (p'++[d'])):=by
   unfold fb1_.j7
   by_cases c:0≤(l[n]).1∧(l[n]).1≤9
   ·obtain ⟨h2,rf2,lg2,un2,d2,p2,e1,e2,e3⟩:=nest_do hW hk hl ho hnl (by omega) ms i c
    obtain ⟨h',rf',lg',un',d',p',g1,g2⟩:=go h2 rf2 lg2 un2 d2 p2 e2 e3
    refine ⟨h',rf',lg',un',d',p',?_,g2⟩
    rw [iP (by simpa using c)]
    refine (congrArg (fun o=>Option.bind o _) e1).trans ?_
    rw [oB]
    refine (congrArg (fun o=>Option.bind o _) e1).trans ?_
    rw [oB]
    exact g1
   ·obtain ⟨h',rf',lg',un',d',p',g1,g2⟩:=go h rf lg un d p (i.mono (by omega)) List.prefix_rfl
    refine ⟨h',rf',lg',un',d',p',?_,g2⟩
    rw [iN (by simpa using c)]
    exact g1
  obtain ⟨h',rf',lg',un',d',p',g1,g2⟩:=e
  refine ⟨h',rf',lg',un',d',p',?_,g2⟩
  rw [← g1]
  show fb1_.b2 _ _ _ _ _ _ _ _ _ _ _ _ _ _ _ _ _ _ _ _ _ _ _ _ _ _ _=_
  unfold fb1_.b2
  rw [iP (by simp; omega),iP (by omega),gt_natG l hnl]
  by_cases c:0≤(l[n]).1
  ·rw [iP (dT c),dT c,Bool.true_and]
  ·rw [iN (by simpa using c),dF c,Bool.false_and]
theorem nest1 (y2:ST37)(t9:Int)(z1:List L71)(z2:W15)(z3:List L110)(z4:W16)(z5:W17)(z6:Int)(z7:List L100)(z8:List Clo)(z9:List (List Int))(t12:Int)(ms:List (List Int)):∀ (r q n t:Nat) (h:Hp) (rf:Int) (lg:List L100) (un:List Clo) (d:Dd) (p:List Dd),n+r=l.length→r<q→t+4*r≤800→Inv W t h rf lg un d p →
  ∃ h' rf' lg' un' d' p',fb1_.l1 k y2 t9 z1 z2 z3 z4 z5 z6 z7 z8 z9 t12 l q (n:Int) (d.st W (rowD W p)) W h.1 h.2.1 h.2.2.1 h.2.2.2 rf lg un ms=fb1_.j3 k y2 t9 z1 z2 z3 z4 z5 z6 z7 z8 z9 t12 W h'.1 h'.2.1 h'.2.2.1 h'.2.2.2 rf' lg' un' ms∧Inv W (t+4*r) h' rf' lg' un' d' p'∧(p++[d]) <+: (p'++[d'])
 | 0,q,n,t,h,rf,lg,un,d,p,hn,hq,ht,i=>by
  obtain ⟨q,rfl⟩:∃ m,q=m+1:=⟨q - 1,by omega⟩
  refine ⟨h,rf,lg,un,d,p,?_,i,List.prefix_rfl⟩
  show fb1_.b1 _ _ _ _ _ _ _ _ _ _ _ _ _ _ _ _ _ _ _ _ _ _ _ _ _ _=_
  unfold fb1_.b1
  rw [iN (by simp; omega)]
 | r+1,q,n,t,h,rf,lg,un,d,p,hn,hq,ht,i=>by
  obtain ⟨q,rfl⟩:∃ m,q=m+1:=⟨q - 1,by omega⟩
  have hnl:n<l.length:=by omega
  have go:∀ (h2:Hp) (rf2:Int) (lg2:List L100) (un2:List Clo) (d2:Dd) (p2:List Dd),Inv W (t+4) h2 rf2 lg2 un2 d2 p2→(p++[d]) <+: (p2++[d2])→∃ h' rf' lg' un' d' p',fb1_.j4 (n:Int) (fb1_.l1 k y2 t9 z1 z2 z3 z4 z5 z6 z7 z8 z9 t12 l q) (d2.st W (rowD W p2)) W h2.1 h2.2.1 h2.2.2.1 h2.2.2.2 rf2 lg2 un2 ms=fb1_.j3 k y2 t9 z1 z2 z3 z4 z5 z6 z7 z8 z9 t12 W h'.1 h'.2.1 h'.2.2.1 h'.2.2.2 rf' lg' un' ms∧Inv W (t+4*(r+1)) h' rf' lg' un' d' p'∧(p++[d]) <+: (p'++[d']):=fun h2 rf2 lg2 un2 d2 p2 i2 hp=>by
   unfold fb1_.j4
   rw [next1 n (by omega)]
   obtain ⟨h',rf',lg',un',d',p',e1,e2,e3⟩:=nest1 y2 t9 z1 z2 z3 z4 z5 z6 z7 z8 z9 t12 ms r q (n+1) (t+4) h2 rf2 lg2 un2 d2 p2 (by omega) (by omega) (by omega) i2
   exact ⟨h',rf',lg',un',d',p',e1,e2.mono (by omega),hp.trans e3⟩
  have e:(∃ h' rf' lg' un' d' p',(fb1_.j5 k l (n:Int) (d.st W (rowD W p)) W h.1 h.2.1 h.2.2.1 h.2.2.2 rf lg un ms (fb1_.l1 k y2 t9 z1 z2 z3 z4 z5 z6 z7 z8 z9 t12 l q) (decide (0≤(l[n]).1)&&decide ((l[n]).1≤9))=fb1_.j3 k y2 t9 z1 z2 z3 z4 z5 z6 z7 z8 z9 t12 W h'.1 h'.2.1 h'.2.2.1 h'.2.2.2 rf' lg' un' ms)∧Inv W (t+4*(r+1)) h' rf' lg' un' d' p'∧(p++[d]) <+: (p'++[d'])):=by
   unfold fb1_.j5
   by_cases c:0≤(l[n]).1∧(l[n]).1≤9
   ·obtain ⟨h2,rf2,lg2,un2,d2,p2,e1,e2,e3⟩:=nest_do hW hk hl ho hnl (by omega) ms i c
    obtain ⟨h',rf',lg',un',d',p',g1,g2⟩:=go h2 rf2 lg2 un2 d2 p2 e2 e3
    refine ⟨h',rf',lg',un',d',p',?_,g2⟩
    rw [iP (by simpa using c)]
    refine (congrArg (fun o=>Option.bind o _) e1).trans ?_
    rw [oB]
    exact g1
   ·obtain ⟨h',rf',lg',un',d',p',g1,g2⟩:=go h rf lg un d p (i.mono (by omega)) List.prefix_rfl
    refine ⟨h',rf',lg',un',d',p',?_,g2⟩
    rw [iN (by simpa using c)]
    exact g1
  obtain ⟨h',rf',lg',un',d',p',g1,g2⟩:=e
  refine ⟨h',rf',lg',un',d',p',?_,g2⟩
  rw [← g1]
  show fb1_.b1 _ _ _ _ _ _ _ _ _ _ _ _ _ _ _ _ _ _ _ _ _ _ _ _ _ _=_
  unfold fb1_.b1
  rw [iP (by simp; omega),iP (by omega),gt_natG l hnl]
  by_cases c:0≤(l[n]).1
  ·rw [iP (dT c),dT c,Bool.true_and]
  ·rw [iN (by simpa using c),dF c,Bool.false_and]
end
theorem pre_take {α:Type}{a b:List α}(h:a <+: b){n:Nat}(hn:a.length=n):b.take n=a:=by
 obtain ⟨c,rfl⟩:=h
 rw [← hn,List.take_left]
theorem nest_end {W:List L71}(hW:WG W){k:Nat}(hk:5000<k){t1 t2 t3:Nat}(ht:t1≤800∧t2≤800∧t3≤800){h1 h2 h3:Hp}{rf1 rf2 rf3:Int}{lg1 lg2 lg3:List L100}{un1 un2 un3:List Clo}{d1 d2 d3:Dd}{p1 p2 p3:List Dd}(ms:List (List Int))
  (i1:Inv W t1 h1 rf1 lg1 un1 d1 p1) (i2:Inv W t2 h2 rf2 lg2 un2 d2 p2) (i3:Inv W t3 h3 rf3 lg3 un3 d3 p3) (q12:(p1++[d1]) <+: (p2++[d2])) (q23:(p2++[d2]) <+: (p3++[d3])) :
  fb1_.j3 k (d1.st W (rowD W p1)) (un1.length:Int) W h2.1 h2.2.1 h2.2.2.1 h2.2.2.2 rf2 lg2 un2 ms (un2.length:Int) W h3.1 h3.2.1 h3.2.2.1 h3.2.2.2 rf3 lg3 un3 ms=some true:=by
 have l1:=i1.len
 have l2:=i2.len
 have l3:=i3.len
 have m12:=q12.length_le
 have m23:=q23.length_le
 simp only [List.length_append,List.length_singleton] at m12 m23
 obtain ⟨h4,rf4,lg4,d4,a1, -,a3,a4⟩:=step_back hk (by omega) i3 ms (m:=un2.length) (by omega)
 rw [pre_take q23 (by simp; omega)] at a4
 obtain ⟨h5,rf5,lg5,d5,b1, -,b3,b4⟩:=step_back hk (by omega) a3 ms (m:=un1.length) (by simp; omega)
 rw [a4,pre_take q12 (by simp; omega)] at b4
 obtain ⟨h6,rf6,lg6,d6,c1, -,c3,c4⟩:=step_back hk (by omega) i2 ms (m:=un1.length) (by omega)
 rw [pre_take q12 (by simp; omega)] at c4
 obtain ⟨b5,b6⟩:=List.append_inj' b4 rfl
 obtain ⟨c5,c6⟩:=List.append_inj' c4 rfl
 simp only [List.cons.injEq,and_true] at b6 c6
 rw [b5,b6] at b3
 rw [c5,c6] at c3
 have e1:=all_eq hW hk (by omega) b3 ms
 have e2:=all_eq hW hk (by omega) c3 ms
 unfold fb1_.j3 fg7_.f
 refine (congrArg (fun o=>Option.bind o _) a1).trans ?_
 rw [oB]
 refine (congrArg (fun o=>Option.bind o _) b1).trans ?_
 rw [oB]
 refine (congrArg (fun o=>Option.bind o _) c1).trans ?_
 rw [oB]
 refine (congrArg (fun o=>Option.bind o _) e1).trans ?_
 rw [oB,iP rfl]
 refine (congrArg (fun o=>Option.bind o _) e2).trans ?_
 rw [oB,iP rfl,oB]
 have g1:(((un3.take un2.length).take un1.length).length:Int)=(un1.length:Int):=by simp only [List.length_take]; omega
 have g2:((un2.take un1.length).length:Int)=(un1.length:Int):=by simp only [List.length_take]; omega
 refine (iP ?_).trans ?_
 ·show ((((un3.take un2.length).take un1.length).length:Int)==(un1.length:Int))=true
  rw [g1]; simp
 ·rw [oB]
  show some (((un2.take un1.length).length:Int)==(un1.length:Int))=some true
  rw [g2]; simp
theorem fb1_true (a0:List L71)(a1:List L46)(a2:List L46)(a3:List L46)(w0:Gd22 a0)(w1:Gd23 a1)(w2:Gd23 a2)(w3:Gd23 a3):∃ k:Nat,fb1_.f k a0 a1 a2 a3=some true:=by
 refine ⟨6000,?_⟩
 have fx:ff4_.f 6000=some true:=by kernel_rfl
 obtain ⟨b,h1,h2⟩:=right14_eq 5960 a0 w0.1 (by omega)
 unfold fb1_.f
 rw [h1,oB,fx]
 cases b with
 | false=>rfl
 | true =>
  have hr:=h2 rfl
  have hW:=wg_of w0.1 hr
  have hk:5000<6000:=by omega
  obtain ⟨la,c1,c2,c3⟩:=cut_eq a1 w1.1 6000 (by omega)
  obtain ⟨lb,d1,d2,d3⟩:=cut_eq a2 w2.1 6000 (by omega)
  obtain ⟨lc,e1,e2,e3⟩:=cut_eq a3 w3.1 6000 (by omega)
  rw [iN (by simp),stateList_eq a0 hr.1 (fun a ha=>(hr.2 a ha).1) 6000 (by omega),oB]
  unfold fh4_.f
  rw [oB,oB,oB,oB,iN (by simp),c1,oB]
  obtain ⟨hA,rfA,lgA,unA,dA,pA,f1,iA⟩:=nest3 hW hk c2 c3 a2 a3 [] la.length 6000 0 0 ([],[],[],[]) 0 [] [] d0 [] (by omega) (by omega) (by omega) (inv0 hW)
  refine Eq.trans f1 ?_
  unfold fb1_.j1 fg7_.f
  rw [oB,oB,iN (by simp),d1,oB]
  obtain ⟨hB,rfB,lgB,unB,dB,pB,g1,iB,qAB⟩:=nest2 hW hk d2 d3 a3 (dA.st a0 (rowD a0 pA)) (unA.length:Int) [] lb.length 6000 0 _ hA rfA lgA unA dA pA (by omega) (by omega) (by omega) iA
  refine Eq.trans g1 ?_
  unfold fb1_.j2 fg7_.f
  rw [oB,e1,oB]
  obtain ⟨hC,rfC,lgC,unC,dC,pC,j1,iC,qBC⟩:=nest1 hW hk e2 e3 (dA.st a0 (rowD a0 pA)) (unA.length:Int) a0 hB.1 hB.2.1 hB.2.2.1 hB.2.2.2 rfB lgB unB [] (unB.length:Int) [] lc.length 6000 0 _ hB rfB lgB unB dB pB (by omega) (by omega) (by omega) iB
  refine Eq.trans j1 ?_
  exact nest_end hW hk ⟨by omega,by omega,by omega⟩ [] iA iB iC qAB qBC
end GW
