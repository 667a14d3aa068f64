import Derived.Test.YtdajnflppnlhiaaGWLQui
import Derived.Deep.Slices
import Derived.Test.YtdajnflppnlhiaaRows
import Derived.ProofKit
import Derived.OpenShut
import Derived.Carry
set_option linter.unusedVariables false
set_option linter.unusedSimpArgs false
namespace GW
open Go Go.RowKit Go.ChangeShapes Go.WideShapes Go.ChangeAt
section
variable {H:Type} {enc:TypeId×Value→H} {P:Program}
theorem trodAll_stays {W W':World}(hl:laidOutB P=true)(hb:Below W.heap.size W W'){sp:Nat→Bool}:∀ (ts:List TypeId) (vs:List Value) (ds:List (DataW H)) (p:List MemPlace),
  (ts.all fun t=>P.readableRec t&&decide (t<P.types.size))=true→DataW.TrodAll enc P W 0 (fun _=>true) true ts vs ds p→(∀ x∈p,x.block<W.heap.size)→(∀ x∈p,sp x.block=true) →
  DataW.TrodAll enc P W' 0 sp true ts vs ds p
 | [],[],[],p,_,h,_,_=>h
 | t::ts,v::vs,d::ds,p,ht,h,hlt,hsp=>by
  obtain ⟨p1,q1,h1,h2,rfl⟩:=h
  simp only [List.all_cons,Bool.and_eq_true,decide_eq_true_eq] at ht
  refine ⟨p1,q1,?_,trodAll_stays hl hb ts vs ds q1 ht.2 h2 (fun x hx=>hlt x (List.mem_append_right _ hx)) (fun x hx=>hsp x (List.mem_append_right _ hx)),rfl⟩
  exact WideElems.Trod_stays hl ht.1.1 ht.1.2 h1 (fun x hx=>hb.same (hlt x (List.mem_append_left _ hx))) (fun x hx=>hsp x (List.mem_append_left _ hx))
 | [],[],_::_,p,_,h,_,_=>h.elim
 | [],_::_,_,p,_,h,_,_=>h.elim
 | _::_,[],_,p,_,h,_,_=>h.elim
 | _::_,_::_,[],p,_,h,_,_=>h.elim
theorem law_post {f:Func}{s:ChangeSpec}{W W':World}{args:Array Value}{ds gs:List (DataW H)}{before:List MemPlace}{tb:TypeId}
  (hW:DataW.Whole enc P f.params.toList s.vars false W args.toList ds gs before) (hv:s.vars=[]) (hl:laidOutB P=true) (hts:(f.params.toList.all fun t=>P.readableRec t&&decide (t<P.types.size))=true)
  (hr:f.resultTypes = #[tb]) (hu:P.underlying tb=some .bool) (h1:(s.fn H (ds++gs)).results=[.lit (.bool true)]) (h2:(s.fn H (ds++gs)).args=ds) (h3:(s.fn H (ds++gs)).vars=[]) (hb:Below W.heap.size W W') :
  s.post enc P f false true false false W args (.bool true) W':=by
 have hlt:∀ p∈before,p.block<W.heap.size:=fun p hp=>hW.lt p hp
 obtain ⟨pa,pv,hA,hV,hps,hz,hn⟩:=id hW
 rw [hv] at hV
 cases gs with
 | cons g r=>exact hV.elim
 | nil =>
  obtain rfl:pv=[]:=hV
  have hold:∀ p∈before,(fun b=>decide (b<W.heap.size)) p.block=true:=fun p hp=>by simpa using hlt p hp
  have hargs:∀ sp:Nat→Bool,(∀ p∈before,sp p.block=true)→DataW.TrodAll enc P W' 0 sp true f.params.toList args.toList (s.fn H (ds++[])).args pa:=fun sp hsp=>by
   rw [h2]
   exact trodAll_stays hl hb _ _ _ _ hts hA (fun x hx=>hlt x (by rw [hps]; simpa using hx)) (fun x hx=>hsp x (by rw [hps]; simpa using hx))
  have hvars:∀ sp:Nat→Bool,(∀ p∈before,sp p.block=true)→DataW.TrodVars enc P W' sp s.vars (s.fn H (ds++[])).vars []:=fun sp _=>by rw [hv,h3]; rfl
  have hres:∀ (b:Nat) (sp:Nat→Bool) (hd:Bool),DataW.TrodAll enc P W' b sp hd f.resultTypes.toList ((Value.bool true).resultList f.resultTypes.size) (s.fn H (ds++[])).results []:=fun b sp hd=>by
   rw [h1,hr]
   exact trodAll_cons_mk (p:=[]) (p':=[]) (shut_bool hu _) trodAll_mk0
  refine ⟨ds,[],before,[],pa,[],hW,hres _ _ _,hargs _ hold,hvars _ hold,World.keptBut_mono (fun p hp=>⟨hp,?_⟩) (hb.frame (· ∈ before)),fun _=>?_⟩
  ·rw [hps] at hp; simpa using hp
  ·refine ⟨ok_one (v:= .bool true) hr rfl (okWide_bool_mk hu _),_,_,([]++pa)++[],⟨[]++pa,[],trodAll_append (hargs _ (fun _ _=>rfl)) (hres _ _ _),hvars _ (fun _ _=>rfl),rfl,?_,?_⟩,?_⟩
   ·intro b off hp
    have hin:MemPlace.cell b off∈before:=by rw [hps]; simpa using hp
    rw [hb.frozen (hlt _ hin)]
    exact hz b off hin
   ·intro ha; cases ha
   ·intro p hp _
    rw [hps]
    simpa using hp
theorem ints_of {base:Nat}{sp:Nat→Bool}{hd:Bool}{W:World}{t e:TypeId}{k:IntKind}{n fuel:Nat}{cs:List Value}{x:DataW H×List MemPlace}(hu:P.underlying t=some (.array n e))(hi:P.underlying e=some (.int k))(hT:tyI P e=some (false,1))(hT':tyI P t=some (true,n))
  (h:DataW.trod enc P W base sp hd fuel t cs=some x):∃ xs:List Int,cs=nums k xs∧xs.length=n∧∀ y∈xs,inK k y:=by
 obtain ⟨dd,i,hd1,hinf,_,hz⟩:=tyI_some hT
 obtain ⟨dd',i',hd1',hinf',_,hz'⟩:=tyI_some hT'
 have hc:P.cellsOf e=1:=by simp [Program.cellsOf,hinf,hz]
 have hc':P.cellsOf t=n:=by simp [Program.cellsOf,hinf',hz']
 obtain ⟨xs,m,_,_,hl,hxl,hf⟩:=DataW.trod_array hu h
 rw [hc'] at hl
 have key:∀ i,i<n→∃ y,cs[i]?=some (.int k y)∧inK k y:=by
  intro i hi'
  have h1:=hf i hi'
  rw [hc,Nat.mul_one] at h1
  have h2:(cs.drop i).take 1=[cs[i]'(by omega)]:=by
   rw [List.drop_eq_getElem_cons (by omega)]; rfl
  rw [h2] at h1
  have h3:xs[i]?=some (xs[i]'(by omega)):=List.getElem?_eq_getElem (by omega)
  rw [h3] at h1
  obtain ⟨y,e1,_,e2⟩:=DataW.trod_int hi h1
  exact ⟨y,by rw [List.getElem?_eq_getElem (by omega)]; simpa using e1,e2⟩
 clear hf h
 subst hl
 clear hc' hT' hinf' hz' hxl hu
 induction cs with
 | nil=>exact ⟨[],rfl,rfl,fun y hy=>by cases hy⟩
 | cons c r ih =>
  obtain ⟨y,e1,e2⟩:=key 0 (by simp)
  obtain ⟨ys,f1,f2,f3⟩:=ih (fun i hi=>by have:=key (i+1) (by simp; omega); simpa using this)
  refine ⟨y::ys,?_,by simp [f2],fun z hz=>?_⟩
  ·have:c = .int k y:=by simpa using e1
   rw [this,f1]; rfl
  ·rcases List.mem_cons.1 hz with rfl | hz
   ·exact e2
   ·exact f3 z hz
theorem o_arr {r:Reach}{b0 base:Nat}{sp:Nat→Bool}{hd:Bool}{W:World}{t e:TypeId}{k:IntKind}{n:Nat}{v:Value}{d:DataW H}{ps:List MemPlace}(hu:P.underlying t=some (.array n e))(hi:P.underlying e=some (.int k))(hT:tyI P e=some (false,1))(hT':tyI P t=some (true,n))
  (hval:Value.okWide P W r b0 t v) (h:DataW.Trod enc P W base sp hd t v d ps):∃ xs:List Int,v=(D.agg [.ints k xs n]).val∧xs.length=n∧∀ y∈xs,inK k y:=by
 simp only [Value.okWide,hu] at hval
 obtain ⟨cs,rfl,_,_⟩:=hval
 obtain ⟨fuel,hf⟩:=h
 obtain ⟨xs,h1,h2,h3⟩:=ints_of hu hi hT hT' hf
 refine ⟨xs,?_,h2,h3⟩
 show Value.agg cs = .agg (cellsOf [Seg.ints k xs n]).toArray
 congr 1
 apply Array.toList_inj.1
 simpa [cellsOf,Seg.cells,Value.cells] using h1
def memOf (W:World):Mem:=fun p=>cellM W p
theorem Frz.all (W:World):Frz (memOf W) W:=fun _ _ h=>h
def Opens {α:Type}(P:Program)(t:TypeId)(ty:Ty α)(G:α→Prop):Prop :=
 ∀ (H:Type) (enc:TypeId×Value→H) (W:World) (base:Nat) (sp:Nat→Bool) (hd:Bool) (fuel:Nat) (cs:List Value) (x:DataW H×List MemPlace),
  DataW.trod enc P W base sp hd fuel t cs=some x→∃ (y:α) (c:ty.Ch),cs=cellsOf (ty.segs y c)∧okS (memOf W) (ty.segs y c)∧G y
theorem opens_int {t:TypeId}{k:IntKind}(hu:P.underlying t=some (.int k)):Opens P t (Ty.int k) (inK k):=fun H enc W base sp hd fuel cs x h=>by
 obtain ⟨y,e1,_,e2⟩:=DataW.trod_int hu h
 exact ⟨y,(),by simpa [Ty.int,cellsOf,Seg.cells] using e1,⟨rfl,tv⟩,e2⟩
theorem opens_arr {t e:TypeId}{k:IntKind}{n:Nat}(hu:P.underlying t=some (.array n e))(hi:P.underlying e=some (.int k))(hT:tyI P e=some (false,1))(hT':tyI P t=some (true,n)) :
  Opens P t (Ty.arr k n) (fun xs=>xs.length=n∧∀ y∈xs,inK k y):=fun H enc W base sp hd fuel cs x h=>by
 obtain ⟨xs,h1,h2,h3⟩:=ints_of hu hi hT hT' h
 exact ⟨xs,(),by simpa [Ty.arr,cellsOf,Seg.cells] using h1,⟨h2,tv⟩,h2,h3⟩
theorem list_pick {α:Type}{Ch:Type}(n:Nat)(Q:Nat→α→Prop):(∀ i,i<n→∃ y,Q i y)→∃ ys:List α,ys.length=n∧∀ i (h:i<ys.length),Q i ys[i]:=by
 induction n with
 | zero=>intro _; exact ⟨[],rfl,fun i h=>absurd h (by simp)⟩
 | succ n ih =>
  intro h
  obtain ⟨ys,h1,h2⟩:=ih (fun i hi=>h i (by omega))
  obtain ⟨y,hy⟩:=h n (by omega)
  refine ⟨ys++[y],by simp [h1],fun i hi=>?_⟩
  by_cases hin:i<ys.length
  ·rw [List.getElem_append_left hin]; exact h2 i hin
  ·have:i=n:=by simp at hi; omega
   subst this
   rw [List.getElem_append_right (by omega)]
   simpa [h1] using hy
theorem opens_slice {α:Type}{t e:TypeId}{ty:Ty α}{G:α→Prop}{b:Bool}(hu:P.underlying t=some (.slice e))(hT:tyI P e=some (b,ty.size))(he:Opens P e ty G) :
  Opens P t (Ty.slice ty) (fun xs=>(∀ y∈xs,G y)∧xs.length≤maxLen):=fun H enc W base sp hd fuel cs x h=>by
 have hc:P.cellsOf e=ty.size:=by
  obtain ⟨dd,i,hd1,hinf,_,hz⟩:=tyI_some hT
  simp [Program.cellsOf,hinf,hz]
 rcases Deep.open_slice hu h with ⟨rfl,_⟩ | ⟨a,len,cap,m,n,D,Pl,rfl,hb,hl,hm,hmm,hx,hi⟩
 ·exact ⟨[],(none,0),rfl,⟨⟨Nat.le_refl _,Nat.zero_le _,RdS.nil _ _ _,RdS.mono _ _ _⟩,tv⟩,fun y hy=>(by cases hy),Nat.zero_le _⟩
 ·have hlm:len≤m:=by rw [hmm]; split <;> omega
  have key:∀ i,i<len→∃ y:α,G y∧∃ c:ty.Ch,okS (memOf W) (ty.segs y c)∧∀ j v,(cellsOf (ty.segs y c))[j]?=some v→memOf W (a.add (i*ty.size+j))=some v:=by
   intro i hi'
   obtain ⟨cs',h1,h2⟩:=hi i (by omega)
   obtain ⟨y,c,rfl,hok,hG⟩:=he H enc W base sp hd n cs' _ h2
   obtain ⟨_,hlen,hcell⟩:=World.cells?_some h1
   refine ⟨y,hG,c,hok,fun j v hv=>?_⟩
   have hj:j<(cellsOf (ty.segs y c)).length:=(List.getElem?_eq_some_iff.1 hv).1
   have:=hcell j (by omega)
   rw [hc] at this
   rw [← add_add_]
   exact cellM_of (this.trans hv)
  obtain ⟨ys,h1,h2⟩:=list_pick (Ch:=Unit) len _ key
  refine ⟨ys,(some a,cap),by simp [Ty.slice,cellsOf,Seg.cells,h1],⟨⟨by omega,hm,fun i hi'=>?_,RdS.mono _ _ _⟩,tv⟩,fun y hy=>?_,by omega⟩
  ·obtain ⟨_,c,h3,h4⟩:=h2 i hi'
   exact ⟨a,c,rfl,h3,h4⟩
  ·obtain ⟨i,hi',rfl⟩:=List.getElem_of_mem hy
   exact (h2 i hi').1
def OpensF {α:Type}(P:Program)(fs:List (Nat×TypeId))(off:Nat)(ty:Ty α)(G:α→Prop):Prop :=
 ∀ (H:Type) (enc:TypeId×Value→H) (W:World) (base:Nat) (sp:Nat→Bool) (hd:Bool) (fuel:Nat) (cs:List Value),cs.length=off+ty.size →
  (∀ f∈fs,∃ x,DataW.trod enc P W base sp hd fuel f.2 ((cs.drop f.1).take (P.cellsOf f.2))=some x)→∃ (y:α) (c:ty.Ch),cs.drop off=cellsOf (ty.segs y c)∧okS (memOf W) (ty.segs y c)∧G y
theorem opensF_one {α:Type}{t:TypeId}{off:Nat}{ty:Ty α}{G:α→Prop}{b:Bool}(hT:tyI P t=some (b,ty.size))(h:Opens P t ty G):OpensF P [(off,t)] off ty G:=fun H enc W base sp hd fuel cs hl hf=>by
 have hc:P.cellsOf t=ty.size:=by
  obtain ⟨dd,i,hd1,hinf,_,hz⟩:=tyI_some hT
  simp [Program.cellsOf,hinf,hz]
 obtain ⟨x,hx⟩:=hf _ List.mem_cons_self
 rw [hc,List.take_of_length_le (by simp; omega)] at hx
 exact h H enc W base sp hd fuel _ x hx
theorem opensF_cons {α β:Type}{t:TypeId}{fs:List (Nat×TypeId)}{off off':Nat}{ty:Ty α}{tr:Ty β}{G:α→Prop}{G':β→Prop}{b:Bool}(hT:tyI P t=some (b,ty.size))(h:Opens P t ty G)(ho:off+ty.size=off')(k:OpensF P fs off' tr G') :
  OpensF P ((off,t)::fs) off (Ty.prod ty tr) (fun y=>G y.1∧G' y.2):=fun H enc W base sp hd fuel cs hl hf=>by
 have hc:P.cellsOf t=ty.size:=by
  obtain ⟨dd,i,hd1,hinf,_,hz⟩:=tyI_some hT
  simp [Program.cellsOf,hinf,hz]
 have hl':cs.length=off+(ty.size+tr.size):=hl
 obtain ⟨x,hx⟩:=hf _ List.mem_cons_self
 rw [hc] at hx
 obtain ⟨y,c,e1,e2,e3⟩:=h H enc W base sp hd fuel _ x hx
 obtain ⟨z,d,f1,f2,f3⟩:=k H enc W base sp hd fuel cs (by omega) (fun f hf'=>hf f (List.mem_cons_of_mem _ hf'))
 refine ⟨(y,z),(c,d),?_,?_,e3,f3⟩
 ·show cs.drop off=cellsOf (ty.segs y c++tr.segs z d)
  rw [cellsOf_append, ← e1, ← f1, ← ho, ← List.drop_drop]
  exact (List.take_append_drop _ _).symm
 ·show okS (memOf W) (ty.segs y c++tr.segs z d)
  exact okS_append.2 ⟨e2,f2⟩
theorem opens_struct {α:Type}{t:TypeId}{fs:Array Field}{ty:Ty α}{G:α→Prop}(hu:P.underlying t=some (.struct fs))(hT:tyI P t=some (true,ty.size)){l:List (Nat×TypeId)}(hl:fs.toList.map (fun f=>(f.offset,f.type))=l)(h:OpensF P l 0 ty G):Opens P t ty G:=fun H enc W base sp hd fuel cs x hx=>by
 have hc:P.cellsOf t=ty.size:=by
  obtain ⟨dd,i,hd1,hinf,_,hz⟩:=tyI_some hT
  simp [Program.cellsOf,hinf,hz]
 obtain ⟨xs,n,_,_,h1,h2,h3⟩:=DataW.trod_struct hu hx
 have:=h H enc W base sp hd n cs (by omega) (fun f hf=>by
  rw [← hl] at hf
  obtain ⟨g,hg,rfl⟩:=List.mem_map.1 hf
  obtain ⟨i,hi,rfl⟩:=List.getElem_of_mem hg
  have hi':i<fs.size:=by simpa using hi
  have h4:=h3 i fs[i] (by simp [hi'])
  have h5:xs[i]?=some (xs[i]'(by omega)):=List.getElem?_eq_getElem (by omega)
  exact ⟨_,by simpa using h4.trans h5⟩)
 simpa using this
theorem o_sl {α:Type}{r:Reach}{b0 base:Nat}{sp:Nat→Bool}{hd:Bool}{W:World}{t e:TypeId}{ty:Ty α}{G:List α→Prop}{v:Value}{d:DataW H}{ps:List MemPlace}(hu:P.underlying t=some (.slice e))(ho:Opens P t (Ty.slice ty) G)
  (hval:Value.okWide P W r b0 t v) (h:DataW.Trod enc P W base sp hd t v d ps):∃ (xs:List α) (c:Option Addr×Nat),v=(D.sl c.1 xs.length c.2 (RdS ty c.1 xs)).val∧(D.sl c.1 xs.length c.2 (RdS ty c.1 xs)).ok (memOf W)∧G xs:=by
 obtain ⟨a,len,cap,rfl⟩:=okWide_slice hu hval
 obtain ⟨fuel,hf⟩:=h
 obtain ⟨y,c,h1,h2,h3⟩:=ho H enc W base sp hd fuel _ _ hf
 refine ⟨y,c,?_,h2.1,h3⟩
 have:[Value.slice a len cap]=[Value.slice c.1 y.length c.2]:=by simpa [Value.cells,Ty.slice,cellsOf,Seg.cells] using h1
 exact (List.cons.inj this).1
theorem o_agg {α:Type}{r:Reach}{b0 base:Nat}{sp:Nat→Bool}{hd:Bool}{W:World}{t:TypeId}{fs:Array Field}{ty:Ty α}{G:α→Prop}{v:Value}{d:DataW H}{ps:List MemPlace}(hu:P.underlying t=some (.struct fs))(ho:Opens P t ty G)
  (hval:Value.okWide P W r b0 t v) (h:DataW.Trod enc P W base sp hd t v d ps):∃ (x:α) (c:ty.Ch),v=(D.agg (ty.segs x c)).val∧(D.agg (ty.segs x c)).ok (memOf W)∧G x:=by
 obtain ⟨cs,rfl,_⟩:=okWide_struct hu hval
 obtain ⟨fuel,hf⟩:=h
 obtain ⟨y,c,h1,h2,h3⟩:=ho H enc W base sp hd fuel _ _ hf
 refine ⟨y,c,?_,h2,h3⟩
 show Value.agg cs = .agg (cellsOf (ty.segs y c)).toArray
 congr 1
 apply Array.toList_inj.1
 simpa [Value.cells] using h1
end
end GW
