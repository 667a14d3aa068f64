import Derived.Test.YtdajnflppnlhiaaGWEqs
import Derived.Maps.Keyed
set_option linter.unusedVariables false
set_option linter.unusedSimpArgs false
set_option linter.unusedSectionVars false
namespace GW
open Go Go.RowKit Go.MapKept
section
variable {α β:Type} [DecidableEq α]
def aget:List (α×β)→α→Option β
 | [],_=>none
 | (k,v)::r,x=>if x=k then some v else aget r x
def aput:List (α×β)→α→β→List (α×β)
 | [],x,y=>[(x,y)]
 | (k,v)::r,x,y=>if x=k then (k,y)::r else (k,v)::aput r x y
def lk (o:Option β)(z:β):β×Bool:=match o with
 | some v=>(v,true)
 | none=>(z,false)
theorem aput_keys (kvs:List (α×β))(x:α)(y:β):(aput kvs x y).map Prod.fst=if x∈kvs.map Prod.fst then kvs.map Prod.fst else kvs.map Prod.fst++[x]:=by
 induction kvs with
 | nil=>rfl
 | cons p r ih =>
  obtain ⟨k,v⟩:=p
  unfold aput
  by_cases h:x=k
  ·rw [iP h,iP (by simp [h])]; rfl
  ·rw [iN h]
   simp only [List.map_cons,ih,List.mem_cons,h,false_or]
   split <;> rfl
theorem aput_nodup {kvs:List (α×β)}(h:(kvs.map Prod.fst).Nodup)(x:α)(y:β):((aput kvs x y).map Prod.fst).Nodup:=by
 rw [aput_keys]
 split
 ·exact h
 ·rename_i hn
  exact List.nodup_append.2 ⟨h,by simp,fun a ha b hb=>by obtain rfl:=List.mem_singleton.1 hb; exact fun e=>hn (e ▸ ha)⟩
end
theorem encE_inj {a b:MapEntry}(h:encE a=encE b):a=b:=by
 unfold encE at h
 simp only [Value.tuple.injEq] at h
 obtain ⟨h1,h2,h3⟩:a.key=b.key∧a.val=b.val∧(a.born:Int)=(b.born:Int):=by simpa using h
 have h4:a.born=b.born:=by omega
 cases a; cases b; simp_all
theorem encM_inj {es es':Array MapEntry}{c c':Nat}(h:encM es c=encM es' c'):es=es'∧c=c':=by
 unfold encM at h
 have h1:es.toList.map encE=es'.toList.map encE∧(c:Int)=(c':Int):=by simpa using h
 refine ⟨?_,Int.ofNat.inj h1.2⟩
 apply Array.toList_inj.1
 exact List.map_inj_right (fun a b=>encE_inj) |>.1 h1.1
def Vl {α:Type}(m:Mem)(b:Bool)(ty:Ty α)(x:α)(v:Value):Prop:=∃ c,v=pv (b,ty.segs x c)∧okS m (ty.segs x c)
theorem Vl.mono {α:Type}{m m':Mem}(h:LeM m m'){b:Bool}{ty:Ty α}{x:α}{v:Value}(k:Vl m b ty x v):Vl m' b ty x v:=by
 obtain ⟨c,h1,h2⟩:=k
 exact ⟨c,h1,okS_mono h h2⟩
def lookE {α:Type} [DecidableEq α] (x:α):List MapEntry→List α→Nat→Option (Nat×Value)
 | e::es,k::ks,i=>if x=k then some (i,e.val) else lookE x es ks (i+1)
 | _,_,_=>none
def KeysE {α:Type}(m:Mem)(b:Bool)(ty:Ty α):List MapEntry→List α→Prop
 | [],[]=>True
 | e::es,k::ks=>Vl m b ty k e.key∧KeysE m b ty es ks
 | _,_=>False
structure KeyT {α:Type} [DecidableEq α] (P:Program)(kt:TypeId)(b:Bool)(ty:Ty α):Prop where
 check:∀ (em:Bool) (w:World) (m:Mem) (x:α) (v:Value),Vl m b ty x v→(Instr.checkKey em 10000 kt v).run P w = .ok () w
 stays:∀ (w:World) (m m':Mem) (x:α) (v v':Value),Vl m b ty x v→Vl m' b ty x v'→(Instr.keyThatStays v v').run P w = .ok v' w
 find:∀ (w:World) (m m':Mem) (x:α) (v:Value) (es:List MapEntry) (ks:List α),Vl m b ty x v→KeysE m' b ty es ks→(Instr.findKey kt v es).run P w = .ok (lookE x es ks 0) w
theorem sameBits_nums (k:IntKind)(xs:List Int)(d:Nat):Instr.sameBits (d+2) (.agg (nums k xs).toArray) (.agg (nums k xs).toArray)=true:=by
 simp only [Instr.sameBits,beq_self_eq_true,Bool.true_and,List.all_eq_true]
 intro p hp
 obtain ⟨a,b⟩:=p
 have hz:∀ (l:List Value) (q:Value×Value),q∈l.zip l→q.1=q.2∧q.1∈l:=fun l=>by
  induction l with
  | nil=>intro q hq; cases hq
  | cons y l ih =>
   intro q hq
   rcases List.mem_cons.1 hq with rfl | hq
   ·exact ⟨rfl,List.mem_cons_self⟩
   ·exact ⟨(ih q hq).1,List.mem_cons_of_mem _ (ih q hq).2⟩
 obtain ⟨h1,h2⟩:=hz _ _ hp
 simp only at h1 h2
 subst h1
 simp only [nums,List.mem_map] at h2
 obtain ⟨x, -,rfl⟩:=h2
 simp [Instr.sameBits]
theorem run_findAsking {α:Type} [DecidableEq α] {P:Program}{kt:TypeId}{b:Bool}{ty:Ty α}{D':Nat}(hE:EqTy P kt b ty D')(hD:Nat.ble D' 10000=true)(w:World)(m m':Mem)(x:α)(v:Value)(hv:Vl m b ty x v):∀ (es:List MapEntry) (ks:List α) (i:Nat),KeysE m' b ty es ks →
  (Instr.findAsking kt v es i).run P w = .ok (lookE x es ks i) w
 | [],[],i,h=>rfl
 | [],k::ks,i,h=>absurd h id
 | e::es,[],i,h=>absurd h id
 | e::es,k::ks,i,h=>by
  obtain ⟨c,rfl,ho⟩:=hv
  obtain ⟨⟨c',e1,ho'⟩,h2⟩:=h
  unfold Instr.findAsking
  have:=hE.2 10000 w m m' x k c c' (Nat.le_of_ble_eq_true hD) ho ho'
  simp only [Sem.run_bind,Op.equal,Op.maxDepth,e1,this,Result.andThen_ok,lookE]
  by_cases hk:x=k
  ·simp [hk,Sem.run_pure]
  ·simp only [hk,decide_false,Bool.false_eq_true,if_false]
   exact run_findAsking hE hD w m m' x _ ⟨c,rfl,ho⟩ es ks (i+1) h2
theorem run_checkKey_ints {P:Program}{e:TypeId}{ik:IntKind}(he:P.underlying e=some (.int ik))(em:Bool)(d:Nat)(w:World)(v:Value):(Instr.checkKey em (d+1) e v).run P w = .ok () w:=by
 unfold Instr.checkKey
 simp only [Sem.run_bind,run_underlying he,Result.andThen_ok]
 cases v <;> rfl
theorem keyT_arr {P:Program}{t e:TypeId}{k:IntKind}{n:Nat}(hu:P.underlying t=some (.array n e))(hi:P.underlying e=some (.int k))(hT:tyI P e=some (false,1))(hT':tyI P t=some (true,n)):KeyT P t true (Ty.arr k n) where
  check em w m x v hv:=by
    obtain ⟨c,rfl,ho⟩:=hv
    have hlen:x.length=n:=ho.1
    show (Instr.checkKey em (9999+1) t (.agg _)).run P w=_
    rw [Instr.checkKey]
    obtain ⟨dd,i,hdd,hinf,hb,hz⟩:=tyI_some hT
    simp only [Sem.run_bind,run_underlying hu,Result.andThen_ok]
    simp only [Std.Legacy.Range.forIn_eq_forIn_range',Std.Legacy.Range.size,Nat.sub_zero,Nat.add_one_sub_one,Nat.div_one]
    have key:∀ (is:List Nat),(∀ j∈is,j<n)→((forIn is PUnit.unit fun j (_:PUnit)=>do
        let __do_lift ← Go.sizeOf e
        let __do_lift ← part e (cellsOf ((Ty.arr k n).segs x c)).toArray (j*__do_lift)
        Instr.checkKey em 9999 e __do_lift
        pure (ForInStep.yield PUnit.unit)):Sem PUnit).run P w = .ok PUnit.unit w:=by
      intro is
      induction is with
      | nil=>intro _; rfl
      | cons j is ih =>
        intro hj
        have hjn:=hj j (by simp)
        have hsz:(Go.sizeOf e).run P w = .ok 1 w:=by simp only [run_sizeI hT]
        have hpart:(part e (cellsOf ((Ty.arr k n).segs x c)).toArray (j*1)).run P w = .ok (.int k (x.getD j 0)) w:=by
          have hc:(cellsOf ((Ty.arr k n).segs x c)).toArray[j*1]?=some (.int k (x.getD j 0)):=by
            simp [Ty.arr,cellsOf,Seg.cells,nums,List.getElem?_eq_getElem (show j<x.length by omega)]
          simp only [part,Sem.run_bind,run_isAgg hT,Result.andThen_ok,Bool.false_eq_true,if_false,hc,Sem.run_pure]
        simp only [List.forIn_cons,Sem.run_bind,hsz,Result.andThen_ok,hpart,run_checkKey_ints hi em 9998 w,Sem.run_pure]
        exact ih (fun j hj'=>hj j (by simp [hj']))
    have:=key (List.range' 0 n) (fun j hj=>by have:=List.mem_range'_1.1 hj; omega)
    simp at this ⊢
    rw [this]; rfl
  stays w m m' x v v' hv hv':=by
    obtain ⟨c,rfl,ho⟩:=hv
    obtain ⟨c',rfl,ho'⟩:=hv'
    have:Instr.sameBits 10000 (pv (true,(Ty.arr k n).segs x c)) (pv (true,(Ty.arr k n).segs x c'))=true:=by
      have:=sameBits_nums k x 9998
      simpa [pv,Ty.arr,cellsOf,Seg.cells] using this
    unfold Instr.keyThatStays
    rw [iP this]; rfl
  find w m m' x v es ks hv hes:=by
    unfold Instr.findKey
    simp only [Sem.run_bind,run_underlying hu,Result.andThen_ok]
    cases es with
    | nil =>
      cases ks with
      | nil=>rfl
      | cons=>exact absurd hes id
    | cons e' es =>
      cases ks with
      | nil=>exact absurd hes id
      | cons k' ks =>
        have:Instr.findNow (.array n e) v (e'::es) 0=none:=by
          unfold Instr.findNow
          have:Instr.sameNow (.array n e) v e'.key=none:=by unfold Instr.sameNow; split <;> simp_all
          rw [this]
        rw [this]
        exact run_findAsking (eqTy_arr hu hi hT hT') (by decide) w m m' x v hv _ _ 0 hes
def Ent {α β:Type}(m:Mem)(bk:Bool)(kt:Ty α)(bv:Bool)(vt:Ty β):List MapEntry→List (α×β)→Prop
 | [],[]=>True
 | e::es,p::xs=>Vl m bk kt p.1 e.key∧Vl m bv vt p.2 e.val∧Ent m bk kt bv vt es xs
 | _,_=>False
section
variable {α β:Type} {m m':Mem} {bk bv:Bool} {kt:Ty α} {vt:Ty β}
theorem Ent.mono (h:LeM m m'):∀ {es:List MapEntry} {xs:List (α×β)},Ent m bk kt bv vt es xs→Ent m' bk kt bv vt es xs
 | [],[],k=>trivial
 | [],_::_,k=>absurd k id
 | _::_,[],k=>absurd k id
 | e::es,p::xs,k=>⟨k.1.mono h,k.2.1.mono h,Ent.mono h k.2.2⟩
theorem Ent.keys:∀ {es:List MapEntry} {xs:List (α×β)},Ent m bk kt bv vt es xs→KeysE m bk kt es (xs.map Prod.fst)
 | [],[],k=>trivial
 | [],_::_,k=>absurd k id
 | _::_,[],k=>absurd k id
 | e::es,p::xs,k=>⟨k.1,Ent.keys k.2.2⟩
theorem Ent.look [DecidableEq α] (x:α):∀ {es:List MapEntry} {xs:List (α×β)} (i:Nat),Ent m bk kt bv vt es xs →
  (lookE x es (xs.map Prod.fst) i=none∧aget xs x=none)∨∃ j e v,lookE x es (xs.map Prod.fst) i=some (i+j,e.val)∧aget xs x=some v∧es[j]?=some e∧Vl m bv vt v e.val∧Vl m bk kt x e.key
 | [],[],i,k=> .inl ⟨rfl,rfl⟩
 | [],_::_,i,k=>absurd k id
 | _::_,[],i,k=>absurd k id
 | e::es,p::xs,i,k=>by
  obtain ⟨q,v⟩:=p
  simp only [List.map_cons,lookE,aget]
  by_cases h:x=q
  ·simp only [h,if_true]
   exact .inr ⟨0,e,v,rfl,rfl,rfl,k.2.1,k.1⟩
  ·simp only [h,if_false]
   rcases Ent.look x (i+1) k.2.2 with h1 | ⟨j,e',v',h1,h2,h3,h4,h5⟩
   ·exact .inl h1
   ·exact .inr ⟨j+1,e',v',by rw [h1]; congr 2; omega,h2,by simpa using h3,h4,h5⟩
theorem Ent.push {es:List MapEntry}{xs:List (α×β)}{e:MapEntry}{x:α}{y:β} [DecidableEq α] (h:Ent m bk kt bv vt es xs)(hk:Vl m bk kt x e.key)(hv:Vl m bv vt y e.val)(hn:aget xs x=none):Ent m bk kt bv vt (es++[e]) (aput xs x y):=by
 induction xs generalizing es with
 | nil =>
  cases es with
  | nil=>exact ⟨hk,hv,tv⟩
  | cons=>exact absurd h id
 | cons p xs ih =>
  obtain ⟨q,v⟩:=p
  cases es with
  | nil=>exact absurd h id
  | cons e' es =>
   unfold aget at hn
   by_cases c:x=q
   ·rw [iP c] at hn; cases hn
   ·rw [iN c] at hn
    unfold aput
    rw [iN c]
    exact ⟨h.1,h.2.1,ih h.2.2 hn⟩
theorem Ent.modify [DecidableEq α] {es:List MapEntry}{xs:List (α×β)}{x:α}{y:β}{f:MapEntry→MapEntry}(h:Ent m bk kt bv vt es xs)(hk:∀ e,Vl m bk kt x (f e).key)(hv:∀ e,Vl m bv vt y (f e).val)(i j:Nat){u:Value}(hj:lookE x es (xs.map Prod.fst) i=some (i+j,u)):Ent m bk kt bv vt (es.modify j f) (aput xs x y):=by
 induction xs generalizing es i j with
 | nil=>cases es <;> simp [lookE] at hj
 | cons p xs ih =>
  obtain ⟨q,v⟩:=p
  cases es with
  | nil=>exact absurd h id
  | cons e es =>
   simp only [List.map_cons,lookE] at hj
   unfold aput
   by_cases c:x=q
   ·simp only [c,if_true,Option.some.injEq,Prod.mk.injEq] at hj
    obtain rfl:j=0:=by omega
    rw [iP c]
    exact ⟨c ▸ hk e,hv e,h.2.2⟩
   ·simp only [c,if_false] at hj
    rw [iN c]
    have hlow:∀ (es:List MapEntry) (ks:List α) (i a:Nat) (u:Value),lookE x es ks i=some (a,u)→i≤a:=by
     intro es
     induction es with
     | nil=>intro ks i a u h; cases ks <;> simp [lookE] at h
     | cons e es ih =>
      intro ks i a u h
      cases ks with
      | nil=>simp [lookE] at h
      | cons k ks =>
       unfold lookE at h
       split at h
       ·simp only [Option.some.injEq,Prod.mk.injEq] at h; omega
       ·have:=ih _ _ _ _ h; omega
    have:=hlow _ _ _ _ _ hj
    obtain ⟨j,rfl⟩:∃ r,j=r+1:=⟨j - 1,by omega⟩
    exact ⟨h.1,h.2.1,ih h.2.2 (i+1) j (by rw [hj]; congr 2; omega)⟩
end
def MapOk {α β:Type}(m:Mem)(bk:Bool)(kt:Ty α)(bv:Bool)(vt:Ty β)(es:Array MapEntry)(clock:Nat)(kvs:List (α×β)):Prop :=
 Ent m bk kt bv vt es.toList kvs∧(kvs.map Prod.fst).Nodup∧(es.toList.map (·.born)).Nodup∧∀ e∈es.toList,e.born<clock
theorem MapOk.mono {α β:Type}{m m':Mem}{bk bv:Bool}{kt:Ty α}{vt:Ty β}{es:Array MapEntry}{clock:Nat}{kvs:List (α×β)}(h:LeM m m')(k:MapOk m bk kt bv vt es clock kvs):MapOk m' bk kt bv vt es clock kvs:=⟨k.1.mono h,k.2⟩
def Res.map {α β:Type}(bk:Bool)(kt:Ty α)(bv:Bool)(vt:Ty β)(g:Nat)(kvs:List (α×β)):Res where
 blk:=fun k=>some g=some k
 holds m w:=∃ es clock,w.heap[g]?=some (.map es clock)∧MapOk m bk kt bv vt es clock kvs
 frame m w w' h hh:=by
  obtain ⟨es,clock,h1,h2⟩:=hh
  exact ⟨es,clock,(h g rfl).trans h1,h2⟩
 mono m m' w h hh:=by
  obtain ⟨es,clock,h1,h2⟩:=hh
  exact ⟨es,clock,h1,h2.mono h⟩
 lt m w hh k hk:=by
  obtain ⟨es,clock,h1,h2⟩:=hh
  obtain rfl:g=k:=sI hk
  exact (Array.getElem?_eq_some_iff.1 h1).1
def RdM {α β:Type}(bk:Bool)(kt:Ty α)(bv:Bool)(vt:Ty β)(g:Option Nat)(kvs:List (α×β))(m:Mem):Prop :=
 match g with
 | none=>kvs=[]
 | some g=>∃ es clock,m ⟨g,0,some 0⟩=some (encM es clock)∧MapOk m bk kt bv vt es clock kvs
theorem RdM.mono {α β:Type}(bk:Bool)(kt:Ty α)(bv:Bool)(vt:Ty β)(g:Option Nat)(kvs:List (α×β)):Mono (RdM bk kt bv vt g kvs):=fun m m' hm h=>by
 cases g with
 | none=>exact h
 | some g =>
  obtain ⟨es,clock,h1,h2⟩:=h
  exact ⟨es,clock,hm _ _ h1,h2.mono hm⟩
theorem RdM.nil {α β:Type}(bk:Bool)(kt:Ty α)(bv:Bool)(vt:Ty β)(m:Mem):RdM bk kt bv vt none ([]:List (α×β)) m:=rfl
def MapAt {α β:Type}(m:Mem)(w:World)(bk:Bool)(kt:Ty α)(bv:Bool)(vt:Ty β)(g:Option Nat)(kvs:List (α×β)):Prop :=
 match g with
 | none=>kvs=[]
 | some g=>∃ es clock,w.heap[g]?=some (.map es clock)∧MapOk m bk kt bv vt es clock kvs
theorem RdM.at_ {α β:Type}{m:Mem}{w:World}{bk:Bool}{kt:Ty α}{bv:Bool}{vt:Ty β}{g:Option Nat}{kvs:List (α×β)}(hf:Frz m w)(h:RdM bk kt bv vt g kvs m):MapAt m w bk kt bv vt g kvs:=by
 cases g with
 | none=>exact h
 | some g =>
  obtain ⟨es,clock,h1,h2⟩:=h
  have h3:=hf _ _ h1
  unfold cellM at h3
  simp only [Option.isSome_some,if_true] at h3
  split at h3
  ·rename_i es' c' he
   obtain ⟨rfl,rfl⟩:=encM_inj (sI h3)
   exact ⟨_,_,he,h2⟩
  ·cases h3
section
variable {P:Program} {n:Nat} {m:Mem} {w0:Base} {l:List (Nat×D)} {H:List Res} {a:Act} {w:World}
variable {ops:Array Oper} {Q:Exit→Act→World→Prop} {rest:List Oper} {ty:TypeId} {ps:String} {af:Array Edge} {t:Nat}
variable {α β:Type} [DecidableEq α] {bk bv:Bool} {kt:Ty α} {vt:Ty β}
theorem s_makeMap (S:St n m w0 l H a w){tt:TypeId}(bk:Bool)(kt:Ty α)(bv:Bool)(vt:Ty β)(ht:Nat.blt t n=true)
  (K:∀ g a' w',St n m w0 ((t, .v (.map (some g)))::l) (Res.map bk kt bv vt g ([]:List (α×β))::H) a' w'→wpList P ops Q rest a' w'):wpList P ops Q (⟨some t, .makeMap tt none,ty,ps,af,none⟩::rest) a w:=by
 refine s_runw (dv:= .v (.map (some w.heap.size))) (w':=w.alloc (.map #[] 0)) S ht rfl ?_
  (S.new (Res.map bk kt bv vt w.heap.size ([]:List (α×β))) (World.grownBy_alloc w _ none) ⟨#[],0,heap_alloc_new w _,tv,List.nodup_nil,List.nodup_nil,fun e he=>by cases he⟩ (fun k hk=>by obtain rfl:w.heap.size=k:=sI hk; exact Nat.le_refl _)) (K _ · _)
 simp only [execOp]
 simp [Instr.makeMap]
 rfl
theorem run_lookup {mt kt' et:TypeId}{z:β}{c0:vt.Ch}{g:Option Nat}{kvs:List (α×β)}{x:α}{v:Value}(hu:P.underlying mt=some (.map kt' et))(hK:KeyT P kt' bk kt)(hz:zeroI P et=some (pv (bv,vt.segs z c0)))(hzok:okS m (vt.segs z c0))(hm:MapAt m w bk kt bv vt g kvs)(hv:Vl m bk kt x v)(co:Bool) :
  ∃ c,okS m (vt.segs (lk (aget kvs x) z).1 c)∧(Instr.lookup mt (.map g) v co).run P w = .ok (if co then .tuple #[pv (bv,vt.segs (lk (aget kvs x) z).1 c), .bool (lk (aget kvs x) z).2] else pv (bv,vt.segs (lk (aget kvs x) z).1 c)) w:=by
 have hzr:(zeroValue et).run P w = .ok (pv (bv,vt.segs z c0)) w:=run_zeroI hz w
 cases g with
 | none =>
  obtain rfl:kvs=[]:=hm
  refine ⟨c0,hzok,?_⟩
  have hf:=hK.find w m m x v [] [] hv tv
  simp only [lookE] at hf
  simp only [Instr.lookup,Sem.run_bind,run_underlying hu,Result.andThen_ok,Sem.run_pure,hK.check _ w m x v hv,hf,hzr,aget,lk]
 | some g =>
  obtain ⟨es,clock,h1,h2,h3⟩:=hm
  have hf:=hK.find w m m x v es.toList _ hv h2.keys
  rcases Ent.look x 0 h2 with ⟨l1,l2⟩ | ⟨j,e,y,l1,l2,l3,⟨c,l4,l5⟩,l6⟩
  ·refine ⟨c0,by rw [l2]; exact hzok,?_⟩
   rw [l1] at hf
   simp only [Instr.lookup,Sem.run_bind,run_underlying hu,Result.andThen_ok,Sem.run_pure,run_getObj_map h1,hK.check _ w m x v hv,hf,hzr,l2,lk]
  ·refine ⟨c,by rw [l2]; exact l5,?_⟩
   rw [l1] at hf
   simp only [Instr.lookup,Sem.run_bind,run_underlying hu,Result.andThen_ok,Sem.run_pure,run_getObj_map h1,hK.check _ w m x v hv,hf,l2,lk,l4]
theorem lookup2_at (S:St n m w0 l H a w){mt kt' et:TypeId}{x i:Operand}{dm di:D}{z:β}{c0:vt.Ch}{g:Option Nat}{kvs:List (α×β)}{k:α}(hx:evo l x=some dm)(hdm:dm.val = .map g)(hm:dm.ok m→MapAt m w bk kt bv vt g kvs)(hi:evo l i=some di)(hv:di.ok m→Vl m bk kt k di.val)(hu:P.underlying mt=some (.map kt' et))(hK:KeyT P kt' bk kt)(hz:zeroI P et=some (pv (bv,vt.segs z c0)))(hzok:okS m (vt.segs z c0))(ht:Nat.blt t n=true)
  (K:∀ c a',St n m w0 ((t, .tup [(bv,vt.segs (lk (aget kvs k) z).1 c),(false,[.one (.bool (lk (aget kvs k) z).2)])])::l) H a' w→wpList P ops Q rest a' w):wpList P ops Q (⟨some t, .lookup mt x i true,ty,ps,af,none⟩::rest) a w:=by
 obtain ⟨c,h1,h2⟩:=run_lookup (P:=P) hu hK hz hzok (hm (evo_ok S hx)) (hv (evo_ok S hi)) true
 refine s_run (dv:= .tup [(bv,vt.segs (lk (aget kvs k) z).1 c),(false,[.one (.bool (lk (aget kvs k) z).2)])]) S ht ?_ ?_ (K c)
 ·exact ⟨h1,⟨rfl,tv⟩,tv⟩
 ·simp only [execOp,S.evo hx,S.evo hi,hdm,Sem.run_bind,h2,if_true,Result.andThen_ok,Sem.run_pure]
  rfl
theorem s_lookO (S:St n m w0 l H a w){mt kt' et:TypeId}{x i:Operand}{di:D}{z:β}{g:Nat}{kvs:List (α×β)}{k:α}{T:List Res}(hx:evo l x=some (.v (.map (some g))))(hf:Pull H (Res.map bk kt bv vt g kvs) T)(c0:vt.Ch)(hi:evo l i=some di)(hv:di.ok m→Vl m bk kt k di.val)(hu:P.underlying mt=some (.map kt' et))(hK:KeyT P kt' bk kt)(hz:zeroI P et=some (pv (bv,vt.segs z c0)))(hzok:okS m (vt.segs z c0))(ht:Nat.blt t n=true)
  (K:∀ c a',St n m w0 ((t, .tup [(bv,vt.segs (lk (aget kvs k) z).1 c),(false,[.one (.bool (lk (aget kvs k) z).2)])])::l) H a' w→wpList P ops Q rest a' w):wpList P ops Q (⟨some t, .lookup mt x i true,ty,ps,af,none⟩::rest) a w :=
 lookup2_at (g:=some g) S hx rfl (fun _=>S.holds _ hf.mem.1) hi hv hu hK hz hzok ht K
theorem run_update {mt kt' et:TypeId}{g:Nat}{kvs:List (α×β)}{x:α}{y:β}{u v:Value}(hu:P.underlying mt=some (.map kt' et))(hK:KeyT P kt' bk kt)(hr:(Res.map bk kt bv vt g kvs).holds m w)(hk:Vl m bk kt x u)(hv:Vl m bv vt y v) :
  ∃ o,(Instr.mapUpdate mt (.map (some g)) u v).run P w = .ok () { w with heap:=w.heap.setIfInBounds g o }∧(Res.map bk kt bv vt g (aput kvs x y)).holds m { w with heap:=w.heap.setIfInBounds g o }:=by
 obtain ⟨es,clock,h1,h2,h3,h4,h5⟩:=hr
 have hf:=hK.find w m m x u es.toList _ hk h2.keys
 have hg:g<w.heap.size:=(Array.getElem?_eq_some_iff.1 h1).1
 rcases Ent.look x 0 h2 with ⟨l1,l2⟩ | ⟨j,e,y',l1,l2,l3,l4,l6⟩
 ·rw [l1] at hf
  refine ⟨.map (es.push { key:=u,val:=v,born:=clock }) (clock+1),?_,es.push { key:=u,val:=v,born:=clock },clock+1,by simp [hg],?_,aput_nodup h3 x y,?_,?_⟩
  ·simp only [Instr.mapUpdate,Sem.run_bind,run_underlying hu,Result.andThen_ok,run_getObj_map h1,hK.check _ w m x u hk,hf,run_setObj_map _ h1]
  ·rw [Array.toList_push]
   exact h2.push hk hv l2
  ·rw [Array.toList_push,List.map_append]
   refine List.nodup_append.2 ⟨h4,by simp,fun a ha b hb e=>?_⟩
   have hb2:b=clock:=List.mem_singleton.1 hb
   obtain ⟨e',he',rfl⟩:=List.mem_map.1 ha
   have h6:=h5 e' he'
   omega
  ·intro e he
   rw [Array.toList_push] at he
   rcases List.mem_append.1 he with he | he
   ·have:=h5 e he; omega
   ·obtain rfl:=List.mem_singleton.1 he
    exact Nat.lt_succ_self _
 ·rw [l1] at hf
  have l3':es[j]?=some e:=by rw [← Array.getElem?_toList]; exact l3
  have hst:∀ w,(Instr.keyThatStays e.key u).run P w = .ok u w:=fun w=>hK.stays w m m x e.key u l6 hk
  have hb:(es.modify j fun e=>{ e with key:=u,val:=v }).toList.map (·.born)=es.toList.map (·.born):=by
   apply List.ext_getElem?
   intro i
   simp only [List.getElem?_map,Array.getElem?_toList,Array.getElem?_modify]
   split
   ·cases es[i]? <;> rfl
   ·rfl
  refine ⟨.map (es.modify j fun e=>{ e with key:=u,val:=v }) clock,?_,es.modify j fun e=>{ e with key:=u,val:=v },clock,by simp [hg],?_,aput_nodup h3 x y,by rw [hb]; exact h4,?_⟩
  ·have:0+j=j:=by omega
   simp only [Instr.mapUpdate,Sem.run_bind,run_underlying hu,Result.andThen_ok,run_getObj_map h1,hK.check _ w m x u hk,hf,this,l3',Option.map_some,Option.getD_some,hst,run_setObj_map _ h1]
  ·rw [Array.toList_modify]
   exact h2.modify (fun _=>hk) (fun _=>hv) 0 j l1
  ·intro e' he'
   have:e'.born∈(es.modify j fun e=>{ e with key:=u,val:=v }).toList.map (·.born):=List.mem_map.2 ⟨e',he',rfl⟩
   rw [hb] at this
   obtain ⟨e2,h6,h7⟩:=List.mem_map.1 this
   have:=h5 e2 h6
   omega
theorem grownBy_putMap (w:World)(g:Nat)(o:Obj):w.grownBy { w with heap:=w.heap.setIfInBounds g o } (some g) :=
 ⟨rfl,rfl,rfl,by simp,fun k hk hne=>by simp [Array.getElem?_setIfInBounds,show g≠k from fun e=>hne (by rw [e])]⟩
theorem s_mapput (S:St n m w0 l H a w){mt kt' et:TypeId}{x i v:Operand}{di dv:D}{g:Nat}{kvs:List (α×β)}{k:α}{y:β}{H':List Res}(hx:evo l x=some (.v (.map (some g))))(hf:Foc H (Res.map bk kt bv vt g kvs) (Res.map bk kt bv vt g (aput kvs k y)) H')(hi:evo l i=some di)(hk:di.ok m→Vl m bk kt k di.val)(hv:evo l v=some dv)(hvl:dv.ok m→Vl m bv vt y dv.val)(hu:P.underlying mt=some (.map kt' et))(hK:KeyT P kt' bk kt)
  (K:∀ w',St n m w0 l H' a w'→wpList P ops Q rest a w'):wpList P ops Q (⟨none, .mapUpdate mt x i v,ty,ps,af,none⟩::rest) a w:=by
 obtain ⟨o,h1,h2⟩:=run_update (P:=P) hu hK (S.holds _ hf.mem) (hk (evo_ok S hi)) (hvl (evo_ok S hv))
 refine s_runu (w':={ w with heap:=w.heap.setIfInBounds g o }) (m':=m) (H':=H') S ?_ (S.turn hf (grownBy_putMap w g o) h2 (fun k hk=> .inl hk)) (K _)
 have hx':a.eval x = .map (some g):=S.evo hx
 simp only [execOp,hx',S.evo hi,S.evo hv,Sem.run_bind,h1,Result.andThen_ok,Sem.run_pure]
theorem s_loadM (S:St n m w0 l H a w){e:TypeId}{x:Operand}{g o z:Nat}{e':TypeId}{s:List Seg}{v:Value}{R:Mem→Prop}{T:List Res}(hx:evo l x=some (.v (.pointer (some ⟨g,o,none⟩))))(hf:Foc H (Res.cells g e' s) (Res.cells g e' s) T)
  (hT:tyI P e=some (false,z)) (hs:subS s o 1=some [.rf v R]) (ht:Nat.blt t n=true)
  (K:∀ a',St n m w0 ((t, .rf v R)::l) H a' w→wpList P ops Q rest a' w):wpList P ops Q (⟨some t, .load e x,ty,ps,af,none⟩::rest) a w:=by
 have hc:=S.holds _ hf.mem
 have h4:(cellsOf [Seg.rf v R])[0]?=some v:=rfl
 obtain ⟨h5,h6⟩:=subS_at hc.2 hs h4
 have hv:w.cell? ⟨g,o,none⟩=some v:=by rw [cell_of_cells hc]; exact h5
 refine s_run (dv:= .rf v R) S ht h6.1 ?_ K
 simp only [execOp,S.evo hx,D.val]
 simp only [Instr.loadAt,Instr.sureAddr,Sem.run_bind,Sem.run_pure,Result.andThen_ok]
 rw [run_loadVar_one hT hv]
 rfl
end
end GW
