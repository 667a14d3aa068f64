import Derived.Test.YtdajnflppnlhiaaGWRng
set_option linter.unusedVariables false
set_option linter.unusedSimpArgs false
set_option linter.unusedSectionVars false
namespace GW
open Go Go.RowKit Go.MapKept
section
variable {α β:Type} [DecidableEq α]
theorem aget_mem:∀ {kvs:List (α×β)} {x:α},aget kvs x=none→x∉kvs.map Prod.fst
 | [],x,_=>by simp
 | (k,v)::r,x,h=>by
  unfold aget at h
  by_cases c:x=k
  ·rw [iP c] at h; cases h
  ·rw [iN c] at h
   have:=aget_mem h
   simp only [List.map_cons,List.mem_cons,not_or]
   exact ⟨c,this⟩
theorem lookE_low (x:α):∀ (es:List MapEntry) (ks:List α) (i a:Nat) (u:Value),lookE x es ks i=some (a,u)→i≤a
 | [],ks,i,a,u,h=>by cases ks <;> simp [lookE] at h
 | e::es,[],i,a,u,h=>by simp [lookE] at h
 | e::es,k::ks,i,a,u,h=>by
  unfold lookE at h
  split at h
  ·simp only [Option.some.injEq,Prod.mk.injEq] at h; omega
  ·have:=lookE_low x es ks _ _ _ h; omega
theorem Ent.del {m:Mem}{bk bv:Bool}{kt:Ty α}{vt:Ty β}{x:α}{u:Value}:∀ {es:List MapEntry} {xs:List (α×β)} (i j:Nat),Ent m bk kt bv vt es xs→(xs.map Prod.fst).Nodup→lookE x es (xs.map Prod.fst) i=some (i+j,u)→Ent m bk kt bv vt (es.eraseIdx j) (adel xs x)
 | [],[],i,j,h,hn,hl=>by simp [lookE] at hl
 | [],_::_,i,j,h,hn,hl=>absurd h id
 | _::_,[],i,j,h,hn,hl=>absurd h id
 | e::es,(k,v)::xs,i,j,h,hn,hl=>by
  simp only [List.map_cons,List.nodup_cons] at hn
  simp only [List.map_cons,lookE] at hl
  by_cases c:x=k
  ·simp only [c,if_true,Option.some.injEq,Prod.mk.injEq] at hl
   obtain rfl:j=0:=by omega
   subst c
   have h1:adel ((x,v)::xs) x=adel xs x:=by simp [adel]
   rw [h1,adel_none hn.1]
   exact h.2.2
  ·simp only [c,if_false] at hl
   have:=lookE_low x _ _ _ _ _ hl
   obtain ⟨j,rfl⟩:∃ r,j=r+1:=⟨j - 1,by omega⟩
   have h1:adel ((k,v)::xs) x=(k,v)::adel xs x:=by simp [adel,Ne.symm c]
   rw [h1]
   exact ⟨h.1,h.2.1,Ent.del (i+1) j h.2.2 hn.2 (by rw [hl]; congr 2; omega)⟩
theorem adel_nodup {kvs:List (α×β)}(h:(kvs.map Prod.fst).Nodup)(x:α):((adel kvs x).map Prod.fst).Nodup :=
 List.Sublist.nodup (List.Sublist.map _ List.filter_sublist) h
end
def Res.mapx {α β:Type}(bk:Bool)(kt:Ty α)(bv:Bool)(vt:Ty β)(g:Nat)(es:Array MapEntry)(ck:Nat)(kvs:List (α×β)):Res where
 blk:=fun k=>some g=some k
 holds m w:=w.heap[g]?=some (.map es ck)∧MapOk m bk kt bv vt es ck kvs
 frame m w w' h hh:=⟨(h g rfl).trans hh.1,hh.2⟩
 mono m m' w h hh:=⟨hh.1,hh.2.mono h⟩
 lt m w hh k hk:=by
  obtain rfl:g=k:=sI hk
  exact (Array.getElem?_eq_some_iff.1 hh.1).1
def Res.iterx {α β:Type}(bk:Bool)(kt:Ty α)(bv:Bool)(vt:Ty β)(it g:Nat)(es:Array MapEntry)(ck:Nat)(kvs R:List (α×β))(cur:Option (α×β)):Res where
 blk:=fun k=>some it=some k
 holds m w:=∃ seen,w.heap[it]?=some (.mapIter (some g) ck seen ck)∧R=remE seen es.toList kvs∧∀ p,cur=some p→∃ e∈es.toList,seen.back?=some e.born∧Vl m bk kt p.1 e.key∧Vl m bv vt p.2 e.val
 frame m w w' h hh:=by
  obtain ⟨seen,h1,h2⟩:=hh
  exact ⟨seen,(h it rfl).trans h1,h2⟩
 mono m m' w h hh:=by
  obtain ⟨seen,h1,h4,h5⟩:=hh
  refine ⟨seen,h1,h4,fun p hp=>?_⟩
  obtain ⟨e,e1,e2,e3,e4⟩:=h5 p hp
  exact ⟨e,e1,e2,e3.mono h,e4.mono h⟩
 lt m w hh k hk:=by
  obtain rfl:it=k:=sI hk
  obtain ⟨seen,h1,h2⟩:=hh
  exact (Array.getElem?_eq_some_iff.1 h1).1
section
variable {P:Program} {n:Nat} {m:Mem} {w0:Base} {l:List (Nat×D)} {H:List Res} {a:Act} {w:World}
variable {ops:Array Oper} {Q:Exit→Act→World→Prop} {rest:List Oper} {ty:TypeId} {ps:String} {af:Array Edge} {t:Nat}
variable {α β:Type} [DecidableEq α] {bk bv:Bool} {kt:Ty α} {vt:Ty β}
theorem run_delete {mt kt' et k2:TypeId}{g:Nat}{kvs:List (α×β)}{x:α}{u:Value}{ty:TypeId}(hu:P.underlying mt=some (.map kt' et))(hK:KeyT P kt' bk kt)(hr:(Res.map bk kt bv vt g kvs).holds m w)(hk:Vl m bk kt x u) :
  ∃ o,(Builtin.delete_ #[mt,k2] ty #[.map (some g),u]).run P w = .ok (.tuple #[]) { w with heap:=w.heap.setIfInBounds g o }∧(Res.map bk kt bv vt g (adel kvs x)).holds m { w with heap:=w.heap.setIfInBounds g o }:=by
 obtain ⟨es,clock,h1,h2,h3,h4,h5⟩:=hr
 have hf:=hK.find w m m x u es.toList _ hk h2.keys
 have hg:g<w.heap.size:=(Array.getElem?_eq_some_iff.1 h1).1
 rcases Ent.look x 0 h2 with ⟨l1,l2⟩ | ⟨j,e,y',l1,l2,l3,l4,l6⟩
 ·rw [l1] at hf
  refine ⟨.map es clock,?_,es,clock,by simp [hg],?_⟩
  ·simp [Builtin.delete_,run_underlying hu,run_getObj_map h1,hK.check _ w m x u hk,hf,run_setObj_map _ h1,Result.andThen]
  ·rw [adel_none (aget_mem l2)]; exact ⟨h2,h3,h4,h5⟩
 ·rw [l1] at hf
  have hsub:(es.eraseIdxIfInBounds j).toList=es.toList.eraseIdx j:=by
   have hj:j<es.size:=by
    have:=(List.getElem?_eq_some_iff.1 l3).1
    simpa using this
   unfold Array.eraseIdxIfInBounds
   rw [dif_pos hj,Array.toList_eraseIdx]
  refine ⟨.map (es.eraseIdxIfInBounds j) clock,?_,es.eraseIdxIfInBounds j,clock,by simp [hg],?_,adel_nodup h3 x,?_,?_⟩
  ·have:0+j=j:=by omega
   simp [Builtin.delete_,run_underlying hu,run_getObj_map h1,hK.check _ w m x u hk,hf,run_setObj_map _ h1,Result.andThen,this]
  ·rw [hsub]; exact h2.del 0 j h3 l1
  ·rw [hsub]; exact List.Sublist.nodup (List.Sublist.map _ (List.eraseIdx_sublist _ _)) h4
  ·intro e' he'
   rw [hsub] at he'
   exact h5 e' ((List.eraseIdx_sublist _ _).subset he')
theorem s_delOn (S:St n m w0 l H a w){mt kt' et k2:TypeId}{x i:Operand}{di:D}{g:Nat}{kvs:List (α×β)}{k:α}{H':List Res}(hx:evo l x=some (.v (.map (some g))))(hf:Foc H (Res.map bk kt bv vt g kvs) (Res.map bk kt bv vt g (adel kvs k)) H')(hi:evo l i=some di)(hk:di.ok m→Vl m bk kt k di.val)(hu:P.underlying mt=some (.map kt' et))(hK:KeyT P kt' bk kt)
  (K:∀ w',St n m w0 l H' a w'→wpList P ops Q rest a w'):wpList P ops Q (⟨none, .call ⟨.builtin .delete, #[x,i], #[mt,k2]⟩,ty,ps,af,none⟩::rest) a w:=by
 obtain ⟨o,h1,h2⟩:=run_delete (P:=P) (k2:=k2) (ty:=ty) hu hK (S.holds _ hf.mem) (hk (evo_ok S hi))
 refine wpList_plain rfl fun K' hK'=>?_
 have hx':a.eval x = .map (some g):=S.evo hx
 have hrun:(execOp a.eval ⟨none, .call ⟨.builtin .delete, #[x,i], #[mt,k2]⟩,ty,ps,af,none⟩).run P w = .ok (.value (.tuple #[])) { w with heap:=w.heap.setIfInBounds g o }:=by
  simp only [execOp,resolve,Sem.run_bind,Sem.run_pure,Result.andThen_ok]
  simp [invoke,builtin,hx',S.evo hi,h1]
 unfold Oper.wp
 rw [hrun]
 exact hK' _ _ (K _ (S.turn hf (grownBy_putMap w g o) h2 (fun k hk=> .inl hk)))
theorem s_rangeO (S:St n m w0 l H a w){mt kt' et:TypeId}{x:Operand}{g:Nat}{kvs:List (α×β)}{HN:Array MapEntry→Nat→List Res}(hx:evo l x=some (.v (.map (some g))))(hf:∀ es ck,Foc H (Res.map bk kt bv vt g kvs) (Res.mapx bk kt bv vt g es ck kvs) (HN es ck))(hu:P.underlying mt=some (.map kt' et))(ht:Nat.blt t n=true)
  (K:∀ it es ck a' w',St n m w0 ((t, .v (.pointer (some ⟨it,0,none⟩)))::l) (Res.iterx bk kt bv vt it g es ck kvs kvs none::HN es ck) a' w'→wpList P ops Q rest a' w'):wpList P ops Q (⟨some t, .range mt x,ty,ps,af,none⟩::rest) a w:=by
 have hx':a.eval x = .map (some g):=S.evo hx
 obtain ⟨es,ck,h1,h2⟩:=S.holds _ (hf #[] 0).mem
 have S1:St n m w0 l (HN es ck) a w:=by
  have:=S.same (hf es ck) ⟨h1,h2⟩ (fun k hk=> .inl hk)
  exact this
 refine s_runw (dv:= .v (.pointer (some ⟨w.heap.size,0,none⟩))) (w':=w.alloc (.mapIter (some g) ck #[] ck)) S ht rfl ?_
  (S1.new (Res.iterx bk kt bv vt w.heap.size g es ck kvs kvs none) (World.grownBy_alloc w _ none) ⟨#[],heap_alloc_new w _,(remE_none _ _ h2.1.len).symm,fun p hp=>by cases hp⟩ (fun k hk=>by obtain rfl:w.heap.size=k:=sI hk; exact Nat.le_refl _)) (K _ es ck · _)
 simp only [execOp,hx',run_range_map w mt kt' et g es ck hu h1,Sem.run_bind,Result.andThen_ok,Sem.run_pure]
 rfl
theorem St.mapback (S:St n m w0 l H a w){g ck:Nat}{es:Array MapEntry}{kvs:List (α×β)}{H':List Res}(hf:Foc H (Res.mapx bk kt bv vt g es ck kvs) (Res.map bk kt bv vt g kvs) H'):St n m w0 l H' a w:=by
 have h:=S.holds _ hf.mem
 have:=S.same hf ⟨es,ck,h.1,h.2⟩ (fun k hk=> .inl hk)
 exact this
theorem s_nextO (S:St n m w0 l H a w){x:Operand}{it g ck:Nat}{es:Array MapEntry}{kvs R:List (α×β)}{cur:Option (α×β)}{HN:List (α×β)→Option (α×β)→List Res}{H0:List Res}(hx:evo l x=some (.v (.pointer (some ⟨it,0,none⟩))))(hf:∀ R' c',Foc H (Res.iterx bk kt bv vt it g es ck kvs R cur) (Res.iterx bk kt bv vt it g es ck kvs R' c') (HN R' c'))(hm:Foc H (Res.mapx bk kt bv vt g es ck kvs) (Res.map bk kt bv vt g kvs) H0)(ht:Nat.blt t n=true)
  (K0:R=[]→∀ a',St n m w0 ((t, .tup [(false,[.one (.bool false)])])::l) H0 a' w→wpList P ops Q rest a' w)
  (K1:∀ p∈R,∀ c d a' w',St n m w0 ((t, .tup [(false,[.one (.bool true)]),(bk,kt.segs p.1 c),(bv,vt.segs p.2 d)])::l) (HN (adel R p.1) (some p)) a' w'→wpList P ops Q rest a' w'):wpList P ops Q (⟨some t, .next x false,ty,ps,af,none⟩::rest) a w:=by
 obtain ⟨seen,h1,h4,h5⟩:=S.holds _ (hf R cur).mem
 obtain ⟨he,h3⟩:=S.holds _ hm.mem
 have hx':a.eval x = .pointer (some ⟨it,0,none⟩):=S.evo hx
 rcases run_nextO (P:=P) (ty:=ty) h1 he h3.2.2.2 with ⟨n1,n2⟩ | ⟨e,e1,e2,w1,a1,a2,a3,a4,e3⟩
 ·refine s_run (dv:= .tup [(false,[.one (.bool false)])]) (S.mapback hm) ht ⟨⟨rfl,tv⟩,tv⟩ ?_ (K0 (h4.trans (Ent.left_nil seen h3.1 n1)))
  simp only [execOp,hx',n2,Sem.run_bind,Result.andThen_ok,Sem.run_pure]
  rfl
 ·obtain ⟨p,p1,⟨c,v1,o1⟩,⟨d,v2,o2⟩,p4⟩:=Ent.pick seen h3.1 h3.2.1 h3.2.2.1 e1 e2
  rw [← h4] at p1 p4
  have hlt:it<w.heap.size:=(Array.getElem?_eq_some_iff.1 h1).1
  refine s_runw (dv:= .tup [(false,[.one (.bool true)]),(bk,kt.segs p.1 c),(bv,vt.segs p.2 d)]) (w':={ w1 with heap:=w1.heap.setIfInBounds it (.mapIter (some g) ck (seen.push e.born) ck) }) S ht ⟨⟨rfl,tv⟩,o1,o2,tv⟩ ?_
   (S.turn (row:=some it) (hf (adel R p.1) (some p)) ⟨a1,a2,a3,by simp [a4],fun k hk hne=>by simp [a4,Array.getElem?_setIfInBounds,show it≠k from fun e=>hne (by rw [e])]⟩ ⟨seen.push e.born,by simp [a4,hlt],p4.symm,fun q hq=>?_⟩ (fun k hk=> .inl hk)) (K1 p p1 c d · _)
  ·simp only [execOp,hx',e3,Sem.run_bind,Result.andThen_ok,Sem.run_pure,v1,v2]
   rfl
  ·obtain rfl:=sI hq
   exact ⟨e,e1,by simp,⟨c,v1,o1⟩,⟨d,v2,o2⟩⟩
theorem s_entryO (S:St n m w0 l H a w){x:Operand}{it g ck:Nat}{es:Array MapEntry}{kvs R:List (α×β)}{p:α×β}{T T':List Res}(hx:evo l x=some (.v (.pointer (some ⟨it,0,none⟩))))(hf:Pull H (Res.iterx bk kt bv vt it g es ck kvs R (some p)) T)(hm:Pull H (Res.mapx bk kt bv vt g es ck kvs) T')(ht:Nat.blt t n=true)
  (K:∀ c d a',St n m w0 ((t, .tup [(bk,kt.segs p.1 c),(bv,vt.segs p.2 d)])::l) H a' w→wpList P ops Q rest a' w):wpList P ops Q (⟨some t, .entry x,ty,ps,af,none⟩::rest) a w:=by
 obtain ⟨seen,h1,h4,h5⟩:=S.holds _ hf.mem.1
 obtain ⟨he,h3⟩:=S.holds _ hm.mem.1
 have hx':a.eval x = .pointer (some ⟨it,0,none⟩):=S.evo hx
 obtain ⟨e,e1,e2,⟨c,v1,o1⟩,⟨d,v2,o2⟩⟩:=h5 p rfl
 refine s_run (dv:= .tup [(bk,kt.segs p.1 c),(bv,vt.segs p.2 d)]) S ht ⟨o1,o2,tv⟩ ?_ (K c d)
 have hfi:es.find? (·.born==e.born)=some e:=by rw [← Array.find?_toList]; exact find_born e es.toList h3.2.2.1 e1
 simp only [execOp,hx',Instr.entry,getObj,Sem.run_bind,Sem.run,h1,he,Result.andThen,e2,bne_self_eq_false,Bool.false_eq_true,if_false,hfi,v1,v2]
 rfl
end
end GW
