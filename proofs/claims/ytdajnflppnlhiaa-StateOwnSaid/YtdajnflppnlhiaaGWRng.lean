import Derived.Test.YtdajnflppnlhiaaGWMaps
import Derived.Laws.IdiomRangeMap
set_option linter.unusedVariables false
set_option linter.unusedSimpArgs false
set_option linter.unusedSectionVars false
namespace GW
open Go Go.RowKit Go.MapKept
section
variable {α β γ:Type} [DecidableEq α]
def adel (kvs:List (α×β))(x:α):List (α×β):=kvs.filter fun p => !decide (p.1=x)
noncomputable def rngL (R:List (α×β))(a:Option γ)(s:α×β→Option γ):Option γ :=
 open Classical in if R=[] then a else if h:∃ v,∀ e∈R,s e=some v then some h.choose else none
theorem rng_of {R:List (α×β)}{a:Option γ}{s:α×β→Option γ}{r:γ}(h:rngL R a s=some r):(R=[]→a=some r)∧∀ e∈R,s e=some r:=by
 unfold rngL at h
 split at h
 ·rename_i c
  exact ⟨fun _=>h,fun e he=>by rw [c] at he; cases he⟩
 ·rename_i c
  refine ⟨fun c'=>absurd c' c,?_⟩
  split at h
  ·rename_i h2
   have:=h2.choose_spec
   obtain rfl:=sI h
   exact this
  ·cases h
theorem rngL_nil (a:Option γ)(s:α×β→Option γ):rngL [] a s=a:=by unfold rngL; rw [iP rfl]
theorem rngL_cons {R:List (α×β)}(hR:R≠[]){a:Option γ}{s:α×β→Option γ}{r:γ}(h:∀ e∈R,s e=some r):rngL R a s=some r:=by
 unfold rngL
 rw [iN hR,dif_pos ⟨r,h⟩]
 have hx:∃ v,∀ e∈R,s e=some v:=⟨r,h⟩
 have h2:=hx.choose_spec
 obtain ⟨e,he⟩:=List.exists_mem_of_ne_nil R hR
 have:=(h2 e he).symm.trans (h e he)
 exact this
def remE (seen:Array Nat):List MapEntry→List (α×β)→List (α×β)
 | e::es,p::xs=>if seen.contains e.born then remE seen es xs else p::remE seen es xs
 | _,_=>[]
theorem remE_sub (seen:Array Nat):∀ (es:List MapEntry) (xs:List (α×β)),∀ p∈remE seen es xs,p∈xs
 | [],xs,p,h=>by unfold remE at h; cases h
 | e::es,[],p,h=>by unfold remE at h; cases h
 | e::es,q::xs,p,h=>by
  unfold remE at h
  split at h
  ·exact List.mem_cons_of_mem _ (remE_sub seen es xs p h)
  ·rcases List.mem_cons.1 h with rfl | h
   ·exact List.mem_cons_self
   ·exact List.mem_cons_of_mem _ (remE_sub seen es xs p h)
theorem remE_none:∀ (es:List MapEntry) (xs:List (α×β)),es.length=xs.length→remE #[] es xs=xs
 | [],[],_=>rfl
 | [],_::_,h=>by simp at h
 | _::_,[],h=>by simp at h
 | e::es,p::xs,h=>by
  unfold remE
  rw [iN (by simp),remE_none es xs (by simpa using h)]
theorem remE_push (seen:Array Nat)(b:Nat):∀ (es:List MapEntry) (xs:List (α×β)),b∉es.map (·.born)→remE (seen.push b) es xs=remE seen es xs
 | [],xs,h=>by unfold remE; rfl
 | e::es,[],h=>by unfold remE; rfl
 | e::es,p::xs,h=>by
  simp only [List.map_cons,List.mem_cons,not_or] at h
  have hc:(seen.push b).contains e.born=seen.contains e.born:=by
   simp [Array.contains_push,Ne.symm h.1]
  unfold remE
  rw [hc,remE_push seen b es xs h.2]
theorem adel_none {R:List (α×β)}{x:α}(h:x∉R.map Prod.fst):adel R x=R:=by
 unfold adel
 refine List.filter_eq_self.2 fun p hp=>?_
 have:p.1≠x:=fun e=>h (e ▸ List.mem_map.2 ⟨p,hp,rfl⟩)
 simp [this]
theorem Ent.pick {m:Mem}{bk bv:Bool}{kt:Ty α}{vt:Ty β}(seen:Array Nat){e:MapEntry}:∀ {es:List MapEntry} {xs:List (α×β)},Ent m bk kt bv vt es xs→(xs.map Prod.fst).Nodup→(es.map (·.born)).Nodup→e∈es→seen.contains e.born=false →
  ∃ p∈remE seen es xs,Vl m bk kt p.1 e.key∧Vl m bv vt p.2 e.val∧remE (seen.push e.born) es xs=adel (remE seen es xs) p.1
 | [],xs,h,hk,hb,he,hs=>by cases he
 | e'::es,[],h,hk,hb,he,hs=>absurd h id
 | e'::es,p'::xs,h,hk,hb,he,hs=>by
  simp only [List.map_cons,List.nodup_cons] at hk hb
  by_cases hee:e=e'
  ·subst hee
   refine ⟨p',?_,h.1,h.2.1,?_⟩
   ·unfold remE; rw [iN (by rw [hs]; simp)]; exact List.mem_cons_self
   ·have h1:remE (seen.push e.born) (e::es) (p'::xs)=remE seen es xs:=by
     rw [remE,iP (by simp [Array.contains_push]),remE_push seen _ es xs hb.1]
    have h2:remE seen (e::es) (p'::xs)=p'::remE seen es xs:=by rw [remE,iN (by rw [hs]; simp)]
    rw [h1,h2]
    have h3:adel (p'::remE seen es xs) p'.1=adel (remE seen es xs) p'.1:=by simp [adel]
    rw [h3,adel_none fun hm=>?_]
    obtain ⟨q,hq,hqe⟩:=List.mem_map.1 hm
    exact hk.1 (hqe ▸ List.mem_map.2 ⟨q,remE_sub seen es xs q hq,rfl⟩)
  ·have he':e∈es:=by
    rcases List.mem_cons.1 he with h | h
    ·exact absurd h hee
    ·exact h
   obtain ⟨p,hp,v1,v2,hr⟩:=Ent.pick seen h.2.2 hk.2 hb.2 he' hs
   have hne:e'.born≠e.born:=fun c=>hb.1 (c ▸ List.mem_map.2 ⟨e,he',rfl⟩)
   have hc:(seen.push e.born).contains e'.born=seen.contains e'.born:=by simp [Array.contains_push,hne]
   by_cases c:seen.contains e'.born=true
   ·refine ⟨p,?_,v1,v2,?_⟩
    ·rw [remE,iP c]; exact hp
    ·rw [remE,iP (hc.trans c),remE,iP c]; exact hr
   ·refine ⟨p,?_,v1,v2,?_⟩
    ·rw [remE,iN c]; exact List.mem_cons_of_mem _ hp
    ·rw [remE,iN (by rw [hc]; exact c),remE,iN c,hr]
     have:p'.1≠p.1:=fun e=>hk.1 (e ▸ List.mem_map.2 ⟨p,remE_sub seen es xs p hp,rfl⟩)
     simp [adel,this]
theorem Ent.len {m:Mem}{bk bv:Bool}{kt:Ty α}{vt:Ty β}:∀ {es:List MapEntry} {xs:List (α×β)},Ent m bk kt bv vt es xs→es.length=xs.length
 | [],[],_=>rfl
 | [],_::_,h=>absurd h id
 | _::_,[],h=>absurd h id
 | e::es,p::xs,h=>by rw [List.length_cons,List.length_cons,Ent.len h.2.2]
theorem Ent.left_nil {m:Mem}{bk bv:Bool}{kt:Ty α}{vt:Ty β}(seen:Array Nat):∀ {es:List MapEntry} {xs:List (α×β)},Ent m bk kt bv vt es xs→es.filter (fun e => !seen.contains e.born)=[]→remE seen es xs=[]
 | [],[],_,_=>rfl
 | [],_::_,h,_=>absurd h id
 | _::_,[],h,_=>absurd h id
 | e::es,p::xs,h,hl=>by
  rw [List.filter_cons] at hl
  split at hl
  ·cases hl
  ·rename_i c
   rw [remE,iP (by simpa using c)]
   exact Ent.left_nil seen h.2.2 hl
end
section
variable {P:Program} {n:Nat} {m:Mem} {w0:Base} {l:List (Nat×D)} {H:List Res} {a:Act} {w:World}
variable {ops:Array Oper} {Q:Exit→Act→World→Prop} {rest:List Oper} {ty:TypeId} {ps:String} {af:Array Edge} {t:Nat}
variable {α β:Type} [DecidableEq α] {bk bv:Bool} {kt:Ty α} {vt:Ty β}
theorem run_nextO {it g:Nat}{es:Array MapEntry}{clock:Nat}{seen:Array Nat}{ty:TypeId}(hi:w.heap[it]?=some (.mapIter (some g) clock seen clock))(hg:w.heap[g]?=some (.map es clock))(hb:∀ e∈es.toList,e.born<clock) :
  (es.toList.filter (fun e => !seen.contains e.born)=[]∧(Instr.next (.pointer (some ⟨it,0,none⟩)) false ty).run P w = .ok (.tuple #[.bool false]) w) ∨
  ∃ e∈es.toList,seen.contains e.born=false∧∃ w1:World,w1.os=w.os∧w1.tape=w.tape∧w1.output=w.output∧w1.heap=w.heap∧(Instr.next (.pointer (some ⟨it,0,none⟩)) false ty).run P w = .ok (.tuple #[.bool true,e.key,e.val]) { w1 with heap:=w1.heap.setIfInBounds it (.mapIter (some g) clock (seen.push e.born) clock) }:=by
 simp only [Instr.next,getObj,Sem.run_bind,Sem.run,hi,hg,Result.andThen,next_test_false seen es clock clock hb (Nat.le_refl _),Bool.false_eq_true,if_false]
 have hL:(es.filter fun e => !seen.contains e.born).toList=es.toList.filter (fun e => !seen.contains e.born):=by simp
 rw [← hL]
 have hmem:∀ x∈(es.filter fun e => !seen.contains e.born).toList,x∈es.toList∧seen.contains x.born=false:=fun x hx=>by
  rw [hL] at hx
  obtain ⟨h1,h2⟩:=List.mem_filter.1 hx
  exact ⟨h1,by simpa using h2⟩
 generalize (es.filter fun e => !seen.contains e.born)=L at hmem ⊢
 have e1:L.filter (fun x=>decide (x.born<clock))=L:=Array.filter_eq_self.2 (fun x hx=>by simpa using hb x (hmem x (by simpa using hx)).1)
 have e2:L.filter (fun x=>decide (x.born≥clock)) = #[]:=by
  rw [Array.filter_eq_empty_iff]
  intro x hx
  have:=hb x (hmem x (by simpa using hx)).1
  simp
  omega
 simp only [e1,e2,Array.append_empty]
 by_cases h0:L.size=0
 ·left
  have:L = #[]:=Array.eq_empty_of_size_eq_zero h0
  subst this
  refine ⟨rfl,?_⟩
  simp [choose,Sem.run,Question.forced]
 ·right
  have hne:L.isEmpty=false:=by simp [Array.isEmpty,h0]
  simp only [hne,Bool.false_eq_true,if_false,Array.empty_append,Array.size_map]
  have hch:∃ (j:Nat) (w1:World),j<L.size∧(w1.os=w.os∧w1.tape=w.tape∧w1.output=w.output∧w1.heap=w.heap)∧(choose (Question.mapNext L.size)).run P w = .ok j w1:=by
   by_cases hf:L.size≤1
   ·exact ⟨0,w,by omega,⟨rfl,rfl,rfl,rfl⟩,by simp [choose,Sem.run,Question.forced,hf]⟩
   ·exact ⟨_,w.drew,Nat.mod_lt _ (by omega),⟨rfl,rfl,rfl,rfl⟩,by
     simp only [choose,Sem.run,Question.forced,decide_eq_true_eq,hf,if_false,Question.cut]
     rfl⟩
  obtain ⟨j,w1,hj,⟨a1,a2,a3,a4⟩,hrun⟩:=hch
  obtain ⟨m1,m2⟩:=hmem L[j] (by simp)
  refine ⟨L[j],m1,m2,w1,a1,a2,a3,a4,?_⟩
  have hset:∀ (o':Obj),(setObj it o').run P w1 = .ok () { w1 with heap:=w1.heap.setIfInBounds it o' }:=fun o'=>by
   simp only [setObj,Sem.run,a4,hi]
  simp only [hrun,Array.getElem?_map,Array.getElem?_eq_getElem hj,Option.map_some,Sem.run_bind,hset,Result.andThen]
  rfl
end
end GW
