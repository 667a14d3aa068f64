import Derived.Test.YtdajnflppnlhiaaGWQui
import Derived.OrdersHeld
import Derived.Deep.RegionHeld3
set_option linter.unusedVariables false
set_option linter.unusedSimpArgs false
namespace GW
open Go Go.RowKit
def wpAnyT (P:Program)(ops:Array Oper)(Q:Exit→Act→World→Prop)(C:World→Prop)(T:Nat):Nat→Array Bool→Act→World→Prop
 | 0,L,a,w=>Region.ready .any ops L=[]∧Q .normal a w
 | f+1,L,a,w=>(Region.ready .any ops L=[]→Q .normal a w) ∧
  ∀ i∈Region.ready .any ops L,wpOp P ops Q i (fun a' w'=>((L.setIfInBounds i true).getD T false=true∨C w')∧wpAnyT P ops Q C T f (L.setIfInBounds i true) a' w') a w
section
variable {P:Program} {ops:Array Oper} {Q:Exit→Act→World→Prop} {C:World→Prop} {T:Nat}
theorem wpAny_of_T:∀ (f:Nat) (L:Array Bool) (a:Act) (w:World),wpAnyT P ops Q C T f L a w→wpAny P .any ops Q f L a w
 | 0,_,_,_,h=>h
 | f+1,_,_,_,h=>⟨h.1,fun i hi=>wpOp_mono (fun a' w' h'=>wpAny_of_T f _ a' w' h'.2) (h.2 i hi)⟩
theorem getD_ff {L:Array Bool}{i:Nat}(h:L.getD i true=false):L.getD i false=false:=by
 rcases Nat.lt_or_ge i L.size with h' | h'
 ·simp [h'] at h ⊢; exact h
 ·simp [Array.getElem?_eq_none h'] at h
def Closed (ops:Array Oper)(L:Array Bool):Prop:=∀ j oj,ops[j]?=some oj→L.getD j false=true→∀ e∈oj.after,Region.binds .any e=true→L.getD e.on false=true
def reachB (ops:Array Oper):Nat→Nat→Nat→Bool
 | 0,_,_=>false
 | f+1,T,i=>match ops[T]? with
  | some o=>o.after.any fun e=>Region.binds .any e&&(e.on==i||reachB ops f e.on i)
  | none=>false
theorem reach_spec {i:Nat}{L:Array Bool}(hc:Closed ops L)(hi:L.getD i false=false):∀ (f T:Nat),reachB ops f T i=true→∃ o,ops[T]?=some o∧∃ e∈o.after,Region.binds .any e=true∧L.getD e.on false=false
 | 0,T,h=>by cases h
 | f+1,T,h=>by
  unfold reachB at h
  match ho:ops[T]?,h with
  | some o,h =>
   simp only [Array.any_eq_true'] at h
   obtain ⟨e,he,hb⟩:=h
   simp only [Bool.and_eq_true,Bool.or_eq_true,beq_iff_eq] at hb
   obtain ⟨hb,h1⟩:=hb
   refine ⟨o,rfl,e,he,hb,?_⟩
   rcases h1 with h1 | h1
   ·rw [h1]; exact hi
   ·obtain ⟨o2,ho2,e2,he2,hb2,h3⟩:=reach_spec hc hi f e.on h1
    by_cases hL:L.getD e.on false=true
    ·have:=hc e.on o2 ho2 hL e2 he2 hb2
     rw [h3] at this
     cases this
    ·simpa using hL
theorem closed_set {i:Nat}{oi:Oper}{L:Array Bool}(hc:Closed ops L)(hi:ops[i]?=some oi)(hall:∀ e∈oi.after,Region.binds .any e=true→L.getD e.on false=true):Closed ops (L.setIfInBounds i true):=by
 have mono:∀ k,L.getD k false=true→(L.setIfInBounds i true).getD k false=true:=by
  intro k hk
  by_cases hki:i=k
  ·subst hki
   rcases Nat.lt_or_ge i L.size with h' | h'
   ·simp [h']
   ·simp [Array.getElem?_eq_none h'] at hk
  ·rw [getD_set_ne false hki]; exact hk
 intro j oj hj hL e he hb
 by_cases hji:i=j
 ·subst hji
  obtain rfl:oi=oj:=sI (hi.symm.trans hj)
  exact mono _ (hall e he hb)
 ·rw [getD_set_ne false hji] at hL
  exact mono _ (hc j oj hj hL e he hb)
theorem closed_start (n:Nat):Closed ops (Array.replicate n false):=by
 intro j oj hj hL
 rw [Array.getD_eq_getD_getElem?] at hL
 rcases Nat.lt_or_ge j n with h | h <;> simp [h,Array.getElem?_replicate] at hL
 all_goals omega
theorem wpAnyT_first {i:Nat}{oi:Oper}{v:Value}(hi:ops[i]?=some oi)(hsel:∀ (j:Nat) (o:Oper) cs b,ops[j]?=some o→o.op ≠ .select cs b)
    (hQ:∀ c a w,Q (.panic c) (a.put oi.dst v) w→Q (.panic c) a w) (hT:ops[T]?=none∨∃ f,reachB ops f T i=true) :
    ∀ (f:Nat) (L:Array Bool) (a:Act) (w:World),Closed ops L →
      (∀ j oj,ops[j]?=some oj→j≠i→L.getD j true=false→(∀ e∈oj.after,Region.binds .any e=true→e.on≠i)→oi.apart ops oj=true) →
      i∈Region.ready .any ops L→YieldsIf P ops C oi v a→C w→L.getD T false=false →
      wpAnyT P ops Q C T f (L.setIfInBounds i true) (a.put oi.dst v) w→wpAnyT P ops Q C T (f+1) L a w:=by
  intro f
  induction f with
  | zero =>
    intro L a w _ _ hr hy hC _ H
    refine ⟨fun h=>(by rw [h] at hr; cases hr),fun j hj=>?_⟩
    by_cases hji:j=i
    · subst hji; exact hy.wpOp hi hC ⟨.inr hC,H⟩
    · have:=ready_mono hj hji
      rw [H.1] at this
      cases this
  | succ f ih =>
    intro L a w hcl hfree hr hy hC hTL H
    refine ⟨fun h=>(by rw [h] at hr; cases hr),fun j hj=>?_⟩
    by_cases hji:j=i
    · subst hji; exact hy.wpOp hi hC ⟨.inr hC,H⟩
    · have h1:=H.2 j (ready_mono hj hji)
      obtain ⟨hjun,oj,hoj,hall⟩:=mem_ready.1 hj
      have hiL:L.getD i false=false:=getD_ff (mem_ready.1 hr).1
      have hnot:∀ e∈oj.after,Region.binds .any e=true→e.on≠i:=fun e he hb heq=>by
        have h1:=hall e he hb
        rw [heq,hiL] at h1
        cases h1
      have hjT:j≠T:=by
        rintro rfl
        rcases hT with hT | ⟨ff,hT⟩
        · rw [hoj] at hT; cases hT
        · obtain ⟨o2,ho2,e,he,hb,he'⟩:=reach_spec hcl hiL ff j hT
          obtain rfl:oj=o2:=sI (hoj.symm.trans ho2)
          have:=hall e he hb
          rw [he'] at this
          cases this
      have h2:=wpOp_putIf hoj (hfree j oj hoj hji hjun hnot) (fun cs b=>hsel i oi cs b hi) (fun cs b=>hsel j oj cs b hoj) hQ hy h1
      have hfree':∀ k ok,ops[k]?=some ok→k≠i→(L.setIfInBounds j true).getD k true=false →
          (∀ e∈ok.after,Region.binds .any e=true→e.on≠i)→oi.apart ops ok=true:=fun k ok hk hki hun hno=>by
        refine hfree k ok hk hki ?_ hno
        by_cases hjk:j=k
        · subst hjk; exact hjun
        · rw [getD_set_ne true hjk] at hun; exact hun
      have hTj:(L.setIfInBounds j true).getD T false=false:=by rw [getD_set_ne false hjT]; exact hTL
      refine wpOp_mono (fun a' w' h3=>?_) h2
      have hC':C w':=by
        rcases h3.2.1 with h | h
        · by_cases hiT:i=T
          · subst hiT
            have:((L.setIfInBounds i true).setIfInBounds j true).getD i false=(L.setIfInBounds i true).getD i false:=getD_set_ne false hjT
            rcases hT with hT | ⟨ff,hT⟩
            · rw [hi] at hT; cases hT
            obtain ⟨o2,ho2,e,he,hb,he'⟩:=reach_spec hcl hiL ff i hT
            obtain rfl:oi=o2:=sI (hi.symm.trans ho2)
            have:=(mem_ready.1 hr).2
            obtain ⟨o,ho,h5⟩:=this
            obtain rfl:oi=o:=sI (hi.symm.trans ho)
            have:=h5 e he hb
            rw [he'] at this
            cases this
          · rw [getD_set_ne false hjT,getD_set_ne false hiT,hTL] at h
            cases h
        · exact h
      refine ⟨.inr hC',ih (L.setIfInBounds j true) a' w' (closed_set hcl hoj hall) hfree' (ready_mono hr (Ne.symm hji)) h3.1 hC' hTj ?_⟩
      rw [Array.setIfInBounds_comm _ _ hji]
      exact h3.2.2
theorem wpAnyT_pure {i:Nat}{oi:Oper}{v:Value}(hi:ops[i]?=some oi)(hsel:∀ (j:Nat) (o:Oper) cs b,ops[j]?=some o→o.op ≠ .select cs b)
    (hQ:∀ c a w,Q (.panic c) (a.put oi.dst v) w→Q (.panic c) a w) (hT:i≠T) :
    ∀ (f:Nat) (L:Array Bool) (a:Act) (w:World),
      (∀ j oj,ops[j]?=some oj→j≠i→L.getD j true=false→(∀ e∈oj.after,Region.binds .any e=true→e.on≠i)→oi.apart ops oj=true) →
      i∈Region.ready .any ops L→YieldsIf P ops (fun _=>True) oi v a→(L.getD T false=true∨C w) →
      wpAnyT P ops Q C T f (L.setIfInBounds i true) (a.put oi.dst v) w→wpAnyT P ops Q C T (f+1) L a w:=by
  intro f
  induction f with
  | zero =>
    intro L a w _ hr hy hC H
    refine ⟨fun h=>(by rw [h] at hr; cases hr),fun j hj=>?_⟩
    by_cases hji:j=i
    · subst hji; exact hy.wpOp hi tv ⟨by rw [getD_set_ne false hT]; exact hC,H⟩
    · have:=ready_mono hj hji
      rw [H.1] at this
      cases this
  | succ f ih =>
    intro L a w hfree hr hy hC H
    refine ⟨fun h=>(by rw [h] at hr; cases hr),fun j hj=>?_⟩
    by_cases hji:j=i
    · subst hji; exact hy.wpOp hi tv ⟨by rw [getD_set_ne false hT]; exact hC,H⟩
    · have h1:=H.2 j (ready_mono hj hji)
      obtain ⟨hjun,oj,hoj,hall⟩:=mem_ready.1 hj
      have hiL:L.getD i false=false:=getD_ff (mem_ready.1 hr).1
      have hnot:∀ e∈oj.after,Region.binds .any e=true→e.on≠i:=fun e he hb heq=>by
        have h1:=hall e he hb
        rw [heq,hiL] at h1
        cases h1
      have h2:=wpOp_putIf hoj (hfree j oj hoj hji hjun hnot) (fun cs b=>hsel i oi cs b hi) (fun cs b=>hsel j oj cs b hoj) hQ hy h1
      have hfree':∀ k ok,ops[k]?=some ok→k≠i→(L.setIfInBounds j true).getD k true=false →
          (∀ e∈ok.after,Region.binds .any e=true→e.on≠i)→oi.apart ops ok=true:=fun k ok hk hki hun hno=>by
        refine hfree k ok hk hki ?_ hno
        by_cases hjk:j=k
        · subst hjk; exact hjun
        · rw [getD_set_ne true hjk] at hun; exact hun
      refine wpOp_mono (fun a' w' h3=>?_) h2
      have hC':(L.setIfInBounds j true).getD T false=true∨C w':=by
        have h4:=h3.2.1
        rw [Array.setIfInBounds_comm _ _ (Ne.symm hji),getD_set_ne false hT] at h4
        exact h4
      refine ⟨hC',ih (L.setIfInBounds j true) a' w' hfree' (ready_mono hr (Ne.symm hji)) h3.1 hC' ?_⟩
      rw [Array.setIfInBounds_comm _ _ hji]
      exact h3.2.2
inductive Sch where
 | done
 | take (i:Nat) (r:Sch)
 | pure (i:Nat) (r:Sch)
 | alts (s:Sch)
 | run (i:Nat) (c:Bool) (r o:Sch)
 | nil
def Sch.heads:Sch→List Nat
 | .run i _ _ o=>i::o.heads
 | _=>[]
def Sch.top:Sch→Bool
 | .run _ _ _ _=>false
 | .nil=>false
 | _=>true
def waitsB (ops:Array Oper)(T i:Nat):Bool :=
 match ops[T]? with
 | some _=>reachB ops 30 T i
 | none=>true
def Sch.ok (ops:Array Oper)(T:Nat):Sch→Nat→Array Bool→Bool
 | .done,_,L=>(Region.ready .any ops L).isEmpty
 | .take i r,f,L=>Nat.blt 0 f&&(r.top&&((Region.ready .any ops L).contains i&&(Region.free .any ops L i&&(waitsB ops T i&&(!L.getD T false&&r.ok ops T (f - 1) (L.setIfInBounds i true))))))
 | .pure i r,f,L=>Nat.blt 0 f&&(r.top&&((Region.ready .any ops L).contains i&&(Region.free .any ops L i&&(!Nat.beq i T&&r.ok ops T (f - 1) (L.setIfInBounds i true)))))
 | .alts s,f,L=>Nat.blt 0 f&&(Region.ready .any ops L==s.heads&&(!s.heads.isEmpty&&s.ok ops T f L))
 | .run i c r o,f,L=>(c||(L.setIfInBounds i true).getD T false)&&(r.top&&(r.ok ops T (f - 1) (L.setIfInBounds i true)&&o.ok ops T f L))
 | .nil,_,_=>true
def wpH (P:Program)(ops:Array Oper)(Q:Exit→Act→World→Prop)(C:World→Prop):Sch→Act→World→Prop
 | .done,a,w=>Q .normal a w
 | .take i r,a,w=>∃ oi v,ops[i]?=some oi∧YieldsIf P ops C oi v a∧wpH P ops Q C r (a.put oi.dst v) w
 | .pure i r,a,w=>∃ oi v,ops[i]?=some oi∧YieldsIf P ops (fun _=>True) oi v a∧wpH P ops Q C r (a.put oi.dst v) w
 | .alts s,a,w=>wpH P ops Q C s a w
 | .run i c r o,a,w=>wpOp P ops Q i (fun a' w'=>(c=true→C w')∧wpH P ops Q C r a' w') a w∧wpH P ops Q C o a w
 | .nil,_,_=>True
theorem Sch.sound (hQ:∀ c a a' w,Q (.panic c) a w→Q (.panic c) a' w)(hs:Region.noSelect ops=true)(s:Sch):∀ (f:Nat) (L:Array Bool) (a:Act) (w:World),Closed ops L→s.ok ops T f L=true→(L.getD T false=true∨C w)→wpH P ops Q C s a w →
  (s.top=true→wpAnyT P ops Q C T f L a w) ∧
  ∀ i∈s.heads,i∈Region.ready .any ops L→wpOp P ops Q i (fun a' w'=>((L.setIfInBounds i true).getD T false=true∨C w')∧wpAnyT P ops Q C T (f - 1) (L.setIfInBounds i true) a' w') a w:=by
 induction s with
 | done =>
  intro f L a w hcl hok hC h
  have hr:Region.ready .any ops L=[]:=by simpa [Sch.ok] using hok
  refine ⟨fun _=>?_,fun i hi _=>by cases hi⟩
  cases f with
  | zero=>exact ⟨hr,h⟩
  | succ f=>exact ⟨fun _=>h,by rw [hr]; simp⟩
 | take i r ih =>
  intro f L a w hcl hok hC h
  simp only [Sch.ok,Bool.and_eq_true,Bool.not_eq_true'] at hok
  obtain ⟨hf,h0,h1,h2,h3,h4,h5⟩:=hok
  obtain ⟨oi,v,e1,e2,e3⟩:=h
  have hC':C w:=by
   rcases hC with h | h
   ·rw [h] at h4; cases h4
   ·exact h
  cases f with
  | zero=>cases hf
  | succ f =>
   refine ⟨fun _=>?_,fun i hi _=>by cases hi⟩
   have hr:i∈Region.ready .any ops L:=by simpa using h1
   have hwt:ops[T]?=none∨∃ f,reachB ops f T i=true:=by
    unfold waitsB at h3
    match ho:ops[T]?,h3 with
    | none,_=>exact .inl rfl
    | some o,h3=>exact .inr ⟨30,h3⟩
   obtain ⟨_,o,ho,hall⟩:=mem_ready.1 hr
   exact wpAnyT_first e1 (Region.noSelect_spec hs) (fun c a' w'=>hQ c _ _ w') hwt f L a w hcl (Region.free_spec e1 h2) hr e2 hC' h4 ((ih f (L.setIfInBounds i true) (a.put oi.dst v) w (closed_set hcl ho hall) h5 (.inr hC') e3).1 h0)
 | pure i r ih =>
  intro f L a w hcl hok hC h
  simp only [Sch.ok,Bool.and_eq_true,Bool.not_eq_true'] at hok
  obtain ⟨hf,h0,h1,h2,h3,h5⟩:=hok
  obtain ⟨oi,v,e1,e2,e3⟩:=h
  cases f with
  | zero=>cases hf
  | succ f =>
   refine ⟨fun _=>?_,fun i hi _=>by cases hi⟩
   have hr:i∈Region.ready .any ops L:=by simpa using h1
   have hiT:i≠T:=fun e=>by rw [e] at h3; simp at h3
   obtain ⟨_,o,ho,hall⟩:=mem_ready.1 hr
   exact wpAnyT_pure e1 (Region.noSelect_spec hs) (fun c a' w'=>hQ c _ _ w') hiT f L a w (Region.free_spec e1 h2) hr e2 hC ((ih f (L.setIfInBounds i true) (a.put oi.dst v) w (closed_set hcl ho hall) h5 (by rw [getD_set_ne false hiT]; exact hC) e3).1 h0)
 | alts s ih =>
  intro f L a w hcl hok hC h
  simp only [Sch.ok,Bool.and_eq_true,beq_iff_eq] at hok
  obtain ⟨hf,h1,h2,h3⟩:=hok
  cases f with
  | zero=>cases hf
  | succ f =>
   have h6:=(ih (f+1) L a w hcl h3 hC h).2
   refine ⟨fun _=>⟨fun h0=>?_,fun i hi=>?_⟩,fun i hi _=>by cases hi⟩
   ·rw [← h1,h0] at h2; simp at h2
   ·exact h6 i (h1 ▸ hi) hi
 | run i c r o ihr iho =>
  intro f L a w hcl hok hC h
  simp only [Sch.ok,Bool.and_eq_true,Bool.or_eq_true] at hok
  obtain ⟨h1,h0,h2,h3⟩:=hok
  refine ⟨fun h=>(by cases h),fun j hj hrd=>?_⟩
  rcases List.mem_cons.1 hj with rfl | hj
  ·refine wpOp_mono (fun a' w' h4=>?_) h.1
   have hc:(L.setIfInBounds j true).getD T false=true∨C w':=h1.symm.imp id fun hc=>h4.1 hc
   obtain ⟨_,oj,hoj,hall⟩:=mem_ready.1 hrd
   exact ⟨hc,(ihr (f - 1) _ a' w' (closed_set hcl hoj hall) h2 hc h4.2).1 h0⟩
  ·exact (iho f L a w hcl h3 hC h.2).2 j hj hrd
 | nil=>intro f L a w hcl hok hC h; exact ⟨fun h=>(by cases h),fun i hi _=>(by cases hi)⟩
end
section
variable {P:Program} {n:Nat} {m m':Mem} {w0:Base} {l lq:List (Nat×D)} {H HS:List Res} {a:Act} {w:World}
variable {Q:Exit→Act→World→Prop} {ty:TypeId} {ps:String} {af:Array Edge} {t:Nat} {C':World→Prop}
theorem c_held {id:Nat}{lo:List Oper}(s:Sch)(T:Nat){C:World→Prop}(hm:P.follows .mixedOrders=true)
  (hB:(Region.noSelect lo.toArray&&(s.top&&s.ok lo.toArray T lo.length (Array.replicate lo.length false)))=true) (hC:C { w with drawn:=w.drawn+1 })
  (h:wpH P lo.toArray (NoPanic Q) C s a { w with drawn:=w.drawn+1 }):(Code.region id lo.toArray true).wp P Q a w:=by
 simp only [Bool.and_eq_true] at hB
 obtain ⟨h1,h2,h3⟩:=hB
 refine wp_region_noPanic (wp_region_any hm (wpAny_of_T (C:=C) (T:=T) _ _ _ _ ?_))
 have:=(Sch.sound (P:=P) (Q:=NoPanic Q) (C:=C) (fun c a a' w h=>h) h1 s lo.length (Array.replicate lo.length false) a { w with drawn:=w.drawn+1 } (closed_start _) h3 (.inr hC) h).1 h2
 simpa using this
def Res.Stay (r:Res):Prop:=∀ (m m':Mem) (w w':World),r.holds m w→r.holds m' w'→r.holds m w'
def StayL:List Res→Prop
 | []=>True
 | r::l=>r.Stay∧StayL l
theorem Res.stay_cells {g:Nat}{t:TypeId}{s:List Seg}:(Res.cells g t s).Stay:=fun m m' w w' h h'=>⟨h'.1,h.2⟩
theorem Res.stay_fro {g:Nat}{t:TypeId}{s:List Seg}:(Res.fro g t s).Stay:=fun m m' w w' h h'=>h
theorem StayL.mem {l:List Res}(h:StayL l):∀ r∈l,r.Stay:=by
 induction l with
 | nil=>intro r hr; cases hr
 | cons x l ih =>
  intro r hr
  rcases List.mem_cons.1 hr with rfl | hr
  ·exact h.1
  ·exact ih h.2 r hr
structure Cls (m:Mem)(w0:Base)(lq:List (Nat×D))(HS:List Res):Prop where
 ok:∀ t d,fnd lq t=some d→d.ok m
 le:LeM w0.m m
 fresh:∀ p v,m p=some v→(∃ u,w0.m p=some u)∨w0.w.heap.size≤p.block∨w0.ex p.block
 base:∀ r∈HS,∀ k,r.blk k→w0.w.heap.size≤k∨w0.ex k
 apart:HS.Pairwise (fun r s=>∀ k,r.blk k→¬ s.blk k)
 frzH:∀ r∈HS,∀ p v,m p=some v→¬ r.blk p.block
 stay:StayL HS
theorem St.cls (S:St n m w0 l H a w)(hs:Sel H HS)(hst:StayL HS):Cls m w0 l HS :=
 have S':=S.sub (l':=[]) tv hs
 ⟨fun t d h=>(S.get t d h).2,S.le,S.fresh,S'.base,S'.apart,S'.frzH,hst⟩
theorem St.wpc (S:St n m w0 l H a w)(hs:Sel H HS):WP_ m w0 HS w:=⟨S.below,fun r hr=>S.holds r (hs.mem r hr),S.frz⟩
theorem Cls.again (C:Cls m w0 lq HS){w1:World}(hc:WP_ m w0 HS w1)(S:St n m' w0 l H a w)(hs:Sel H HS)(hle:LeM m m'):WP_ m w0 HS w :=
 ⟨S.below,fun r hr=>C.stay.mem r hr m m' w1 w (hc.holds r hr) (S.holds r (hs.mem r hr)),fun p v hv=>S.frz p v (hle p v hv)⟩
theorem Cls.drop (C:Cls m w0 lq HS){lq':List (Nat×D)}(h:subF lq lq'):Cls m w0 lq' HS:=⟨fun t d hd=>C.ok t d (subF_fnd h hd),C.le,C.fresh,C.base,C.apart,C.frzH,C.stay⟩
theorem Cls.at_ (C:Cls m w0 lq HS)(S:St n m' w0 l H a w)(hsub:subF l lq){w':World}(h:WP_ m w0 HS w'):St n m w0 lq HS a w' :=
 ⟨S.size,S.defers,fun t d hd=>⟨(S.get t d (subF_fnd hsub hd)).1,C.ok t d hd⟩,h.below,C.le,C.fresh,h.holds,C.base,C.apart,h.frz,C.frzH⟩
def flatS:List Seg→Bool
 | []=>true
 | .sl _ _ _ _::_=>false
 | .rf _ _::_=>false
 | _::r=>flatS r
def flatT:List (Bool×List Seg)→Bool
 | []=>true
 | p::r=>flatS p.2&&flatT r
def D.flat:D→Bool
 | .v _=>true
 | .u=>true
 | .sl _ _ _ _=>false
 | .pt _ _=>false
 | .rf _ _=>false
 | .agg s=>flatS s
 | .tup l=>flatT l
theorem flatS_ok {m m':Mem}:∀ {s:List Seg},flatS s=true→okS m' s→okS m s
 | [],_,_=>trivial
 | .one _::r,h,hk=>⟨hk.1,flatS_ok (s:=r) h hk.2⟩
 | .ints _ _ _::r,h,hk=>⟨hk.1,flatS_ok (s:=r) h hk.2⟩
 | .sl _ _ _ _::r,h,hk=>by cases h
 | .rf _ _::r,h,hk=>by cases h
theorem flatT_ok {m m':Mem}:∀ {s:List (Bool×List Seg)},flatT s=true→okT m' s→okT m s
 | [],_,_=>trivial
 | p::r,h,hk=>by
  simp only [flatT,Bool.and_eq_true] at h
  exact ⟨flatS_ok h.1 hk.1,flatT_ok h.2 hk.2⟩
theorem D.flat_ok {m m':Mem}{d:D}(h:d.flat=true)(hk:d.ok m'):d.ok m:=by
 cases d with
 | v x=>exact hk
 | u=>trivial
 | sl A n cap R=>cases h
 | pt p R=>cases h
 | rf x R=>cases h
 | agg s=>exact flatS_ok h hk
 | tup l=>exact flatT_ok h hk
theorem Cls.add (C:Cls m w0 lq HS){d:D}(S:St n m' w0 l H a w)(hd:fnd l t=some d)(hf:d.flat=true):Cls m w0 ((t,d)::lq) HS :=
 ⟨fun u e he=>by
  rw [fnd_cons] at he
  by_cases hk:t=u
  ·rw [iP hk] at he
   obtain rfl:=sI he
   exact D.flat_ok hf (S.get _ _ hd).2
  ·rw [iN hk] at he
   exact C.ok u e he,C.le,C.fresh,C.base,C.apart,C.frzH,C.stay⟩
def unitOp:Op→Bool
 | .store _ _ _=>true
 | .ready _=>true
 | .mapUpdate _ _ _ _=>true
 | .insert _ _ _ _=>true
 | .entryStore _ _ _ _=>true
 | _=>false
def NoSkip_:Result Next→Prop
 | .ok .skip _=>False
 | _=>True
theorem noskip_v (s:Sem Value)(w:World):NoSkip_ ((do pure (Next.value (← s)):Sem Next).run P w):=by
 rw [Sem.run_bind]
 cases s.run P w with
 | ok v w'=>exact tv
 | halt h w'=>exact tv
theorem noskip_op (ρ:Operand→Value)(o:Oper)(h:quietOp o.op=true)(hu:unitOp o.op=false)(w:World):NoSkip_ ((execOp ρ o).run P w):=by
 obtain ⟨dst,op,ty,ps,af,g⟩:=o
 cases op
 case pick c x y =>
  simp only [execOp,Sem.run_bind]
  cases (asBool (ρ c)).run P w with
  | ok v w'=>exact tv
  | halt h w'=>exact tv
 case call c =>
  obtain ⟨callee,xs,ts⟩:=c
  cases callee with
  | value f=>simp [quietOp] at h
  | invoke r m=>simp [quietOp] at h
  | builtin b =>
   cases b
   case len=>exact noskip_v (Builtin.len_ _ _ _) w
   case min=>exact noskip_v (Builtin.min_ _ _ _) w
   case max=>exact noskip_v (Builtin.max_ _ _ _) w
   all_goals simp [quietOp] at h
 all_goals first
  | (cases hu; done)
  | (cases h; done)
  | exact noskip_v _ w
  | exact (tv:True)
def GdOK (lo:List Oper)(l:List (Nat×D)):Option (Nat×Bool)→Prop
 | none=>True
 | some (j,want)=>∃ tj b,(lo[j]?).bind (·.dst)=some tj∧fnd l tj=some (.v (.bool b))∧b=want
theorem GdOK.wanted {lo:List Oper}{dst:Option Tmp}{op:Op}{g:Option (Nat×Bool)}(S:St n m' w0 l H a w)(h:GdOK lo l g):Region.wanted ⟨dst,op,ty,ps,af,g⟩ (yielded lo.toArray a.tmps)=true:=by
 cases g with
 | none=>simp [Region.wanted]
 | some p =>
  obtain ⟨j,want⟩:=p
  obtain ⟨tj,b,h1,h2,rfl⟩:=h
  obtain ⟨oj,h4,h5⟩:=Option.bind_eq_some_iff.1 h1
  have h3:=(S.get _ _ h2).1
  simp [Region.wanted,yielded,h4,h5,h3,D.val]
theorem h_of {lo:List Oper}{i:Nat}{r:Sch}{op:Op}{g:Option (Nat×Bool)}{dv:D}(S:St n m' w0 l H a w)(C:Cls m w0 lq HS)(hc:WP_ m w0 HS w)(hle:LeM m m')(hsub:subF l lq)
  (hi:lo[i]?=some ⟨some t,op,ty,ps,af,g⟩) (hgd:GdOK lo l g) (ht:Nat.blt t n=true) (hq:quietOp op=true) (hu:unitOp op=false)
  (h:∀ w,St n m w0 lq HS a w→∀ {Q:Exit→Act→World→Prop},(∀ a',St n m w0 ((t,dv)::lq) HS a' w→wpList P #[] Q [] a' w)→wpList P #[] Q [⟨some t,op,ty,ps,af,none⟩] a w)
  (K:∀ a',St n m' w0 ((t,dv)::l) H a' w→Cls m w0 ((t,dv)::lq) HS→wpH P lo.toArray (NoPanic Q) (WP_ m w0 HS) r a' w):wpH P lo.toArray (NoPanic Q) (WP_ m w0 HS) (.take i r) a w:=by
 have hdv:dv.ok m:=ok_of (C.at_ S hsub hc) (h w (C.at_ S hsub hc)) hq
 refine ⟨_,dv.val,(by simpa using hi), .inl ⟨hgd.wanted S,fun w' hw'=>?_⟩,K _ (S.put ht (D.ok_mono hle hdv)) ⟨fun u d hd=>?_,C.le,C.fresh,C.base,C.apart,C.frzH,C.stay⟩⟩
 ·show (execOp a.eval ⟨some t,op,ty,ps,af,none⟩).run P w'=_
  rcases run_of (C.at_ S hsub hw') ht hq (h w' (C.at_ S hsub hw')) with e | ⟨e,_⟩
  ·exact e
  ·have:=noskip_op (P:=P) a.eval ⟨some t,op,ty,ps,af,none⟩ hq hu w'
   rw [e] at this
   exact this.elim
 ·rw [fnd_cons] at hd
  by_cases hk:t=u
  ·rw [iP hk] at hd
   obtain rfl:=sI hd
   exact hdv
  ·rw [iN hk] at hd
   exact C.ok u d hd
theorem p_of {lo:List Oper}{i:Nat}{r:Sch}{op:Op}{g:Option (Nat×Bool)}{dv:D}(S:St n m' w0 l H a w)
  (hi:lo[i]?=some ⟨some t,op,ty,ps,af,g⟩) (hgd:GdOK lo l g) (ht:Nat.blt t n=true) (hd:dv.ok m') (h:∀ w,(execOp a.eval ⟨some t,op,ty,ps,af,g⟩).run P w = .ok (.value dv.val) w)
  (K:∀ a',St n m' w0 ((t,dv)::l) H a' w→wpH P lo.toArray (NoPanic Q) C' r a' w):wpH P lo.toArray (NoPanic Q) C' (.pure i r) a w :=
 ⟨_,dv.val,(by simpa using hi), .inl ⟨hgd.wanted S,fun w' _=>h w'⟩,K _ (S.put ht hd)⟩
theorem p_move {lo:List Oper}{i:Nat}{r:Sch}{g:Option (Nat×Bool)}{x:Operand}{d:D}(S:St n m' w0 l H a w)(hx:evo l x=some d)(ht:Nat.blt t n=true)
  (hi:lo[i]?=some ⟨some t, .move x,ty,ps,af,g⟩) (hgd:GdOK lo l g)
  (K:∀ a',St n m' w0 ((t,d)::l) H a' w→wpH P lo.toArray (NoPanic Q) C' r a' w):wpH P lo.toArray (NoPanic Q) C' (.pure i r) a w :=
 p_of S hi hgd ht (evo_ok S hx) (fun w=>by simp only [execOp,S.evo hx,Sem.run_pure]) K
theorem p_bin {lo:List Oper}{i:Nat}{r:Sch}{g:Option (Nat×Bool)}{bo:BinOp}{xt yt:TypeId}{x y:Operand}{k:IntKind}{p q:Int}{v:Value}(S:St n m' w0 l H a w)(hx:evo l x=some (.v (.int k p)))(hy:evo l y=some (.v (.int k q)))
  (hb:binI bo k p q=some v) (ht:Nat.blt t n=true) (hi:lo[i]?=some ⟨some t, .binOp bo xt x y yt,ty,ps,af,g⟩) (hgd:GdOK lo l g)
  (K:∀ a',St n m' w0 ((t, .v v)::l) H a' w→wpH P lo.toArray (NoPanic Q) C' r a' w):wpH P lo.toArray (NoPanic Q) C' (.pure i r) a w :=
 p_of (dv:= .v v) S hi hgd ht (binI_plain hb) (fun w=>by
  simp only [execOp,S.evo hx,S.evo hy,D.val]
  cases bo <;> simp [binI] at hb <;> subst hb <;> simp [go_sem,Op.intArith,wr]) K
theorem p_not {lo:List Oper}{i:Nat}{r:Sch}{g:Option (Nat×Bool)}{xt:TypeId}{x:Operand}{b:Bool}(S:St n m' w0 l H a w)(hx:evo l x=some (.v (.bool b)))(ht:Nat.blt t n=true)
  (hi:lo[i]?=some ⟨some t, .unOp .not xt x,ty,ps,af,g⟩) (hgd:GdOK lo l g)
  (K:∀ a',St n m' w0 ((t, .v (.bool (!b)))::l) H a' w→wpH P lo.toArray (NoPanic Q) C' r a' w):wpH P lo.toArray (NoPanic Q) C' (.pure i r) a w :=
 p_of (dv:= .v (.bool (!b))) S hi hgd ht rfl (fun w=>by simp only [execOp,S.evo hx,D.val]; simp [Op.unary]) K
theorem okT_at {m:Mem}{d:Bool×List Seg}:∀ {ds:List (Bool×List Seg)} {j:Nat},okT m ds→ds[j]?=some d→okS m d.2
 | [],j,_,hj=>by simp at hj
 | p::r,0,h,hj=>by
  obtain rfl:p=d:=by simpa using hj
  exact h.1
 | p::r,j+1,h,hj=>okT_at h.2 (by simpa using hj)
theorem p_extract {lo:List Oper}{i j:Nat}{r:Sch}{g:Option (Nat×Bool)}{x:Operand}{ds:List (Bool×List Seg)}{d:Bool×List Seg}{d':D}(S:St n m' w0 l H a w)(hx:evo l x=some (.tup ds))(hj:ds[j]?=some d)(hd:pd d=d')(ht:Nat.blt t n=true)
  (hi:lo[i]?=some ⟨some t, .extract x j,ty,ps,af,g⟩) (hgd:GdOK lo l g)
  (K:∀ a',St n m' w0 ((t,d')::l) H a' w→wpH P lo.toArray (NoPanic Q) C' r a' w):wpH P lo.toArray (NoPanic Q) C' (.pure i r) a w:=by
 have hok:d'.ok m':=by
  subst hd
  exact pd_ok (okT_at (evo_ok S hx) hj)
 have hv:d'.val=pv d:=by subst hd; exact pd_val d
 refine p_of (dv:=d') S hi hgd ht hok (fun w=>?_) K
 have hx':a.eval x = .tuple (ds.map pv).toArray:=S.evo hx
 simp only [execOp,hx']
 have h3:(ds.map pv)[j]?=some (pv d):=by simp [hj]
 simp only [Sem.run_bind,Instr.extract,List.getElem?_toArray,h3,Sem.run_pure,Result.andThen_ok,hv]
theorem h_nilchk {lo:List Oper}{i:Nat}{r:Sch}{x:Operand}{d:D}{p:Addr}{g:Option (Nat×Bool)}(S:St n m' w0 l H a w)(C:Cls m w0 lq HS)(hc:WP_ m w0 HS w)(hle:LeM m m')(hsub:subF l lq)
  (hx:evo lq x=some d) (hp:d.val = .pointer (some p)) (ht:Nat.blt t n=true) (hi:lo[i]?=some ⟨some t, .nilCheck x,ty,ps,af,g⟩) (hgd:GdOK lo l g)
  (K:∀ a',St n m' w0 ((t,d)::l) H a' w→Cls m w0 ((t,d)::lq) HS→wpH P lo.toArray (NoPanic Q) (WP_ m w0 HS) r a' w):wpH P lo.toArray (NoPanic Q) (WP_ m w0 HS) (.take i r) a w:=by
 have S':=C.at_ S hsub hc
 have hdv:d.ok m:=evo_ok S' hx
 refine ⟨_,d.val,(by simpa using hi), .inl ⟨hgd.wanted S,fun w' hw'=>?_⟩,K _ (S.put ht (D.ok_mono hle hdv)) ⟨fun u e hd=>?_,C.le,C.fresh,C.base,C.apart,C.frzH,C.stay⟩⟩
 ·have he:a.eval x = .pointer (some p):=(S'.evo hx).trans hp
  simp only [execOp,he,hp]; simp
 ·rw [fnd_cons] at hd
  by_cases hk:t=u
  ·rw [iP hk] at hd
   obtain rfl:=sI hd
   exact hdv
  ·rw [iN hk] at hd
   exact C.ok u e hd
theorem h_skip {lo:List Oper}{i:Nat}{r:Sch}{op:Op}{j:Nat}{want:Bool}{tj:Tmp}{d:D}(S:St n m' w0 l H a w)(C:Cls m w0 lq HS)(hi:lo[i]?=some ⟨some t,op,ty,ps,af,some (j,want)⟩)
  (hj:(lo[j]?).bind (·.dst)=some tj) (hv:fnd l tj=some d) (hb:d.val ≠ .bool want) (ht:Nat.blt t n=true)
  (K:∀ a',St n m' w0 ((t, .u)::l) H a' w→Cls m w0 ((t, .u)::lq) HS→wpH P lo.toArray (NoPanic Q) (WP_ m w0 HS) r a' w):wpH P lo.toArray (NoPanic Q) (WP_ m w0 HS) (.take i r) a w:=by
 have hw:Region.wanted ⟨some t,op,ty,ps,af,some (j,want)⟩ (yielded lo.toArray a.tmps)=false:=by
  obtain ⟨oj,h1,h2⟩:=Option.bind_eq_some_iff.1 hj
  have h3:=(S.get _ _ hv).1
  simp only [Region.wanted,yielded,List.getElem?_toArray,h1,oB,h2,h3]
  generalize d.val=v at hb
  cases v
  case bool b =>
   have:b≠want:=fun e=>hb (by rw [e])
   cases b <;> cases want <;> simp_all
  all_goals rfl
 refine ⟨_,undef,(by simpa using hi), .inr ⟨hw,rfl⟩,K _ (S.put (d:= .u) ht tv) ⟨fun u e hd=>?_,C.le,C.fresh,C.base,C.apart,C.frzH,C.stay⟩⟩
 rw [fnd_cons] at hd
 by_cases hk:t=u
 ·rw [iP hk] at hd
  obtain rfl:=sI hd
  trivial
 ·rw [iN hk] at hd
  exact C.ok u e hd
def toQ (K:Act→World→Prop)(Q:Exit→Act→World→Prop):Exit→Act→World→Prop
 | .normal,a,w=>K a w
 | e,a,w=>Q e a w
theorem h_run' {lo:List Oper}{g:Option (Nat×Bool)}{i:Nat}{c:Bool}{r:Sch}{dst:Option Tmp}{op:Op}(S:St n m' w0 l H a w)(hi:lo[i]?=some ⟨dst,op,ty,ps,af,g⟩)(hgd:GdOK lo l g)
  (h:wpList P #[] (toQ (fun a' w'=>(c=true→C' w')∧wpH P lo.toArray (NoPanic Q) C' r a' w') (NoPanic Q)) [⟨dst,op,ty,ps,af,none⟩] a w):wpH P lo.toArray (NoPanic Q) C' (.alts (.run i c r .nil)) a w:=by
 refine ⟨?_,tv⟩
 unfold wpOp
 simp only [List.getElem?_toArray,hi]
 rw [iP (hgd.wanted S)]
 unfold wpList at h
 rw [iP (by simp [Region.wanted])] at h
 exact h
theorem h_alts {lo:List Oper}{s:Sch}(h:wpH P lo.toArray (NoPanic Q) C' s a w):wpH P lo.toArray (NoPanic Q) C' (.alts s) a w:=h
theorem h_nil {lo:List Oper}:wpH P lo.toArray (NoPanic Q) C' .nil a w:=trivial
theorem h_runO {lo:List Oper}{g:Option (Nat×Bool)}{i:Nat}{c:Bool}{r o:Sch}{dst:Option Tmp}{op:Op}(S:St n m' w0 l H a w)(hi:lo[i]?=some ⟨dst,op,ty,ps,af,g⟩)(hgd:GdOK lo l g)
  (h:wpList P #[] (toQ (fun a' w'=>(c=true→C' w')∧wpH P lo.toArray (NoPanic Q) C' r a' w') (NoPanic Q)) [⟨dst,op,ty,ps,af,none⟩] a w) (ho:wpH P lo.toArray (NoPanic Q) C' o a w):wpH P lo.toArray (NoPanic Q) C' (.run i c r o) a w :=
 ⟨(h_run' (Q:=Q) (c:=c) (r:=r) S hi hgd h).1,ho⟩
theorem h_back {K:Act→World→Prop}(h:K a w):wpList P #[] (toQ K (NoPanic Q)) [] a w:=h
theorem h_done {lo:List Oper}(h:Q .normal a w):wpH P lo.toArray (NoPanic Q) C' .done a w:=h
theorem h_skipR {lo:List Oper}{i:Nat}{c:Bool}{r:Sch}{dst:Option Tmp}{op:Op}{j:Nat}{want:Bool}{tj:Tmp}{d:D}(S:St n m' w0 l H a w)(hi:lo[i]?=some ⟨dst,op,ty,ps,af,some (j,want)⟩)
  (hj:(lo[j]?).bind (·.dst)=some tj) (hv:fnd l tj=some d) (hb:d.val ≠ .bool want)
  (h:wpList P #[] (toQ (fun a' w'=>(c=true→C' w')∧wpH P lo.toArray (NoPanic Q) C' r a' w') (NoPanic Q)) [] (a.put dst undef) w):wpH P lo.toArray (NoPanic Q) C' (.alts (.run i c r .nil)) a w:=by
 refine ⟨?_,tv⟩
 have hw:Region.wanted ⟨dst,op,ty,ps,af,some (j,want)⟩ (yielded lo.toArray a.tmps)=false:=by
  obtain ⟨oj,h1,h2⟩:=Option.bind_eq_some_iff.1 hj
  have h3:=(S.get _ _ hv).1
  simp only [Region.wanted,yielded,List.getElem?_toArray,h1,oB,h2,h3]
  generalize d.val=v at hb
  cases v
  case bool b =>
   have:b≠want:=fun e=>hb (by rw [e])
   cases b <;> cases want <;> simp_all
  all_goals rfl
 unfold wpOp
 simp only [List.getElem?_toArray,hi]
 rw [iN (by simp [hw])]
 exact h
theorem ne_bool {b want:Bool}(hb:b = !want):(D.v (.bool b)).val ≠ .bool want:=by subst hb; intro e; have:=Value.bool.inj e; cases want <;> cases this
theorem h_skipRt {lo:List Oper}{i:Nat}{c:Bool}{r:Sch}{op:Op}{j:Nat}{want:Bool}{tj:Tmp}{d:D}(S:St n m' w0 l H a w)(hi:lo[i]?=some ⟨some t,op,ty,ps,af,some (j,want)⟩)
  (hj:(lo[j]?).bind (·.dst)=some tj) (hv:fnd l tj=some d) (hb:d.val ≠ .bool want) (ht:Nat.blt t n=true)
  (K:∀ a',St n m' w0 ((t, .u)::l) H a' w→wpList P #[] (toQ (fun a' w'=>(c=true→C' w')∧wpH P lo.toArray (NoPanic Q) C' r a' w') (NoPanic Q)) [] a' w):wpH P lo.toArray (NoPanic Q) C' (.alts (.run i c r .nil)) a w :=
 h_skipR S hi hj hv hb (K _ (S.put (d:= .u) ht tv))
theorem c_heldS {id:Nat}{lo:List Oper}(S:St n m w0 l H a w)(s:Sch)(T:Nat)(HS:List Res)(hs:Sel H HS)(hst:StayL HS)(lq:List (Nat×D))(hl:subF l lq)(hm:P.follows .mixedOrders=true)
  (hB:(Region.noSelect lo.toArray&&(s.top&&s.ok lo.toArray T lo.length (Array.replicate lo.length false)))=true)
  (h:∀ w,St n m w0 l H a w→Cls m w0 lq HS→WP_ m w0 HS w→LeM m m→wpH P lo.toArray (NoPanic Q) (WP_ m w0 HS) s a w):(Code.region id lo.toArray true).wp P Q a w :=
 have S':=S.world (w':={ w with drawn:=w.drawn+1 }) ⟨rfl,rfl,rfl,Nat.le_refl _,fun _ _ _=>rfl⟩
 c_held s T hm hB (S'.wpc hs) (h _ S' ((S'.cls hs hst).drop hl) (S'.wpc hs) (LeM.refl m))
end
end GW
