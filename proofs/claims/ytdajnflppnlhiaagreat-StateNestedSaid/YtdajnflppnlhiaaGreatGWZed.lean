import Derived.Test.YtdajnflppnlhiaaGreatGWIfc
set_option linter.unusedVariables false
set_option linter.unusedSimpArgs false
namespace GW
open Go Go.RowKit
def Res.priv (Z:Mem):Res where
 blk:=fun k=>∃ p v,Z p=some v∧p.block=k
 holds m w:=∀ p v,Z p=some v→p.spot=none∧∃ cur t,w.heap[p.block]?=some (.cells cur t (0,0))∧cur[p.off]?=some v
 frame m w w' h hh:=fun p v hv=>by
  obtain ⟨h1,cur,t,h2,h3⟩:=hh p v hv
  exact ⟨h1,cur,t,(h _ ⟨p,v,hv,rfl⟩).trans h2,h3⟩
 mono m m' w h hh:=hh
 lt m w hh k hk:=by
  obtain ⟨p,v,hv,rfl⟩:=hk
  obtain ⟨_,cur,t,h2,_⟩:=hh p v hv
  exact (Array.getElem?_eq_some_iff.1 h2).1
theorem Res.priv.cell {Z m:Mem}{w:World}(h:(Res.priv Z).holds m w){p:Addr}{v:Value}(hv:Z p=some v):cellM w p=some v:=by
 obtain ⟨h1,cur,t,h2,h3⟩:=h p v hv
 refine cellM_of ?_
 obtain ⟨b,o,sp⟩:=p
 obtain rfl:sp=none:=h1
 rw [cell_of_row w _ _ cur t (0,0) h2]
 exact h3
section
variable {P:Program} {n:Nat} {m:Mem} {w0:Base} {l:List (Nat×D)} {H:List Res} {a:Act} {w:World}
theorem St.into (S:St n m w0 l H a w){r s s':Res}{H1 H':List Res}(hp:Pull H r H1)(hf:Foc H1 s s' H')(hs:s'.holds m w)(hb:∀ k,s'.blk k→r.blk k∨s.blk k):St n m w0 l H' a w:=by
 have hap:=hp.apart S.apart
 have h1:∀ x∈H1,x.holds m w:=fun x hx=>S.holds x (hp.mem.2 x hx)
 have hsm:s∈H:=hp.mem.2 s hf.mem
 have hof:∀ x∈H',x=s'∨x∈H1:=hf.of
 refine ⟨S.size,S.defers,S.get,S.below,S.le,S.fresh,fun x hx=>?_,fun x hx k hk=>?_,?_,S.frz,fun x hx p v hv hk=>?_⟩
 ·rcases hof x hx with rfl | hx
  ·exact hs
  ·exact h1 x hx
 ·rcases hof x hx with rfl | hx
  ·rcases hb k hk with h | h
   ·exact S.base r hp.mem.1 k h
   ·exact S.base s hsm k h
  ·exact S.base x (hp.mem.2 x hx) k hk
 ·clear hs h1 hof S
  have hA:=hap.1
  have hB:=hap.2
  clear hap hsm hp
  induction hf with
  | @here T s s' =>
   have h2:=List.pairwise_cons.1 hB
   refine List.pairwise_cons.2 ⟨fun x hx k hk hxk=>?_,h2.2⟩
   rcases hb k hk with h | h
   ·exact hA x (List.mem_cons_of_mem _ hx) k h hxk
   ·exact h2.1 x hx k h hxk
  | @there y T T' s s' hf ih =>
   have h2:=List.pairwise_cons.1 hB
   refine List.pairwise_cons.2 ⟨fun x hx k hk hxk=>?_,ih hb (fun x hx=>hA x (List.mem_cons_of_mem _ hx)) h2.2⟩
   rcases hf.of x hx with rfl | hx
   ·rcases hb k hxk with h | h
    ·exact hA y List.mem_cons_self k h hk
    ·exact h2.1 s hf.mem k hk h
   ·exact h2.1 x hx k hk hxk
 ·rcases hof x hx with rfl | hx
  ·rcases hb _ hk with h | h
   ·exact S.frzH r hp.mem.1 p v hv h
   ·exact S.frzH s hsm p v hv h
  ·exact S.frzH x (hp.mem.2 x hx) p v hv hk
variable {ops:Array Oper} {Q:Exit→Act→World→Prop} {rest:List Oper} {ty:TypeId} {ps:String} {af:Array Edge} {t:Nat}
def flatHo:List Res→Prop
 | []=>True
 | r::l=>(∀ (m m':Mem) (w:World),r.holds m w→r.holds m' w)∧flatHo l
theorem flatHo.mem:∀ {l:List Res},flatHo l→∀ r∈l,∀ (m m':Mem) (w:World),r.holds m w→r.holds m' w
 | [],_,r,hr=>by cases hr
 | x::l,h,r,hr=>by
  rcases List.mem_cons.1 hr with rfl | hr
  ·exact h.1
  ·exact flatHo.mem h.2 r hr
end
end GW
