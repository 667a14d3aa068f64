import Derived.Test.YtdajnflppnlhiaaGWLQui
import Derived.Laws.Pointers
import Derived.WalkSpells
set_option linter.unusedVariables false
set_option linter.unusedSimpArgs false
namespace GW
open Go Go.RowKit
def exOf (H:List Res):Nat→Prop:=fun b=>∃ r∈H,r.blk b
def Apart (H:List Res):Prop:=H.Pairwise (fun r s=>∀ k,r.blk k→¬ s.blk k)
structure Pre (m:Mem)(H:List Res)(w:World):Prop where
 holds:∀ r∈H,r.holds m w
 apart:Apart H
 frz:Frz m w
 frzH:∀ r∈H,∀ p v,m p=some v→¬ r.blk p.block
structure Post (m:Mem)(w0:Base)(H:List Res)(w:World):Prop where
 below:Bel w0.ex w0.w w
 le:LeM w0.m m
 fresh:∀ p v,m p=some v→(∃ u,w0.m p=some u)∨w0.w.heap.size≤p.block∨w0.ex p.block
 holds:∀ r∈H,r.holds m w
 base:∀ r∈H,∀ k,r.blk k→w0.w.heap.size≤k∨w0.ex k
 apart:Apart H
 frz:Frz m w
 frzH:∀ r∈H,∀ p v,m p=some v→¬ r.blk p.block
def BX (m:Mem)(w:World)(H:List Res):Base:=⟨m,w,exOf H⟩
def RetX {Ch:Type}(m:Mem)(H0:List Res)(d:Ch→D)(Ho:Ch→List Res)(w:World):Ending→World→Prop:=fun e w' =>
 ∃ (c:Ch) (m':Mem),e = .returned (d c).val∧(d c).ok m'∧Post m' (BX m w H0) (Ho c) w'
theorem Pre.nil {m:Mem}{w:World}(h:Frz m w):Pre m [] w:=⟨fun r hr=>(by cases hr),List.Pairwise.nil,h,fun r hr=>(by cases hr)⟩
theorem Bel.below' {w w':World}(h:Bel (exOf []) w w'):Below w.heap.size w w' :=
 ⟨h.os,h.tape,h.output,h.size,fun k hk=>h.block k hk (fun ⟨r,hr,_⟩=>by cases hr)⟩
theorem RetX.ret {Ch:Type}{m:Mem}{d:Ch→D}{Ho:Ch→List Res}{w:World}{e:Ending}{w':World}(h:RetX m [] d Ho w e w'):∃ c,e = .returned (d c).val∧Below w.heap.size w w':=by
 obtain ⟨c,m',h1,h2,h3⟩:=h
 exact ⟨c,h1,h3.below.below'⟩
theorem Apart.append {A B:List Res}(ha:Apart A)(hb:Apart B)(hc:∀ r∈A,∀ s∈B,∀ k,r.blk k→¬ s.blk k):Apart (A++B):=List.pairwise_append.2 ⟨ha,hb,hc⟩
theorem Apart.parts {A B:List Res}(h:Apart (A++B)):Apart A∧Apart B∧∀ r∈A,∀ s∈B,∀ k,r.blk k→¬ s.blk k:=List.pairwise_append.1 h
section
variable {P:Program} {n:Nat} {m:Mem} {w0:Base} {l:List (Nat×D)} {H:List Res} {a:Act} {w:World}
theorem St.post (S:St n m w0 l H a w):Post m w0 H w:=⟨S.below,S.le,S.fresh,S.holds,S.base,S.apart,S.frz,S.frzH⟩
theorem St.pre (S:St n m w0 l H a w){H':List Res}(hs:Sel H H'):Pre m H' w :=
 ⟨fun r hr=>S.holds r (hs.mem r hr),hs.apart S.apart,S.frz,fun r hr=>S.frzH r (hs.mem r hr)⟩
theorem St.afterX (S:St n m w0 l H a w){m':Mem}{w':World}{Hin Hr Ho:List Res}(hs:Sel H (Hin++Hr))(p:Post m' (BX m w Hin) Ho w'):St n m' w0 l (Ho++Hr) a w':=by
 have hap:=Apart.parts (hs.apart S.apart)
 have hin:∀ r∈Hin,r∈H:=fun r hr=>hs.mem r (List.mem_append_left _ hr)
 have hrm:∀ r∈Hr,r∈H:=fun r hr=>hs.mem r (List.mem_append_right _ hr)
 have hxb:∀ i,exOf Hin i→w0.w.heap.size≤i∨w0.ex i:=fun i ⟨r,hr,hk⟩=>S.base r (hin r hr) i hk
 have hchain:∀ i,w.heap.size≤i∨exOf Hin i→w0.w.heap.size≤i∨w0.ex i:=fun i hi=>by
  rcases hi with h | h
  ·exact .inl (Nat.le_trans S.below.size h)
  ·exact hxb i h
 have hnot:∀ s∈Hr,∀ k,s.blk k→¬ (w.heap.size≤k∨exOf Hin k):=fun s hs' k hk hi=>by
  rcases hi with h | ⟨r,hr,hrk⟩
  ·have:=s.lt m w (S.holds s (hrm s hs')) k hk
   omega
  ·exact hap.2.2 r hr s hs' k hrk hk
 refine ⟨S.size,S.defers,fun t d h=>⟨(S.get t d h).1,D.ok_mono p.le (S.get t d h).2⟩,S.below.trans p.below hxb,S.le.trans p.le,fun q v hv=>?_,fun r hr=>?_,fun r hr k hk=>?_,?_,p.frz,fun r hr q v hv hbp=>?_⟩
 ·rcases p.fresh q v hv with ⟨u,hu⟩ | h
  ·exact S.fresh q u hu
  ·exact .inr (hchain _ h)
 ·rcases List.mem_append.1 hr with hr | hr
  ·exact p.holds r hr
  ·refine r.mono m m' w' p.le (r.frame m w w' (fun k hk=>?_) (S.holds r (hrm r hr)))
   exact p.below.block k (r.lt m w (S.holds r (hrm r hr)) k hk) (fun hx=>hnot r hr k hk (.inr hx))
 ·rcases List.mem_append.1 hr with hr | hr
  ·exact hchain k (p.base r hr k hk)
  ·exact S.base r (hrm r hr) k hk
 ·exact Apart.append p.apart hap.2.1 (fun r hr s hs' k hk hsk=>hnot s hs' k hsk (p.base r hr k hk))
 ·rcases List.mem_append.1 hr with hr | hr
  ·exact p.frzH r hr q v hv hbp
  ·rcases p.fresh q v hv with ⟨u,hu⟩ | h
   ·exact S.frzH r (hrm r hr) q u hu hbp
   ·exact hnot r hr _ hbp h
theorem c_enterX {f:FuncId}{fn:Func}{c:Code}{R:Ending→World→Prop}(ds:List D){l:List (Nat×D)}{H:List Res}(hf:P.funcs[f]?=some fn)(hb:fn.body=some c)(hn:fn.ntmps=n)(hle:Nat.ble ds.length n=true)
  (hl:numF 0 ds=l) (hok:okL m ds) (hm:Pre m H w) (K:∀ b0,BX m w H=b0→∀ a,St n m b0 l H a w→c.wp P (bodyPost P fn R) a w):Calls P f (ds.map D.val).toArray w R:=by
 refine calls_of_wp hf hb (K _ rfl _ ⟨?_,rfl,?_,Bel.refl _ _,LeM.refl m,fun p v hv=> .inl ⟨v,hv⟩,hm.holds,fun r hr k hk=> .inr ⟨r,hr,hk⟩,hm.apart,hm.frz,hm.frzH⟩)
 ·have:=Nat.le_of_ble_eq_true hle
  simp [hn]
  omega
 ·intro t d h
  rw [← hl] at h
  obtain ⟨j,rfl,hj⟩:=numF_get ds 0 t d h
  have hjl:j<ds.length:=(List.getElem?_eq_some_iff.1 hj).1
  refine ⟨?_,okL_all.1 hok d (List.mem_of_getElem? hj)⟩
  rw [Nat.zero_add,Array.getElem?_append_left (by simpa using hjl)]
  simp [hj]
theorem St.retX {Ch:Type}(S:St n m w0 l H a w){m0:Mem}{w1:World}{H0 Hx:List Res}(hb:BX m0 w1 H0=w0)(d:Ch→D)(Ho:Ch→List Res)(c:Ch)(hs:Sel H (Ho c))(hd:(d c).ok m):RetX m0 H0 d Ho w1 (.returned (d c).val) w:=by
 subst hb
 exact ⟨c,m,rfl,hd,(S.sub (l':=[]) tv hs).post⟩
variable {ops:Array Oper} {Q:Exit→Act→World→Prop} {rest:List Oper} {ty:TypeId} {ps:String} {af:Array Edge} {t:Nat}
theorem s_callX {Ch:Type}(S:St n m w0 l H a w){f:FuncId}{cl:Operand}{xs:List Operand}{ts:Array TypeId}{ds' ds:List D}(Hin Hr:List Res)(d:Ch→D)(Ho Hn:Ch→List Res)(hn:∀ c,Ho c++Hr=Hn c)(hf:Fn_ P f)(hx:evos l xs=some ds')(hv:ds'.map D.val=ds.map D.val)(hk:okL m ds'→okL m ds)(hs:Sel H (Hin++Hr))(ht:Nat.blt t n=true)
  (hc:okL m ds→Pre m Hin w→Calls P f (ds.map D.val).toArray w (RetX m Hin d Ho w))
  (K:∀ c m' (_:LeM m m') a' w',St n m' w0 ((t,d c)::l) (Hn c) a' w'→wpList P ops Q rest a' w') (hcl:evo l cl=some (.v (.func (.func f) #[] #[])):=by rfl):wpList P ops Q (⟨some t, .call ⟨.value cl,xs.toArray,ts⟩,ty,ps,af,none⟩::rest) a w :=
 wpList_plain rfl fun K' hK=>by
  have S1:=S.sub (l':=[]) tv hs
  have hsl:Sel (Hin++Hr) Hin:=by
   clear S1 hc K hs
   induction Hin with
   | nil=>exact .nil
   | cons r T ih=>exact .cons .here ih
  unfold Oper.wp
  rw [run_callO hf a.eval _ cl xs ts rfl (S.evo hcl),(S.evos hx).1,Oper.upon_enter,hv]
  refine (hc (hk (okL_all.2 (S.evos hx).2)) (S1.pre hsl)).mono fun e w' ⟨c,m',he,hdk,hp⟩=>?_
  subst he
  exact hK _ _ (K _ _ hp.le _ _ ((hn c ▸ S.afterX hs hp).put ht hdk))
theorem Sel.refl:∀ (H:List Res),Sel H H
 | []=> .nil
 | _::H=> .cons .here (Sel.refl H)
theorem s_eqp (S:St n m w0 l H a w){xt yt e:TypeId}{x y:Operand}{p:Option Addr}{b:Bool}(hx:evo l x=some (.v (.pointer p)))(hy:evo l y=some (.v (.pointer none)))(hu:P.underlying xt=some (.pointer e))(hb:p.isNone=b)(ht:Nat.blt t n=true)
  (K:∀ a',St n m w0 ((t, .v (.bool b))::l) H a' w→wpList P ops Q rest a' w):wpList P ops Q (⟨some t, .binOp .eql xt x y yt,ty,ps,af,none⟩::rest) a w :=
 s_run (dv:= .v (.bool b)) S ht rfl (by
  have hx':a.eval x = .pointer p:=S.evo hx
  have hy':a.eval y = .pointer none:=S.evo hy
  have hp:P.underlying xt=some (.pointer (P.pointee xt)):=by rw [Program.pointee,hu]
  subst hb
  simp only [execOp,hx',hy']
  simp [eqGuard_at_pointer,run_eql_pointer_nil w xt p hp,D.val]) K
end
end GW
