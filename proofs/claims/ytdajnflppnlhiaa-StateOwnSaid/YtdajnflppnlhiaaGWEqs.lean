import Derived.Test.YtdajnflppnlhiaaGWMore
import Derived.Laws.StructEq
set_option linter.unusedVariables false
set_option linter.unusedSimpArgs false
namespace GW
open Go Go.RowKit
def EqTy {α:Type} [DecidableEq α] (P:Program)(t:TypeId)(b:Bool)(ty:Ty α)(D:Nat):Prop :=
 (∃ z,tyI P t=some (b,z)∧z=ty.size)∧∀ (d:Nat) (w:World) (m m':Mem) (x y:α) (c c':ty.Ch),D≤d→okS m (ty.segs x c)→okS m' (ty.segs y c') →
  (Op.equalIn d t (pv (b,ty.segs x c)) (pv (b,ty.segs y c'))).run P w = .ok (decide (x=y)) w
theorem eqTy_arr {P:Program}{t e:TypeId}{k:IntKind}{n:Nat}(hu:P.underlying t=some (.array n e))(hi:P.underlying e=some (.int k))(hT:tyI P e=some (false,1))(hT':tyI P t=some (true,n)):EqTy P t true (Ty.arr k n) 3 :=
 ⟨⟨n,hT',rfl⟩,fun d w m m' x y c c' hd ox oy=>by
  obtain ⟨d,rfl⟩:∃ e,d=e+1+1:=⟨d - 2,by omega⟩
  obtain ⟨dd,i,hdd,hinf,hb,hz⟩:=tyI_some hT
  have hc:P.cellsOf e=1:=by simp [Program.cellsOf,hinf,hz]
  have e1:∀ (z:List Int),pv (true,(Ty.arr k n).segs z c) = .agg (nums k z).toArray:=fun z=>by simp [pv,Ty.arr,cellsOf,Seg.cells]
  have e2:∀ (z:List Int),pv (true,(Ty.arr k n).segs z c') = .agg (nums k z).toArray:=fun z=>by simp [pv,Ty.arr,cellsOf,Seg.cells]
  have hx:x.length=n:=ox.1
  have hy:y.length=n:=oy.1
  rw [e1,e2,run_equalIn_array w (d+1) _ _ hu hinf,hc,run_eqItems_ints hi hT d x y w _ (fun i hi=>by have:=List.mem_range.1 hi; omega),all_getD x y n hx hy]⟩
def EqF {α:Type} [DecidableEq α] (P:Program)(fs:List (String×Nat×TypeId))(off:Nat)(ty:Ty α)(D:Nat):Prop :=
 ∀ (d:Nat) (w:World) (m m':Mem) (x y:α) (c c':ty.Ch) (xs ys:Array Value) (L:List Field),D≤d→L.map (fun f=>(f.name,f.offset,f.type))=fs→okS m (ty.segs x c)→okS m' (ty.segs y c') →
  (xs.toList.drop off).take ty.size=cellsOf (ty.segs x c)→(ys.toList.drop off).take ty.size=cellsOf (ty.segs y c')→(Op.eqFields d xs ys L).run P w = .ok (decide (x=y)) w
theorem pv_one {m:Mem}{s:List Seg}(h:okS m s)(hl:lenOf s=1){v:Value}(hv:cellsOf s=[v])(hi:∀ k xs n,Seg.ints k xs n∉s):pv (false,s)=v:=by
 cases s with
 | nil=>simp [lenOf] at hl
 | cons z r =>
  cases z with
  | one u=>simp only [cellsOf,Seg.cells,List.cons_append,List.nil_append,List.cons.injEq] at hv; exact hv.1
  | sl A n cap R=>simp only [cellsOf,Seg.cells,List.cons_append,List.nil_append,List.cons.injEq] at hv; exact hv.1
  | rf u R=>simp only [cellsOf,Seg.cells,List.cons_append,List.nil_append,List.cons.injEq] at hv; exact hv.1
  | ints k xs n=>exact absurd List.mem_cons_self (hi k xs n)
def NoInts {α:Type}(b:Bool)(ty:Ty α):Prop:=b=false→∀ x c k xs n,Seg.ints k xs n∉ty.segs x c
theorem run_part {α:Type}{P:Program}{t:TypeId}{b:Bool}{ty:Ty α}(hT:tyI P t=some (b,ty.size))(hn:NoInts b ty){m:Mem}{x:α}{c:ty.Ch}(hok:okS m (ty.segs x c)){xs:Array Value}{off:Nat}(h:(xs.toList.drop off).take ty.size=cellsOf (ty.segs x c))(hb:b=false→ty.size=1)(w:World) :
  (part t xs off).run P w = .ok (pv (b,ty.segs x c)) w:=by
 cases b with
 | true =>
  simp only [part,Sem.run_bind,run_isAgg hT,Result.andThen_ok,if_true,run_sizeI hT,Sem.run_pure,pv]
  have e1:xs.extract off (off+ty.size)=(cellsOf (ty.segs x c)).toArray:=by
   apply Array.toList_inj.1
   rw [← h]
   simp [Array.toList_extract,List.extract_eq_take_drop]
  rw [e1]
 | false =>
  have h1:ty.size=1:=hb rfl
  have hl:(cellsOf (ty.segs x c)).length=1:=by rw [len_cellsOf hok,ty.len,h1]
  obtain ⟨v,hv⟩:∃ v,cellsOf (ty.segs x c)=[v]:=by
   match hcc:cellsOf (ty.segs x c),hl with
   | [v],_=>exact ⟨v,rfl⟩
  rw [h1,hv] at h
  have hx:xs[off]?=some v:=by
   have:((xs.toList.drop off).take 1)[0]?=some v:=by rw [h]; rfl
   rw [List.getElem?_take_of_lt (by omega),List.getElem?_drop] at this
   simpa using this
  simp only [part,Sem.run_bind,run_isAgg hT,Result.andThen_ok,Bool.false_eq_true,if_false,hx,Sem.run_pure,pv_one hok (by rw [ty.len,h1]) hv (hn rfl x c)]
theorem eqF_one {α:Type} [DecidableEq α] {P:Program}{t:TypeId}{off D:Nat}{nm:String}{b:Bool}{ty:Ty α}(h:EqTy P t b ty D)(hnm:nm ≠ "_")(hn:NoInts b ty)(hb:b=false→ty.size=1):EqF P [(nm,off,t)] off ty D:=fun d w m m' x y c c' xs ys L hd hL ox oy hx hy=>by
 obtain ⟨⟨z,hT,rfl⟩,heq⟩:=h
 match L,hL with
 | [f],hL =>
  simp only [List.map_cons,List.map_nil,List.cons.injEq,Prod.mk.injEq,and_true] at hL
  obtain ⟨rfl,rfl,rfl⟩:=hL
  simp only [Op.eqFields,Sem.run_bind,Sem.run_ite,iP hnm,run_part hT hn ox hx hb w,run_part hT hn oy hy hb w,Result.andThen_ok,heq d w m m' x y c c' hd ox oy]
  cases hd2:decide (x=y) <;> simp [Sem.run_pure]
theorem eqF_cons {α β:Type} [DecidableEq α] [DecidableEq β] {P:Program}{t:TypeId}{fs:List (String×Nat×TypeId)}{off off' D:Nat}{nm:String}{b:Bool}{ty:Ty α}{tr:Ty β}(h:EqTy P t b ty D)(hnm:nm ≠ "_")(hn:NoInts b ty)(hb:b=false→ty.size=1)(ho:off+ty.size=off')(k:EqF P fs off' tr D):EqF P ((nm,off,t)::fs) off (Ty.prod ty tr) D:=fun d w m m' x y c c' xs ys L hd hL ox oy hx hy=>by
 obtain ⟨⟨z,hT,rfl⟩,heq⟩:=h
 subst ho
 match L,hL with
 | f::L,hL =>
  simp only [List.map_cons,List.cons.injEq,Prod.mk.injEq] at hL
  obtain ⟨⟨rfl,rfl,rfl⟩,hL2⟩:=hL
  have ox':okS m (ty.segs x.1 c.1)∧okS m (tr.segs x.2 c.2):=okS_append.1 ox
  have oy':okS m' (ty.segs y.1 c'.1)∧okS m' (tr.segs y.2 c'.2):=okS_append.1 oy
  have cut:∀ (zs:Array Value) (m:Mem) (x:α×β) (c:ty.Ch×tr.Ch),okS m (ty.segs x.1 c.1)→(zs.toList.drop f.offset).take (ty.size+tr.size)=cellsOf (ty.segs x.1 c.1++tr.segs x.2 c.2)→(zs.toList.drop f.offset).take ty.size=cellsOf (ty.segs x.1 c.1)∧(zs.toList.drop (f.offset+ty.size)).take tr.size=cellsOf (tr.segs x.2 c.2):=fun zs m x c ho he=>by
   have hl:(cellsOf (ty.segs x.1 c.1)).length=ty.size:=by rw [len_cellsOf ho,ty.len]
   rw [cellsOf_append] at he
   constructor
   ·have:=congrArg (List.take ty.size) he
    rw [List.take_take,Nat.min_eq_left (by omega)] at this
    rw [this, ← hl,List.take_left]
   ·have:=congrArg (List.drop ty.size) he
    rw [List.drop_take,List.drop_drop,Nat.add_sub_cancel_left] at this
    rw [this, ← hl,List.drop_left]
  obtain ⟨x1,x2⟩:=cut xs m x c ox'.1 hx
  obtain ⟨y1,y2⟩:=cut ys m' y c' oy'.1 hy
  have ih:=k d w m m' x.2 y.2 c.2 c'.2 xs ys L hd hL2 ox'.2 oy'.2 x2 y2
  simp only [Op.eqFields,Sem.run_bind,Sem.run_ite,iP hnm,run_part hT hn ox'.1 x1 hb w,run_part hT hn oy'.1 y1 hb w,Result.andThen_ok,heq d w m m' x.1 y.1 c.1 c'.1 hd ox'.1 oy'.1]
  obtain ⟨xa,xb⟩:=x
  obtain ⟨ya,yb⟩:=y
  by_cases h1:xa=ya
  ·subst h1
   simp only [decide_true,Bool.not_true,Bool.false_eq_true,if_false]
   rw [ih]
   congr 1
   simp
  ·rw [dF h1]
   simp [Sem.run_pure,h1]
theorem eqTy_struct {α:Type} [DecidableEq α] {P:Program}{t:TypeId}{D:Nat}{ty:Ty α}{fs:List (String×Nat×TypeId)}(hu:P.underlying t=some (.struct (P.fieldsOf t)))(hp:P.stoodInHeld t=false)(hT:tyI P t=some (true,ty.size))(hl:(P.fieldsOf t).toList.map (fun f=>(f.name,f.offset,f.type))=fs)(h:EqF P fs 0 ty D):EqTy P t true ty (D+1) :=
 ⟨⟨_,hT,rfl⟩,fun d w m m' x y c c' hd ox oy=>by
  obtain ⟨d,rfl⟩:∃ e,d=e+1:=⟨d - 1,by omega⟩
  show (Op.equalIn (d+1) t (.agg _) (.agg _)).run P w=_
  rw [run_equalIn_struct w d t _ _ hu hp]
  refine h d w m m' x y c c' _ _ _ (by omega) hl ox oy ?_ ?_
  ·have:(cellsOf (ty.segs x c)).length=ty.size:=by rw [len_cellsOf ox,ty.len]
   rw [List.drop_zero, ← this,List.take_length]
  ·have:(cellsOf (ty.segs y c')).length=ty.size:=by rw [len_cellsOf oy,ty.len]
   rw [List.drop_zero, ← this,List.take_length]⟩
theorem EqTy.mono {α:Type} [DecidableEq α] {P:Program}{t:TypeId}{b:Bool}{ty:Ty α}{D D':Nat}(h:EqTy P t b ty D)(hd:D≤D'):EqTy P t b ty D':=⟨h.1,fun d w m m' x y c c' h1=>h.2 d w m m' x y c c' (by omega)⟩
theorem noints_agg {α:Type}{ty:Ty α}:NoInts true ty:=fun h=>by cases h
section
variable {P:Program} {n:Nat} {m:Mem} {w0:Base} {l:List (Nat×D)} {H:List Res} {a:Act} {w:World}
variable {ops:Array Oper} {Q:Exit→Act→World→Prop} {rest:List Oper} {ty:TypeId} {ps:String} {af:Array Edge} {t:Nat}
theorem s_neS {α:Type} [DecidableEq α] (S:St n m w0 l H a w){xt yt:TypeId}{x y:Operand}{ty':Ty α}{D':Nat}{p q:α}(c c':ty'.Ch)(hx:evo l x=some (.agg (ty'.segs p c)))(hy:evo l y=some (.agg (ty'.segs q c')))(hE:EqTy P xt true ty' D')(hD:Nat.ble D' 10000=true)(hG:P.eqGuardType P.depth xt=false)(ht:Nat.blt t n=true)
  (K:∀ a',St n m w0 ((t, .v (.bool (!decide (p=q))))::l) H a' w→wpList P ops Q rest a' w):wpList P ops Q (⟨some t, .binOp .neq xt x y yt,ty,ps,af,none⟩::rest) a w :=
 s_run (dv:= .v (.bool (!decide (p=q)))) S ht rfl (by
  have ox:=evo_ok S hx
  have oy:=evo_ok S hy
  simp only [execOp,S.evo hx,S.evo hy,D.val]
  have:=hE.2 10000 w m m p q c c' (Nat.le_of_ble_eq_true hD) ox oy
  simp only [pv] at this
  simp only [Sem.run_bind,run_eqGuard_agg hG,Result.andThen_ok,run_neq_struct,this,Sem.run_pure]) K
end
end GW
