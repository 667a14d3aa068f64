import Derived.Test.YtdajnflppnlhiaaGWKall
set_option linter.unusedVariables false
set_option linter.unusedSimpArgs false
namespace GW
open Go Go.RowKit
structure Rn where
 t:TypeId→TypeId
 f:FuncId→FuncId
def Rn.o (σ:Rn):Operand→Operand
 | .func f=> .func (σ.f f)
 | x=>x
def Rn.call (σ:Rn):Call→Call
 | ⟨.value f,xs,ts⟩=>⟨.value (σ.o f),xs,(ts.toList.map σ.t).toArray⟩
 | ⟨c,xs,ts⟩=>⟨c,xs,(ts.toList.map σ.t).toArray⟩
def Rn.op (σ:Rn):Op→Op
 | .load t x=> .load (σ.t t) x
 | .store t x y=> .store (σ.t t) x y
 | .alloc t=> .alloc (σ.t t)
 | .box t x=> .box (σ.t t) x
 | .binOp b s x y t=> .binOp b (σ.t s) x y (σ.t t)
 | .unOp u t x=> .unOp u (σ.t t) x
 | .convert s t x=> .convert (σ.t s) (σ.t t) x
 | .indexAddr t x y=> .indexAddr (σ.t t) x y
 | .fieldAddr t x f=> .fieldAddr (σ.t t) x f
 | .slice t x l h m=> .slice (σ.t t) x l h m
 | .call c=> .call (σ.call c)
 | o=>o
def Rn.oper (σ:Rn)(o:Oper):Oper:=⟨o.dst,σ.op o.op,σ.t o.type,o.pos,o.after,o.guard⟩
def Rn.code (σ:Rn):Code→Code
 | .region i l d=> .region i (l.toList.map σ.oper).toArray d
 | .seq a b=> .seq (σ.code a) (σ.code b)
 | .cond c a b=> .cond c (σ.code a) (σ.code b)
 | .block i a=> .block i (σ.code a)
 | .loop a=> .loop (σ.code a)
 | .scope a=> .scope (σ.code a)
 | c=>c
def bdy (fn:Func):Code:=fn.body.getD .skip
structure FnIs (P:Program)(f:FuncId)(c:Code)(fn0:Func):Prop where
 out:∃ fn,P.funcs[f]?=some fn∧fn.body=some c∧fn.ntmps=fn0.ntmps∧fn.results=fn0.results∧fn.name ≠ "runtime.NumGoroutine"
theorem FnIs.fn {P:Program}{f:FuncId}{c:Code}{fn0:Func}(h:FnIs P f c fn0):Fn_ P f:=by
 obtain ⟨fn,h1,h2,h3,h4,h5⟩:=h.out
 exact ⟨fn,h1,by rw [h2]; rfl,by simpa using h5⟩
section
variable {P:Program} {n:Nat} {m:Mem} {w0:Base} {l:List (Nat×D)} {H:List Res} {a:Act} {w:World}
theorem bodyPost_res {fn fn0:Func}(h:fn.results=fn0.results)(R:Ending→World→Prop):bodyPost P fn R=bodyPost P fn0 R:=by
 have e:results fn=results fn0:=by funext t; unfold results; rw [h]
 funext x a w
 cases x <;> simp only [bodyPost,e]
theorem c_enterG {f:FuncId}{c:Code}{fn0:Func}{R:Ending→World→Prop}(ds:List D){l:List (Nat×D)}{H:List Res}(h:FnIs P f c fn0)(hn:fn0.ntmps=n)(hle:Nat.ble ds.length n=true)
  (hl:numF 0 ds=l) (hok:okL m ds) (hm:Pre m H w) (K:∀ b0,BX m w H=b0→∀ a,St n m b0 l H a w→c.wp P (bodyPost P fn0 R) a w):Calls P f (ds.map D.val).toArray w R:=by
 obtain ⟨fn,h1,h2,h3,h4,h5⟩:=h.out
 refine c_enterX ds h1 h2 (h3.trans hn) hle hl hok hm fun b0 hb a S=>?_
 rw [bodyPost_res h4]
 exact K b0 hb a S
theorem s_stRW {ops:Array Oper}{Q:Exit→Act→World→Prop}{rest:List Oper}{ty:TypeId}{ps:String}{af:Array Edge}{α:Type} [Inhabited α] (S:St n m w0 l H a w){e ee:TypeId}{x y:Operand}{A:Option Addr}{g k cap o:Nat}{ty':Ty α}{xs:List α}{i:Int}{u:α}{cu:ty'.Ch}{H':List Res}(hx:evo l x=some (.v (.pointer (some ⟨g,o,none⟩))))(hy:evo l y=some (.agg (ty'.segs u cu)))(hA:A=some ⟨g,0,none⟩)
  (hf:Foc H (Res.row ty' ee A k cap xs) (Res.row ty' ee A k cap (xs.set i.toNat u)) H') (hT:tyI P e=some (true,ty'.size)) (h0:0≤i) (h1:i<xs.length) (ho:i.toNat*ty'.size=o)
  (K:∀ w',St n m w0 l H' a w'→wpList P ops Q rest a w'):wpList P ops Q (⟨none, .store e x y,ty,ps,af,none⟩::rest) a w:=by
 obtain ⟨d,hde⟩:∃ d:D,d = .agg (ty'.segs u cu):=⟨_,rfl⟩
 have hdS:d.segs=ty'.segs u cu:=by subst hde; rfl
 have hd:d.isTup=false:=by subst hde; rfl
 rw [← hde] at hy
 replace ho:i.toNat*ty'.size+0=o:=ho
 have hoz:0+ty'.size≤ty'.size:=by omega
 have hz:lenOf d.segs=ty'.size:=by rw [hdS,ty'.len]
 have hr:=S.holds _ hf.mem
 have hok:=evo_ok S hy
 subst hA
 have hk:xs.length=k:=hr.1
 obtain ⟨g',cur,cs,hA,_,c1,c2,c3,c4,c5,c6,c7⟩:=Res.row.at_ hr (by omega)
 obtain rfl:g=g':=by simpa using hA
 have hi:i.toNat<xs.length:=by omega
 have hi':i.toNat<cs.length:=by omega
 have hdl:(cellsOf d.segs).length=ty'.size:=by rw [len_cellsOf (D.ok_segs hok),hz]
 have hb:i.toNat*ty'.size+ty'.size≤k*ty'.size:=by
  have h3:(i.toNat+1)*ty'.size≤k*ty'.size:=Nat.mul_le_mul_right _ (by omega)
  rw [Nat.add_mul] at h3
  omega
 have hcap:k*ty'.size≤cap*ty'.size:=Nat.mul_le_mul_right _ c2
 have hcl:cur.toList.length=cap*ty'.size:=by simpa using c4
 obtain ⟨w',r1,r2,r3⟩:=run_storeCells (P:=P) g ee (fun _=>True) (cellsOf d.segs) o 0 w cur.toList (by simpa using c1) (by rw [hdl,hcl]; omega) (plain_cells (D.ok_segs hok))
 have hel:=(segsL_ok xs cs c5).1 c6 _ hi hi'
 have p2:okS m (ty'.segs u cu):=hdS ▸ D.ok_segs hok
 have hele:(cellsOf (ty'.segs xs[i.toNat] cs[i.toNat])).length=ty'.size:=by rw [len_cellsOf hel,ty'.len]
 have p1:cellsOf (ty'.segs u cu)=(cellsOf (ty'.segs xs[i.toNat] cs[i.toNat])).take 0++cellsOf d.segs++(cellsOf (ty'.segs xs[i.toNat] cs[i.toNat])).drop (0+ty'.size):=by
  rw [hdS,List.take_zero,List.nil_append,Nat.zero_add,List.drop_eq_nil_of_le (by omega),List.append_nil]
 obtain ⟨q1,q2⟩:=segsL_set xs cs c5 c6 i.toNat hi hi' u cu p2
 have hell:(cellsOf (ty'.segs xs[i.toNat] cs[i.toNat])).length=ty'.size:=by rw [len_cellsOf hel,ty'.len]
 have hall:(cellsOf (segsL ty' xs cs)).length=k*ty'.size:=by rw [segsL_len_mul xs cs c5 c6,hk]
 refine s_runu (w':=w') (m':=m) (H':=H') S ?_ (S.turn hf r3 ⟨by rw [List.length_set]; exact hk,cs.set i.toNat cu,by simp [c5],q2,?_, .inr ⟨g,cap,_,rfl,Nat.zero_le _,r2,c2,c3,?_,?_⟩⟩ (fun k hk=> .inl hk)) (K w')
 ·have hx':a.eval x = .pointer (some ⟨g,o,none⟩):=S.evo hx
  simp only [execOp,hx',S.evo hy]
  have hsz:(d.val.cells).size=ty'.size:=by rw [D.cells_val hok hd]; simpa using hdl
  have hcl:d.val.cells.toList=cellsOf d.segs:=by rw [D.cells_val hok hd]
  simp only [Instr.storeAt,Instr.sureAddr,storeVar,Sem.run_bind,Sem.run_pure,Result.andThen_ok,run_sizeI hT,hsz,ne_eq,not_true_eq_false,if_false,hcl,r1]
 ·rw [segsL_len_mul _ _ (by simp [c5]) q2,List.length_set,hk]
 ·simp only [List.size_toArray,List.length_append,List.length_take,List.length_drop,hdl,hcl]
  omega
 ·
  show List.take (k*ty'.size) (List.take (o+0) cur.toList++cellsOf d.segs++List.drop (o+0+(cellsOf d.segs).length) cur.toList)=_
  rw [q1,p1,hdl,Nat.add_zero, ← c7]
  have hcell:cellsOf (ty'.segs xs[i.toNat] cs[i.toNat])=(cur.toList.drop (i.toNat*ty'.size)).take ty'.size:=by
   apply List.ext_getElem?
   intro j
   rcases Nat.lt_or_ge j ty'.size with hj | hj
   ·rw [← segsL_cell xs cs c5 c6 i.toNat hi hi' j hj, ← c7,List.getElem?_take_of_lt (by omega),List.getElem?_take_of_lt hj,List.getElem?_drop]
   ·rw [List.getElem?_eq_none (by omega),List.getElem?_eq_none (by rw [List.length_take]; omega)]
  rw [hcell]
  have e1:(cur.toList.take (k*ty'.size)).take (i.toNat*ty'.size)=cur.toList.take (i.toNat*ty'.size):=by rw [List.take_take]; congr 1; omega
  rw [e1]
  exact cut_lemma cur.toList (cellsOf d.segs) ho hdl hoz hb (by omega)
end
end GW
