import Derived.Test.YtdajnflppnlhiaaGWOwn
import Derived.Laws.BytesString
set_option linter.unusedVariables false
set_option linter.unusedSimpArgs false
namespace GW
open Go Go.RowKit
theorem foldl_set_cells (off:Nat):∀ (v:List Value) (k:Nat) (cs:Array Value),off+k+v.length≤cs.size →
  ((v.zipIdx k).foldl (fun cs (x:Value×Nat)=>cs.setIfInBounds (off+x.2) x.1) cs).toList=cs.toList.take (off+k)++v++cs.toList.drop (off+k+v.length)
 | [],k,cs,h=>by simp
 | c::v,k,cs,h=>by
  simp only [List.length_cons] at h
  rw [List.zipIdx_cons,List.foldl_cons,foldl_set_cells off v (k+1) _ (by simp; omega)]
  simp only [Array.toList_setIfInBounds]
  have hl:off+k<cs.toList.length:=by simp; omega
  have e1:(cs.toList.set (off+k) c).take (off+(k+1))=cs.toList.take (off+k)++[c]:=by
   rw [show off+(k+1)=(off+k)+1 by omega,List.take_succ_eq_append_getElem (by simpa using hl)]
   simp [List.take_set_of_le]
  have e2:(cs.toList.set (off+k) c).drop (off+(k+1)+v.length)=cs.toList.drop (off+k+(v.length+1)):=by
   rw [List.drop_set_of_lt (by omega)]
   congr 1
   omega
  rw [e1,e2]
  simp
def fillS (place:Nat→Option (Nat×Nat)):List Seg→List (Nat×D)→Option (List Seg)
 | s,[]=>some s
 | s,(i,d)::r=>match place i with
  | none=>none
  | some (off,z)=>bif Nat.beq (lenOf d.segs) z && !d.isTup then (putS s off z d.segs).bind fun s'=>fillS place s' r else none
theorem putS_len {m:Mem}{s s' new:List Seg}{o z:Nat}(hok:okS m s)(h:putS s o z new=some s'):o+z≤(cellsOf s).length:=by
 obtain ⟨p,hp,h⟩:=Option.bind_eq_some_iff.1 h
 obtain ⟨q,hq,rfl⟩:=Option.map_eq_some_iff.1 h
 have key:∀ (s q:List Seg) (u:Nat),okS m s→dropS s u=some q→u≤(cellsOf s).length:=by
  intro s
  induction s with
  | nil=>intro q u _ h; cases u with
   | zero=>simp
   | succ u=>simp [dropS] at h
  | cons x r ih=>intro q u hok h; cases u with
   | zero=>simp
   | succ u =>
    have h':(bif Nat.ble x.len (u+1) then dropS r (u+1 - x.len) else none)=some q:=h
    cases hb:Nat.ble x.len (u+1) with
    | false=>rw [hb] at h'; cases h'
    | true =>
     rw [hb] at h'
     have:=ih q _ hok.2 h'
     have:=Nat.ble_eq.mp hb
     rw [cellsOf,List.length_append,Seg.len_cells hok.1]
     omega
 exact key s q (o+z) hok hq
theorem fillS_run {m:Mem}(place:Nat→Option (Nat×Nat)):∀ (parts:List (Nat×D)) (s s':List Seg),okS m s→(∀ p∈parts,p.2.ok m)→fillS place s parts=some s' →
  Instr.fill place (cellsOf s).toArray (parts.map fun p=>(p.1,p.2.val))=some (cellsOf s').toArray∧okS m s'
 | [],s,s',hok,_,h=>by obtain rfl:=sI h; exact ⟨rfl,hok⟩
 | (i,d)::r,s,s',hok,hp,h=>by
  simp only [fillS] at h
  cases hpl:place i with
  | none=>rw [hpl] at h; cases h
  | some oz =>
   obtain ⟨off,z⟩:=oz
   rw [hpl] at h
   simp only at h
   cases hb:(Nat.beq (lenOf d.segs) z && !d.isTup) with
   | false=>rw [hb] at h; cases h
   | true =>
    rw [hb] at h
    simp only [Bool.and_eq_true,Bool.not_eq_true',Nat.beq_eq] at hb
    obtain ⟨s1,h1,h2⟩:=Option.bind_eq_some_iff.1 (show (putS s off z d.segs).bind (fun s'=>fillS place s' r)=some s' from h)
    have hd:=hp _ List.mem_cons_self
    obtain ⟨c1,c2⟩:=putS_cells hok (D.ok_segs hd) hb.1 h1
    obtain ⟨ih1,ih2⟩:=fillS_run place r s1 s' c2 (fun p hp'=>hp p (List.mem_cons_of_mem _ hp')) h2
    have hcs:d.val.cells=(cellsOf d.segs).toArray:=D.cells_val hd hb.2
    have hcl:(cellsOf d.segs).length=z:=by rw [len_cellsOf (D.ok_segs hd),hb.1]
    have hle:=putS_len hok h1
    refine ⟨?_,ih2⟩
    simp only [List.map_cons,Instr.fill,hpl,hcs,List.size_toArray,hcl]
    have h3:¬ ((decide (z≠z)||decide (off+z>(cellsOf s).length))=true):=by simp; omega
    rw [iN h3, ← ih1]
    congr 1
    apply Array.toList_inj.1
    have:=foldl_set_cells off (cellsOf d.segs) 0 (cellsOf s).toArray (by simp; omega)
    simp only [Nat.add_zero] at this
    rw [c1, ← hcl, ← Array.foldl_toList,Array.toList_zipIdx]
    exact this
section
variable {P:Program} {n:Nat} {m:Mem} {w0:Base} {l:List (Nat×D)} {H:List Res} {a:Act} {w:World}
variable {ops:Array Oper} {Q:Exit→Act→World→Prop} {rest:List Oper} {ty:TypeId} {ps:String} {af:Array Edge} {t:Nat}
theorem evop_ok (S:St n m w0 l H a w){xs:List (Nat×Operand)}{ds:List (Nat×D)}(h:evop l xs=some ds):∀ p∈ds,p.2.ok m:=by
 induction xs generalizing ds with
 | nil=>obtain rfl:([]:List (Nat×D))=ds:=sI h; intro p hp; cases hp
 | cons x r ih =>
  obtain ⟨i,x⟩:=x
  obtain ⟨d,hd,h⟩:=Option.bind_eq_some_iff.1 h
  obtain ⟨es,he,rfl⟩:=Option.map_eq_some_iff.1 h
  intro p hp
  rcases List.mem_cons.1 hp with rfl | hp
  ·exact evo_ok S hd
  ·exact ih he p hp
theorem s_bldS (S:St n m w0 l H a w){e:TypeId}{xs:List (Nat×Operand)}{ds:List (Nat×D)}{fs:Array Field}{pl:Array (Nat×Nat)}{zs s':List Seg}(hx:evop l xs=some ds)(hu:P.underlying e=some (.struct fs))
  (hM:∀ w:World,(fs.mapM fun f=>(do pure (f.offset, ← Go.sizeOf f.type):Sem (Nat×Nat))).run P w = .ok pl w) (hZ:zeroI P e=some (D.val (.agg zs))) (hz:okS m zs) (hF:fillS (pl[·]?) zs ds=some s') (ht:Nat.blt t n=true)
  (K:∀ a',St n m w0 ((t, .agg s')::l) H a' w→wpList P ops Q rest a' w):wpList P ops Q (⟨some t, .build e xs.toArray,ty,ps,af,none⟩::rest) a w:=by
 obtain ⟨f1,f2⟩:=fillS_run _ ds zs s' hz (evop_ok S hx) hF
 refine s_run (dv:= .agg s') S ht f2 ?_ K
 have he:=S.evop hx
 have h2:(xs.map fun x=>match x with | (i,x)=>(i,a.eval x))=ds.map (fun p=>(p.1,p.2.val)):=by rw [← he]
 simp only [execOp,List.map_toArray,h2,Instr.build,Sem.run_bind,run_zeroI hZ,run_underlying hu,Result.andThen_ok,hM]
 have hc:(D.val (.agg zs)).cells=(cellsOf zs).toArray:=rfl
 rw [hc,f1]
 rfl
theorem s_bldSl {α:Type}(S:St n m w0 l H a w){tt e:TypeId}{k bytes:Nat}{xs:List (Nat×Operand)}{ds:List (Nat×D)}{ty':Ty α}{z:α}{c0:ty'.Ch}{vz:Value}{ys:List α}{cs:List ty'.Ch}(hx:evop l xs=some ds)(hu:P.underlying tt=some (.slice e))(hI:appI P e=some (ty'.size,bytes))
  (hz:zeroI P e=some vz) (hzc:vz.cells.toList=cellsOf (ty'.segs z c0)) (hzok:okS m (ty'.segs z c0)) (hlen:ys.length=k) (hcs:cs.length=ys.length) (hsm:Nat.ble (k*ty'.size) 16777216=true) (hmax:Nat.ble k maxLen=true)
  (hF:fillS (fun i=>some (i*ty'.size,ty'.size)) (segsL ty' (List.replicate k z) (List.replicate k c0)) ds=some (segsL ty' ys cs)) (ht:Nat.blt t n=true)
  (K:∀ g a' w',St n m w0 ((t, .v (.slice (some ⟨g,0,none⟩) k k))::l) (Res.row ty' e (some ⟨g,0,none⟩) k k ys::H) a' w'→wpList P ops Q rest a' w'):wpList P ops Q (⟨some t, .buildSlice tt k xs.toArray,ty,ps,af,none⟩::rest) a w:=by
 obtain ⟨inf,zv,i1,i2,i3,i4,i5,i6,i7⟩:=appI_some hI
 obtain rfl:zv=vz:=by
  unfold zeroI at hz
  rw [i1] at hz
  exact sI (i2.symm.trans hz)
 obtain ⟨f1,f2⟩:=fillS_run _ ds _ _ (rep_ok hzok k) (evop_ok S hx) hF
 have hmc:=made_cells hzok hzc i5 i6 k
 have hcl:(cellsOf (segsL ty' ys cs)).length=k*ty'.size:=by rw [segsL_len_mul ys cs hcs f2,hlen]
 have hmax':k≤maxLen:=Nat.le_of_ble_eq_true hmax
 have hsm':k*ty'.size≤16777216:=Nat.le_of_ble_eq_true hsm
 refine s_runw (dv:= .v (.slice (some ⟨w.heap.size,0,none⟩) k k)) (w':=w.alloc (.cells (cellsOf (segsL ty' ys cs)).toArray e)) S ht rfl ?_
  (S.new (Res.row ty' e (some ⟨w.heap.size,0,none⟩) k k ys) (World.grownBy_alloc w _ none) ⟨hlen,cs,hcs,f2,?_⟩ (fun b hb=>by obtain rfl:w.heap.size=b:=sI hb; exact Nat.le_refl _)) (K _ · _)
 ·have he:=S.evop hx
  have h2:(xs.map fun x=>match x with | (i,x)=>(i,a.eval x))=ds.map (fun p=>(p.1,p.2.val)):=by rw [← he]
  have hsm2:¬ (k*ty'.size>2 ^ 24):=by omega
  have hcells:((Array.range (k*ty'.size)).map fun x=>(if k*ty'.size=0 then (#[]:Array Value) else zv.cells)[x % (if k*ty'.size=0 then (#[]:Array Value) else zv.cells).size]!)=(cellsOf (segsL ty' (List.replicate k z) (List.replicate k c0))).toArray:=by
   apply Array.toList_inj.1
   rw [← hmc]
   by_cases h0:k*ty'.size=0
   ·simp [h0,madeCells]
   ·simp [h0,madeCells]
  have hsz:(Go.sizeOf e).run P w = .ok ty'.size w:=by rw [run_szOf i1,i3]
  have hdv:(D.v (.slice (some ⟨w.heap.size,0,none⟩) k k)).val = .slice (some ⟨w.heap.size,0,none⟩) k k:=rfl
  by_cases h0:k*ty'.size=0
  ·simp only [h0,if_true] at hcells
   have hc0:cellsOf (segsL ty' (List.replicate k z) (List.replicate k c0))=[]:=by
    apply List.eq_nil_of_length_eq_zero
    rw [segsL_len_mul _ _ (by simp) (rep_ok hzok k),List.length_replicate,h0]
   rw [hc0] at f1
   have hr0:(Array.range 0).map (fun x=>(#[]:Array Value)[x % (#[]:Array Value).size]!) = #[]:=by apply Array.toList_inj.1; simp
   simp only [execOp,List.map_toArray,h2,Instr.buildSlice,Sem.run_bind,run_underlying hu,Result.andThen_ok,hsz,h0,show ¬ (0>2 ^ 24) by omega,if_false,if_true,Sem.run_pure,hr0,f1,newRow,hdv]
   rfl
  ·simp only [h0,if_false] at hcells
   simp only [execOp,List.map_toArray,h2,Instr.buildSlice,Sem.run_bind,run_underlying hu,Result.andThen_ok,hsz,hsm2,if_false,Sem.run_pure,h0,run_zeroI hz,hcells,f1,newRow,hdv]
   rfl
 ·exact ⟨by rw [hcl], .inr ⟨w.heap.size,k,_,rfl,Nat.zero_le _,heap_alloc_new w _,Nat.le_refl _,hmax',by simp [hcl],by rw [List.take_of_length_le (by simp [hcl])]⟩⟩
theorem sliceBounds_run {b:Bool}{len cap:Nat}{lo hi:Option Operand}{i j:Int}{w:World}(S:St n m w0 l H a w)(hlo:(lo=none∧i=0)∨∃ o k,lo=some o∧evo l o=some (.v (.int k i)))(hhi:(hi=none∧j=len)∨∃ o k,hi=some o∧evo l o=some (.v (.int k j)))
  (h0:0≤i∧i≤j∧j≤cap) (hlc:hi=none→j≤cap):(Instr.sliceBounds b len cap (lo.map a.eval) (hi.map a.eval) none).run P w = .ok (i.toNat,j.toNat,cap) w:=by
 have hlo':(lo.map a.eval=none∧i=0)∨∃ v,lo.map a.eval=some v∧∃ k,v = .int k i:=by
  rcases hlo with ⟨rfl,h⟩ | ⟨o,k,rfl,ho⟩
  ·exact .inl ⟨rfl,h⟩
  ·exact .inr ⟨_,rfl,k,S.evo ho⟩
 have hhi':(hi.map a.eval=none∧j=len)∨∃ v,hi.map a.eval=some v∧∃ k,v = .int k j:=by
  rcases hhi with ⟨rfl,h⟩ | ⟨o,k,rfl,ho⟩
  ·exact .inl ⟨rfl,h⟩
  ·exact .inr ⟨_,rfl,k,S.evo ho⟩
 obtain ⟨h0,h1,h2⟩:=h0
 rcases hlo' with ⟨e1,e2⟩ | ⟨v,e1,k,rfl⟩ <;> rcases hhi' with ⟨f1,f2⟩ | ⟨u,f1,k',rfl⟩ <;> rw [e1,f1]
 ·subst e2; have:j.toNat=len:=by omega
  simp [Instr.sliceBounds,this]
 ·subst e2
  have:0≤j∧j≤(cap:Int):=by omega
  simp [Instr.sliceBounds,Instr.sliceBound,asIntOf,this]
 ·have h3:0≤i∧i≤(len:Int):=by omega
  have:j.toNat=len:=by omega
  simp [Instr.sliceBounds,Instr.sliceBound,asIntOf,h3,this]
 ·have h3:0≤i∧i≤((j.toNat:Nat):Int):=by omega
  have h4:0≤j∧j≤(cap:Int):=by omega
  simp [Instr.sliceBounds,Instr.sliceBound,asIntOf,h3.1,h4.1,h4.2,show i≤j by omega,h0]
  intro h; omega
theorem s_sliceA (S:St n m w0 l H a w){e et:TypeId}{x:Operand}{lo hi:Option Operand}{g o c z:Nat}{b:Bool}{i j:Int}{o' len cap:Nat}(hx:evo l x=some (.v (.pointer (some ⟨g,o,none⟩))))(hu:P.underlying e=some (.array c et))(hT:tyI P et=some (b,z))
  (hlo:(lo=none∧i=0)∨∃ o k,lo=some o∧evo l o=some (.v (.int k i))) (hhi:(hi=none∧j=c)∨∃ o k,hi=some o∧evo l o=some (.v (.int k j))) (h0:0≤i∧i≤j∧j≤c)
  (ho:(if c=i.toNat then o else o+i.toNat*z)=o') (hl:j.toNat - i.toNat=len) (hcap:c - i.toNat=cap) (ht:Nat.blt t n=true)
  (K:∀ a',St n m w0 ((t, .v (.slice (some ⟨g,o',none⟩) len cap))::l) H a' w→wpList P ops Q rest a' w):wpList P ops Q (⟨some t, .slice e x lo hi none,ty,ps,af,none⟩::rest) a w:=by
 refine s_run (dv:= .v (.slice (some ⟨g,o',none⟩) len cap)) S ht rfl ?_ K
 have hx':a.eval x = .pointer (some ⟨g,o,none⟩):=S.evo hx
 have hb:=sliceBounds_run (P:=P) (b:=false) (len:=c) (cap:=c) S hlo hhi h0 (fun _=>h0.2.2)
 simp only [execOp,hx',Option.map_none]
 have ha:(⟨g,o,none⟩:Addr).add (i.toNat*z)=⟨g,o+i.toNat*z,none⟩:=by unfold Addr.add; split <;> simp_all
 simp only [Instr.sliceAt,Instr.slice,Instr.sureAddr,asAddr,Sem.run_bind,run_underlying hu,Result.andThen_ok,hb,run_sizeI hT,Sem.run_pure,D.val,ha]
 subst ho hl hcap
 split <;> simp_all
theorem St.slup' (S:St n m w0 l H a w){u g b o c len cap lo:Nat}{e:TypeId}{s s':List Seg}{k:IntKind}{xs ys:List Int}(hu:fnd l u=some (.v (.slice (some ⟨g,o,none⟩) len cap)))(hr:Res.fro g e s∈H)(hs:Int_ s b k xs c xs s')(ho:b+lo=o∨len=0)
  (hlen:lo+len≤c) (hcap:len≤cap∧cap≤maxLen) (hy:(xs.drop lo).take len=ys):ys.length=len∧St n m w0 ((u, .sl (some ⟨g,o,none⟩) ys.length cap (RdS (Ty.int k) (some ⟨g,o,none⟩) ys))::l) H a w:=by
 have hyl:ys.length=len:=by
  have hx:=(hs.cell (S.holds _ hr).2).1
  rw [← hy]; simp; omega
 refine ⟨hyl,?_⟩
 rcases ho with ho | ho
 ·rw [hyl]; exact (S.slup hu hr hs ho hlen hcap hy).1
 ·subst ho
  have:ys=[]:=List.eq_nil_of_length_eq_zero hyl
  subst this
  exact S.slot hu rfl ⟨Nat.zero_le _,hcap.2,RdS.nil _ _ _,RdS.mono _ _ _⟩
theorem Int_.put {s s':List Seg}{b:Nat}{k:IntKind}{xs zs:List Int}{c:Nat}(h:Int_ s b k xs c zs s')(hok:okS m s)(hz:zs.length=c) :
  cellsOf s=(cellsOf s).take b++nums k xs++(cellsOf s).drop (b+c)∧cellsOf s'=(cellsOf s).take b++nums k zs++(cellsOf s).drop (b+c)∧b+c≤(cellsOf s).length∧okS m s':=by
 induction h with
 | @here k xs ys c T =>
  have hx:(nums k xs).length=c:=by rw [nums_length]; exact hok.1
  simp only [cellsOf,Seg.cells,List.take_zero,List.nil_append,Nat.zero_add]
  have h1:(nums k xs++cellsOf T).drop c=cellsOf T:=by rw [← hx,List.drop_left]
  rw [h1]
  exact ⟨rfl,rfl,by rw [List.length_append]; omega,hz,hok.2⟩
 | @there x T T' o o' k xs ys c h ho ih =>
  obtain ⟨i1,i2,i3,i4⟩:=ih hok.2 hz
  subst ho
  have hx:x.cells.length=x.len:=Seg.len_cells hok.1
  simp only [cellsOf]
  have h1:(x.cells++cellsOf T).take (x.len+o)=x.cells++(cellsOf T).take o:=by rw [← hx,List.take_length_add_append]
  have h2:(x.cells++cellsOf T).drop (x.len+o+c)=(cellsOf T).drop (o+c):=by rw [← hx,Nat.add_assoc,List.drop_length_add_append]
  rw [h1,h2]
  refine ⟨?_,?_,by rw [List.length_append]; omega,hok.1,i4⟩
  ·rw [List.append_assoc,List.append_assoc, ← List.append_assoc ((cellsOf T).take o), ← i1]
  ·rw [i2]; simp [List.append_assoc]
theorem fro_cell {g:Nat}{e:TypeId}{s:List Seg}(h:(Res.fro g e s).holds m w)(hf:Frz m w){i:Nat}{v:Value}(hv:(cellsOf s)[i]?=some v):w.cell? ⟨g,i,none⟩=some v:=hf.cell (h.1 i v hv) (plain_cells h.2 v (List.mem_of_getElem? hv))
theorem s_loadaF (S:St n m w0 l H a w){e:TypeId}{x:Operand}{g o z:Nat}{e':TypeId}{s s':List Seg}{T:List Res}(hx:evo l x=some (.v (.pointer (some ⟨g,o,none⟩))))(hf:Foc H (Res.fro g e' s) (Res.fro g e' s) T)
  (hT:tyI P e=some (true,z)) (hs:subS s o z=some s') (ht:Nat.blt t n=true)
  (K:∀ a',St n m w0 ((t, .agg s')::l) H a' w→wpList P ops Q rest a' w):wpList P ops Q (⟨some t, .load e x,ty,ps,af,none⟩::rest) a w:=by
 have hc:=S.holds _ hf.mem
 obtain ⟨h1,h2,h3⟩:=subS_cells hc.2 hs
 refine s_run (dv:= .agg s') S ht h2 ?_ K
 simp only [execOp,S.evo hx,D.val]
 simp only [Instr.loadAt,Instr.sureAddr,Sem.run_bind,Sem.run_pure,Result.andThen_ok]
 rw [run_loadVar_cells (cs:=cellsOf s') hT h3 (fun j v hv=>fro_cell hc S.frz (subS_at hc.2 hs hv).1)]
 rfl
theorem s_load1F (S:St n m w0 l H a w){e:TypeId}{x:Operand}{g o z:Nat}{e':TypeId}{s:List Seg}{v:Value}{T:List Res}(hx:evo l x=some (.v (.pointer (some ⟨g,o,none⟩))))(hf:Foc H (Res.fro g e' s) (Res.fro g e' s) T)
  (hT:tyI P e=some (false,z)) (hs:subS s o 1=some [.one v]) (ht:Nat.blt t n=true)
  (K:∀ a',St n m w0 ((t, .v v)::l) H a' w→wpList P ops Q rest a' w):wpList P ops Q (⟨some t, .load e x,ty,ps,af,none⟩::rest) a w:=by
 have hc:=S.holds _ hf.mem
 have h4:(cellsOf [Seg.one v])[0]?=some v:=rfl
 obtain ⟨h5,h6⟩:=subS_at hc.2 hs h4
 have hv:w.cell? ⟨g,o,none⟩=some v:=fro_cell hc S.frz h5
 refine s_run (dv:= .v v) S ht h6.1 ?_ K
 simp only [execOp,S.evo hx,D.val]
 simp only [Instr.loadAt,Instr.sureAddr,Sem.run_bind,Sem.run_pure,Result.andThen_ok]
 rw [run_loadVar_one hT hv]
 rfl
theorem ok_nil {α:Type}{m:Mem}{ty:Ty α}:(D.sl none ([]:List α).length 0 (RdS ty none [])).ok m:=⟨Nat.le_refl _,Nat.zero_le _,RdS.nil _ _ _,RdS.mono _ _ _⟩
def bstr (xs:List Int):ByteArray:=xs.foldl (fun r n=>r.push (UInt8.ofNat n.toNat)) ByteArray.empty
theorem s_strS (S:St n m w0 l H a w){src dst e:TypeId}{x:Operand}{A:Option Addr}{len cap:Nat}{xs:List Int}(hx:evo l x=some (.sl A len cap (RdS (Ty.int .u8) A xs)))(hn:xs.length=len)
  (hs:P.underlying src=some (.slice e)) (he:P.underlying e=some (.int .u8)) (hd:P.underlying dst=some .string) (ht:Nat.blt t n=true)
  (K:∀ a',St n m w0 ((t, .v (.string (bstr xs)))::l) H a' w→wpList P ops Q rest a' w):wpList P ops Q (⟨some t, .convert src dst x,ty,ps,af,none⟩::rest) a w:=by
 obtain ⟨_,_,hR,_⟩:=evo_ok S hx
 refine s_run (dv:= .v (.string (bstr xs))) S ht rfl ?_ K
 have hx':a.eval x = .slice A len cap:=S.evo hx
 simp only [execOp,hx',Sem.run_bind,run_convert_bytes_string w src dst e A len cap hs he hd]
 have key:(Conv.bytesToString (.slice A len cap)).run P w = .ok (.string (bstr xs)) w:=by
  cases A with
  | none =>
   have:xs=[]:=by
    cases xs with
    | nil=>rfl
    | cons y ys=>obtain ⟨ad,c,h1,_⟩:=hR 0 (by simp); cases h1
   subst this
   simp [Conv.bytesToString,bstr]
  | some ad =>
   refine run_bytesToString w ad len cap xs ?_
   have:=loadCellsFrom_add (P:=P) ad w (nums .u8 xs) 0 #[] (fun j v hv=>by
    have hj:j<xs.length:=by have:=(List.getElem?_eq_some_iff.1 hv).1; simpa [nums] using this
    obtain ⟨ad',c,e1,e2,e3⟩:=hR j hj
    obtain rfl:=sI e1
    have h1:=S.frz.cell (e3 0 _ rfl) rfl
    rw [Nat.zero_add]
    have h2:v = .int .u8 xs[j]:=by simpa [nums,List.getElem?_eq_getElem hj] using hv.symm
    rw [h2]
    simpa [Ty.int] using h1)
   rw [nums_length,hn] at this
   simpa [loadCells,nums] using this
 rw [key]
 rfl
theorem bstr_go (xs:List Int):∀ r:ByteArray,(xs.foldl (fun r n=>r.push (UInt8.ofNat n.toNat)) r).data.toList=r.data.toList++xs.map (fun n=>UInt8.ofNat n.toNat):=by
 induction xs with
 | nil=>intro r; simp
 | cons x xs ih =>
  intro r
  rw [List.foldl_cons,ih]
  simp [ByteArray.push]
theorem bstr_data (xs:List Int):(bstr xs).data.toList=xs.map (fun n=>UInt8.ofNat n.toNat):=by
 exact (bstr_go xs ByteArray.empty).trans rfl
end
end GW
