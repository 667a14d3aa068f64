import Derived.Test.YtdajnflppnlhiaaGWHQui
import Derived.Laws.IdiomCopy
set_option linter.unusedVariables false
set_option linter.unusedSimpArgs false
namespace GW
open Go Go.RowKit
def segsL {α:Type}(ty:Ty α):List α→List ty.Ch→List Seg
 | x::xs,c::cs=>ty.segs x c++segsL ty xs cs
 | _,_=>[]
section
variable {α:Type} {ty:Ty α} {m:Mem}
theorem lenOf_segsL:∀ (xs:List α) (cs:List ty.Ch),cs.length=xs.length→lenOf (segsL ty xs cs)=xs.length*ty.size
 | [],cs,h=>by cases cs with
  | nil=>simp [segsL,lenOf]
  | cons c cs=>simp at h
 | x::xs,cs,h=>by cases cs with
  | nil=>simp at h
  | cons c cs=>rw [segsL,lenOf_append,ty.len,lenOf_segsL xs cs (by simpa using h),List.length_cons,Nat.add_mul]; omega
theorem segsL_append:∀ (xs ys:List α) (cs ds:List ty.Ch),cs.length=xs.length→segsL ty (xs++ys) (cs++ds)=segsL ty xs cs++segsL ty ys ds
 | [],ys,cs,ds,h=>by cases cs with
  | nil=>simp [segsL]
  | cons c cs=>simp at h
 | x::xs,ys,cs,ds,h=>by cases cs with
  | nil=>simp at h
  | cons c cs=>simp only [List.cons_append,segsL,segsL_append xs ys cs ds (by simpa using h),List.append_assoc]
theorem segsL_ok:∀ (xs:List α) (cs:List ty.Ch),cs.length=xs.length→(okS m (segsL ty xs cs)↔∀ i (h:i<xs.length) (h':i<cs.length),okS m (ty.segs xs[i] cs[i]))
 | [],cs,h=>by simp [segsL,okS]
 | x::xs,cs,h=>by cases cs with
  | nil=>simp at h
  | cons c cs =>
   rw [segsL,okS_append,segsL_ok xs cs (by simpa using h)]
   constructor
   ·rintro ⟨h1,h2⟩ i hi hi'
    cases i with
    | zero=>exact h1
    | succ i=>exact h2 i (by simpa using hi) (by simpa using hi')
   ·intro h1
    exact ⟨h1 0 (by simp) (by simp),fun i hi hi'=>h1 (i+1) (by simpa using hi) (by simpa using hi')⟩
theorem segsL_cell:∀ (xs:List α) (cs:List ty.Ch),cs.length=xs.length→okS m (segsL ty xs cs)→∀ i (h:i<xs.length) (h':i<cs.length) j,j<ty.size→(cellsOf (segsL ty xs cs))[i*ty.size+j]?=(cellsOf (ty.segs xs[i] cs[i]))[j]?
 | [],cs,h,hok,i,hi,hi',j,hj=>by simp at hi
 | x::xs,cs,h,hok,i,hi,hi',j,hj=>by cases cs with
  | nil=>simp at hi'
  | cons c cs =>
   rw [segsL,okS_append] at hok
   have hl:(cellsOf (ty.segs x c)).length=ty.size:=by rw [len_cellsOf hok.1,ty.len]
   rw [segsL,cellsOf_append]
   cases i with
   | zero=>rw [Nat.zero_mul,Nat.zero_add,List.getElem?_append_left (by omega)]; rfl
   | succ i =>
    rw [List.getElem?_append_right (by rw [hl,Nat.add_mul]; omega),hl]
    rw [show (i+1)*ty.size+j - ty.size=i*ty.size+j by rw [Nat.add_mul]; omega]
    exact segsL_cell xs cs (by simpa using h) hok.2 i (by simpa using hi) (by simpa using hi') j hj
theorem segsL_set:∀ (xs:List α) (cs:List ty.Ch),cs.length=xs.length→okS m (segsL ty xs cs)→∀ i (h:i<xs.length) (h':i<cs.length) (y:α) (c':ty.Ch),okS m (ty.segs y c') →
  cellsOf (segsL ty (xs.set i y) (cs.set i c'))=(cellsOf (segsL ty xs cs)).take (i*ty.size)++cellsOf (ty.segs y c')++(cellsOf (segsL ty xs cs)).drop (i*ty.size+ty.size)∧okS m (segsL ty (xs.set i y) (cs.set i c'))
 | [],cs,h,hok,i,hi,hi',y,c',hy=>by simp at hi
 | x::xs,cs,h,hok,i,hi,hi',y,c',hy=>by cases cs with
  | nil=>simp at hi'
  | cons c cs =>
   rw [segsL,okS_append] at hok
   have hl:(cellsOf (ty.segs x c)).length=ty.size:=by rw [len_cellsOf hok.1,ty.len]
   cases i with
   | zero =>
    simp only [List.set_cons_zero,segsL,cellsOf_append,Nat.zero_mul,Nat.zero_add,List.take_zero,List.nil_append,okS_append]
    rw [← hl,List.drop_left]
    exact ⟨rfl,hy,hok.2⟩
   | succ i =>
    obtain ⟨h1,h2⟩:=segsL_set xs cs (by simpa using h) hok.2 i (by simpa using hi) (by simpa using hi') y c' hy
    simp only [List.set_cons_succ,segsL,cellsOf_append,okS_append,h1]
    refine ⟨?_,hok.1,h2⟩
    have e1:(i+1)*ty.size=(cellsOf (ty.segs x c)).length+i*ty.size:=by rw [hl,Nat.add_mul]; omega
    rw [e1,List.take_length_add_append,Nat.add_assoc,List.drop_length_add_append]
    simp
theorem segsL_len_mul (xs:List α)(cs:List ty.Ch)(h:cs.length=xs.length)(hok:okS m (segsL ty xs cs)):(cellsOf (segsL ty xs cs)).length=xs.length*ty.size:=by
 rw [len_cellsOf hok,lenOf_segsL xs cs h]
end
def Res.row {α:Type}(ty:Ty α)(e:TypeId)(A:Option Addr)(n cap:Nat)(xs:List α):Res where
 blk:=fun k=>A.map (·.block)=some k
 holds m w:=xs.length=n∧∃ cs:List ty.Ch,cs.length=xs.length∧okS m (segsL ty xs cs)∧w.ownsRow 0 e ty.size (.slice A n cap) n (cellsOf (segsL ty xs cs))
 frame m w w' h hh:=by
  obtain ⟨h0,cs,h1,h2,h3,h4⟩:=hh
  refine ⟨h0,cs,h1,h2,h3,?_⟩
  rcases h4 with h4 | ⟨g,cp,cur,e1,e2,e3,e4⟩
  ·exact .inl h4
  ·obtain ⟨rfl, -,rfl⟩:=Value.slice.inj e1
   exact .inr ⟨g,_,cur,rfl,e2,(h g rfl).trans e3,e4⟩
 mono m m' w h hh:=by
  obtain ⟨h0,cs,h1,h2,h3⟩:=hh
  exact ⟨h0,cs,h1,okS_mono h h2,h3⟩
 lt m w hh k hk:=by
  obtain ⟨h0,cs,h1,h2,h3,h4⟩:=hh
  rcases h4 with ⟨e1,_⟩ | ⟨g,cp,cur,e1,e2,e3,e4⟩
  ·obtain ⟨rfl,rfl,rfl⟩:=Value.slice.inj e1
   cases hk
  ·obtain ⟨rfl, -, -⟩:=Value.slice.inj e1
   obtain rfl:g=k:=sI hk
   exact (Array.getElem?_eq_some_iff.1 e3).1
def appI (P:Program)(e:TypeId):Option (Nat×Nat):=(P.info? e).bind fun i=>i.zero.bind fun z=>if z.cells.size=i.size∧0<i.size∧0<i.bytes then some (i.size,i.bytes) else none
theorem appI_some {P:Program}{e:TypeId}{s b:Nat}(h:appI P e=some (s,b)):∃ i z,P.info? e=some i∧i.zero=some z∧i.size=s∧i.bytes=b∧z.cells.size=s∧0<s∧0<b:=by
 obtain ⟨i,h1,h2⟩:=Option.bind_eq_some_iff.1 h
 obtain ⟨z,h3,h4⟩:=Option.bind_eq_some_iff.1 h2
 split at h4
 ·rename_i hc
  simp only [Option.some.injEq,Prod.mk.injEq] at h4
  obtain ⟨rfl,rfl⟩:=h4
  exact ⟨i,z,h1,h3,rfl,rfl,hc.1,hc.2.1,hc.2.2⟩
 ·cases h4
theorem plain_one {v:Value}(h:plain v=true):v.oneCell'=true:=by cases v <;> first | rfl | (simp [plain] at h)
section
variable {P:Program} {n:Nat} {m:Mem} {w0:Base} {l:List (Nat×D)} {H:List Res} {a:Act} {w:World}
variable {ops:Array Oper} {Q:Exit→Act→World→Prop} {rest:List Oper} {ty:TypeId} {ps:String} {af:Array Edge} {t:Nat}
theorem St.nilrow {α:Type}(S:St n m w0 l H a w)(ty':Ty α)(e:TypeId):St n m w0 l (Res.row ty' e none 0 0 []::H) a w:=by
 have hr:(Res.row ty' e none 0 0 []).holds m w:=⟨rfl,[],rfl,tv,World.ownsRow_nil w 0 e _⟩
 refine ⟨S.size,S.defers,S.get,S.below,S.le,S.fresh,fun r h=>?_,fun r h k hk=>?_,List.pairwise_cons.2 ⟨fun r _ k hk=>(by cases hk),S.apart⟩,S.frz,fun r h p v hv hb=>?_⟩
 ·rcases List.mem_cons.1 h with rfl | h
  ·exact hr
  ·exact S.holds r h
 ·rcases List.mem_cons.1 h with rfl | h
  ·cases hk
  ·exact S.base r h k hk
 ·rcases List.mem_cons.1 h with rfl | h
  ·cases hb
  ·exact S.frzH r h p v hv hb
def Src {α:Type}(m:Mem)(w:World)(ty':Ty α)(A:Option Addr)(ys:List α):Prop :=
 ∃ ds:List ty'.Ch,ds.length=ys.length∧okS m (segsL ty' ys ds)∧((A=none∧ys=[])∨∃ ad,A=some ad∧∀ j u,(cellsOf (segsL ty' ys ds))[j]?=some u→w.cell? (ad.add j)=some u)
theorem RdS.src {α:Type}{ty':Ty α}{A:Option Addr}{ys:List α}(h:RdS ty' A ys m)(hz:0<ty'.size)(hf:Frz m w):Src m w ty' A ys:=by
 cases A with
 | none =>
  have:ys=[]:=by
   cases ys with
   | nil=>rfl
   | cons y ys=>obtain ⟨ad,c,h1,_⟩:=h 0 (by simp); cases h1
  subst this
  exact ⟨[],rfl,tv, .inl ⟨rfl,rfl⟩⟩
 | some ad =>
  have h':∀ i:Fin ys.length,∃ c,okS m (ty'.segs ys[i] c)∧∀ j v,(cellsOf (ty'.segs ys[i] c))[j]?=some v→m (ad.add (i*ty'.size+j))=some v:=fun i=>by
   obtain ⟨ad',c,h1,h2,h3⟩:=h i.1 i.2
   obtain rfl:=sI h1
   exact ⟨c,h2,h3⟩
  let ds:List ty'.Ch:=List.ofFn fun i=>Classical.choose (h' i)
  have hds:∀ i (hi:i<ys.length) (hi':i<ds.length),ds[i]=Classical.choose (h' ⟨i,hi⟩):=fun i hi hi'=>by simp [ds]
  have hlen:ds.length=ys.length:=by simp [ds]
  have hok:okS m (segsL ty' ys ds):=(segsL_ok ys ds hlen).2 fun i hi hi'=>by rw [hds i hi hi']; exact (Classical.choose_spec (h' ⟨i,hi⟩)).1
  refine ⟨ds,hlen,hok, .inr ⟨ad,rfl,fun j u hu=>?_⟩⟩
  have hj:j<ys.length*ty'.size:=by
   have:=(List.getElem?_eq_some_iff.1 hu).1
   rwa [segsL_len_mul ys ds hlen hok] at this
  have hi:j / ty'.size<ys.length:=Nat.div_lt_of_lt_mul (by rwa [Nat.mul_comm])
  have hm:j % ty'.size<ty'.size:=Nat.mod_lt _ hz
  have hj':j / ty'.size*ty'.size+j % ty'.size=j:=by rw [Nat.mul_comm]; exact Nat.div_add_mod j ty'.size
  have h1:=segsL_cell ys ds hlen hok (j / ty'.size) hi (by omega) (j % ty'.size) hm
  rw [hj',hu,hds _ hi] at h1
  have h2:=(Classical.choose_spec (h' ⟨j / ty'.size,hi⟩)).2 _ _ h1.symm
  rw [← hj']
  exact hf.cell h2 (plain_cells hok _ (List.mem_of_getElem? hu))
theorem Res.row.src {α:Type}{ty':Ty α}{e:TypeId}{A:Option Addr}{k cap:Nat}{ys:List α}(h:(Res.row ty' e A k cap ys).holds m w):Src m w ty' A ys:=by
 obtain ⟨h0,cs,h1,h2,h3,h4⟩:=h
 refine ⟨cs,h1,h2,?_⟩
 rcases h4 with ⟨e1,rfl⟩ | ⟨g,cp,cur,e1,e2,e3,e4,e5,e6,e7⟩
 ·obtain ⟨rfl, -, -⟩:=Value.slice.inj e1
  exact .inl ⟨rfl,List.eq_nil_of_length_eq_zero h0⟩
 ·obtain ⟨rfl, -, -⟩:=Value.slice.inj e1
  refine .inr ⟨_,rfl,fun j u hu=>?_⟩
  have ha:(⟨g,0,none⟩:Addr).add j=⟨g,j,none⟩:=by unfold Addr.add; split <;> simp_all
  rw [ha,cell_of_row w g j cur e (0,0) e3]
  have hj:=(List.getElem?_eq_some_iff.1 hu).1
  rw [← e7] at hu hj
  rw [List.length_take] at hj
  rw [List.getElem?_take_of_lt (by omega)] at hu
  simpa using hu
theorem s_app {α:Type}(S:St n m w0 l H a w){tt e:TypeId}{x y:Operand}{ty':Ty α}{A A2:Option Addr}{k cap k2 cap2 bytes:Nat}{xs ys:List α}{dy:D}{H':Option Addr→Nat→List Res}
    (hx:evo l x=some (.v (.slice A k cap))) (hf:∀ A' cap',Foc H (Res.row ty' e A k cap xs) (Res.row ty' e A' (k+k2) cap' (xs++ys)) (H' A' cap')) (hy:evo l y=some dy) (hyv:dy.val = .slice A2 k2 cap2) (hk2:ys.length=k2)
    (hsrc:Src m w ty' A2 ys) (hu:P.underlying tt=some (.slice e)) (hI:appI P e=some (ty'.size,bytes)) (hB:(xs.length+ys.length)*bytes≤140737488355328) (ht:Nat.blt t n=true)
    (K:∀ A' cap' a' w',St n m w0 ((t, .v (.slice A' (k+k2) cap'))::l) (H' A' cap') a' w'→wpList P ops Q rest a' w'):wpList P ops Q (⟨some t, .call ⟨.builtin .append, #[x,y], #[tt,tt]⟩,ty,ps,af,none⟩::rest) a w:=by
  obtain ⟨i,z,i1,i2,i3,i4,i5,i6,i7⟩:=appI_some hI
  obtain ⟨h0,cs,h1,h2,h3⟩:=S.holds _ (hf none 0).mem
  obtain ⟨ds,d1,d2,d3⟩:=hsrc
  have hk:xs.length=k:=h0
  have hkk:k+k2=xs.length+ys.length:=by omega
  have hmax:k+k2≤maxLen:=by
    rw [hkk]
    have:(xs.length+ys.length)*1≤(xs.length+ys.length)*bytes:=Nat.mul_le_mul_left _ i7
    simp only [maxLen]
    omega
  have hx':a.eval x = .slice A k cap:=S.evo hx
  have hy':a.eval y = .slice A2 k2 cap2:=(S.evo hy).trans hyv
  have key:∃ A' cap' w',(Builtin.append_ #[tt,tt] ty #[.slice A k cap, .slice A2 k2 cap2]).run P w = .ok (.slice A' (k+k2) cap') w' ∧
      w'.ownsRow 0 e ty'.size (.slice A' (k+k2) cap') (k+k2) (cellsOf (segsL ty' xs cs)++cellsOf (segsL ty' ys ds))∧w.grownBy w' (A.map (·.block)) ∧
      (A'.map (·.block)=A.map (·.block)∨A'.map (·.block)=some w.heap.size):=by
    rcases d3 with ⟨rfl,rfl⟩ | ⟨ad,rfl,hcell⟩
    · obtain rfl:k2=0:=hk2.symm
      have hr:(Builtin.append_ #[tt,tt] ty #[.slice A k cap, .slice none 0 cap2]).run P w = .ok (.slice A k cap) w:=by
        rcases h3.2 with ⟨e1,e2⟩ | ⟨g,cp,cur,e1,_,_,hnc,_⟩
        · obtain ⟨rfl,rfl,rfl⟩:=Value.slice.inj e1
          simp [Builtin.append_,run_underlying hu,Go.sizeOf,typeInfo,i1,Builtin.lenOf,Builtin.firstCells]
        · obtain ⟨rfl, -,rfl⟩:=Value.slice.inj e1
          simp [Builtin.append_,run_underlying hu,Go.sizeOf,typeInfo,i1,Builtin.lenOf,Builtin.firstCells,hnc,storeCells]
      refine ⟨A,cap,w,hr,?_,World.grownBy.refl w _, .inl rfl⟩
      cases ds with
      | nil=>simpa [segsL,cellsOf] using h3
      | cons d ds=>simp at d1
    · obtain ⟨v',w',r1,r2,r3,r4,r5⟩:=run_append_own_at (P:=P) w 0 tt ty e i z ty'.size bytes hu i1 i2 i3 i4 i5 i6 (.slice A k cap) k (cellsOf (segsL ty' xs cs)) h3 ad k2 cap2 (cellsOf (segsL ty' ys ds))
        (by rw [segsL_len_mul ys ds d1 d2,hk2]) hcell (fun u hu=>plain_one (plain_cells d2 u hu)) hmax (by rw [hkk]; exact hB) (Nat.zero_le _)
      have hown:∀ B c,(Value.slice B c cap).ownBlock=B.map (·.block):=fun B c=>by cases B <;> rfl
      have hown2:∀ (B:Option Addr) c c',(Value.slice B c c').ownBlock=B.map (·.block):=fun B c c'=>by cases B <;> rfl
      rw [hown2] at r3 r5
      rcases r2.2 with ⟨rfl,e2⟩ | ⟨g,cp,cur,rfl,_⟩
      · refine ⟨none,0,w',by rw [r1,e2],by rw [e2]; rw [e2] at r2; exact r2,r3,?_⟩
        rcases r5 with r5 | r5
        · exact .inl r5
        · cases r5
      · exact ⟨some ⟨g,0,none⟩,cp,w',r1,r2,r3,r5⟩
  obtain ⟨A',cap',w',r1,r2,r3,r5⟩:=key
  refine s_runw (dv:= .v (.slice A' (k+k2) cap')) (w':=w') (m':=m) (H':=H' A' cap') S ht rfl ?_ ?_ (K A' cap' · w')
  · simp only [execOp,resolve]
    simp [invoke,builtin,hx',hy',r1,D.val]
  · refine S.turn (hf A' cap') r3 ⟨by rw [List.length_append]; omega,cs++ds,by simp [h1,d1],?_,?_⟩ (fun b hb=>?_)
    · rw [segsL_append xs ys cs ds h1,okS_append]; exact ⟨h2,d2⟩
    · rw [segsL_append xs ys cs ds h1,cellsOf_append]; exact r2
    · rcases r5 with r5 | r5
      · exact .inl (show A.map (·.block)=some b from r5.symm.trans hb)
      · have:some w.heap.size=some b:=r5.symm.trans hb
        obtain rfl:=sI this
        exact .inr (Nat.le_refl _)
theorem s_lenO {α:Type}(S:St n m w0 l H a w){e e':TypeId}{x:Operand}{ty':Ty α}{ee:TypeId}{A:Option Addr}{k cap:Nat}{xs:List α}{T:List Res}(hx:evo l x=some (.v (.slice A k cap)))(hf:Foc H (Res.row ty' ee A k cap xs) (Res.row ty' ee A k cap xs) T)(hu:P.underlying e=some (.slice e'))(ht:Nat.blt t n=true)
  (K:∀ a',St n m w0 ((t, .v (.int .i64 (xs.length:Int)))::l) H a' w→wpList P ops Q rest a' w):wpList P ops Q (⟨some t, .call ⟨.builtin .len, #[x], #[e]⟩,ty,ps,af,none⟩::rest) a w :=
 s_run (dv:= .v (.int .i64 (xs.length:Int))) S ht rfl (by
  have h0:xs.length=k:=(S.holds _ hf.mem).1
  simp only [execOp,resolve]
  have hx':a.eval x = .slice A k cap:=S.evo hx
  simp [invoke,builtin,Builtin.len_,hx',run_underlying hu,goInt,D.val,h0]) K
theorem Res.row.at_ {α:Type}{ty':Ty α}{e:TypeId}{A:Option Addr}{k cap:Nat}{xs:List α}(h:(Res.row ty' e A k cap xs).holds m w)(hk:0<k) :
  ∃ g cur cs,A=some ⟨g,0,none⟩∧xs.length=k∧w.heap[g]?=some (.cells cur e (0,0))∧k≤cap∧cap≤maxLen∧cur.size=cap*ty'.size∧cs.length=xs.length∧okS m (segsL ty' xs cs)∧cur.toList.take (k*ty'.size)=cellsOf (segsL ty' xs cs):=by
 obtain ⟨h0,cs,h1,h2,h3,h4⟩:=h
 rcases h4 with ⟨e1,rfl⟩ | ⟨g,cp,cur,e1,e2,e3,e4,e5,e6,e7⟩
 ·omega
 ·obtain ⟨rfl, -,rfl⟩:=Value.slice.inj e1
  exact ⟨g,cur,cs,rfl,h0,e3,e4,e5,e6,h1,h2,e7⟩
theorem Res.row.elem {α:Type} [Inhabited α] {ty':Ty α}{e:TypeId}{g k cap:Nat}{xs:List α}(h:(Res.row ty' e (some ⟨g,0,none⟩) k cap xs).holds m w){i:Int}(h0:0≤i)(h1:i<xs.length) :
  ∃ c,okS m (ty'.segs (gt xs i) c)∧∀ j v,(cellsOf (ty'.segs (gt xs i) c))[j]?=some v→w.cell? ⟨g,i.toNat*ty'.size+j,none⟩=some v:=by
 have hk:xs.length=k:=h.1
 obtain ⟨g',cur,cs,hA,_,c1,c2,c3,c4,c5,c6,c7⟩:=Res.row.at_ h (by omega)
 obtain rfl:g=g':=by simpa using hA
 have hi:i.toNat<xs.length:=by omega
 have hi':i.toNat<cs.length:=by omega
 refine ⟨cs[i.toNat],by rw [gt_get xs i hi]; exact (segsL_ok xs cs c5).1 c6 _ hi hi',fun j v hv=>?_⟩
 rw [gt_get xs i hi] at hv
 have hok:=(segsL_ok xs cs c5).1 c6 _ hi hi'
 have hj:j<ty'.size:=by
  have:=(List.getElem?_eq_some_iff.1 hv).1
  rwa [len_cellsOf hok,ty'.len] at this
 have h2:=segsL_cell xs cs c5 c6 i.toNat hi hi' j hj
 rw [hv, ← c7] at h2
 have hb:i.toNat*ty'.size+j<k*ty'.size:=by
  have h3:(i.toNat+1)*ty'.size≤k*ty'.size:=Nat.mul_le_mul_right _ (by omega)
  rw [Nat.add_mul] at h3
  omega
 rw [List.getElem?_take_of_lt hb] at h2
 rw [cell_of_row w g _ cur e (0,0) c1]
 simpa using h2
theorem s_iaddrO {α:Type}(S:St n m w0 l H a w){e et ee:TypeId}{x y:Operand}{A:Option Addr}{k cap:Nat}{ty':Ty α}{xs:List α}{kk:IntKind}{i:Int}{b:Bool}{T:List Res}
  (hx:evo l x=some (.v (.slice A k cap))) (hf:Foc H (Res.row ty' ee A k cap xs) (Res.row ty' ee A k cap xs) T) (hy:evo l y=some (.v (.int kk i))) (hu:P.underlying e=some (.slice et)) (hT:tyI P et=some (b,ty'.size)) (h0:0≤i) (h1:i<xs.length) (ht:Nat.blt t n=true)
  (K:∀ g a',A=some ⟨g,0,none⟩→St n m w0 ((t, .v (.pointer (some ⟨g,i.toNat*ty'.size,none⟩)))::l) H a' w→wpList P ops Q rest a' w):wpList P ops Q (⟨some t, .indexAddr e x y,ty,ps,af,none⟩::rest) a w:=by
 have hr:=S.holds _ hf.mem
 have hk:xs.length=k:=hr.1
 obtain ⟨g,cur,cs,rfl,_⟩:=Res.row.at_ hr (by omega)
 refine s_run (dv:= .v (.pointer (some ⟨g,i.toNat*ty'.size,none⟩))) S ht rfl ?_ (K g · rfl)
 have hx':a.eval x = .slice (some ⟨g,0,none⟩) k cap:=S.evo hx
 have hy':a.eval y = .int kk i:=S.evo hy
 have ha:(⟨g,0,none⟩:Addr).add (i.toNat*ty'.size)=⟨g,i.toNat*ty'.size,none⟩:=by unfold Addr.add; split <;> simp_all
 simp only [execOp,hx',hy']
 simp [Instr.indexAt,asIntOf,run_underlying hu,h0,show i<(k:Int) by omega,run_sizeI hT,D.val,ha]
theorem subS_at {s s':List Seg}{o z:Nat}(hok:okS m s)(h:subS s o z=some s'){j:Nat}{v:Value}(hv:(cellsOf s')[j]?=some v):(cellsOf s)[o+j]?=some v∧okS m s':=by
 obtain ⟨h1,h2,h3⟩:=subS_cells hok h
 have hj:j<z:=by
  have:=(List.getElem?_eq_some_iff.1 hv).1
  omega
 rw [h1,List.getElem?_take_of_lt hj,List.getElem?_drop] at hv
 exact ⟨hv,h2⟩
theorem s_ldRA {α:Type} [Inhabited α] (S:St n m w0 l H a w){e ee:TypeId}{x:Operand}{A:Option Addr}{g k cap o off z:Nat}{ty':Ty α}{xs:List α}{i:Int}{T:List Res}(sg:ty'.Ch→List Seg)(hx:evo l x=some (.v (.pointer (some ⟨g,o,none⟩))))(hA:A=some ⟨g,0,none⟩)(hf:Foc H (Res.row ty' ee A k cap xs) (Res.row ty' ee A k cap xs) T)
  (hT:tyI P e=some (true,z)) (h0:0≤i) (h1:i<xs.length) (ho:i.toNat*ty'.size+off=o) (hs:∀ c,subS (ty'.segs (gt xs i) c) off z=some (sg c)) (ht:Nat.blt t n=true)
  (K:∀ c a',St n m w0 ((t, .agg (sg c))::l) H a' w→wpList P ops Q rest a' w):wpList P ops Q (⟨some t, .load e x,ty,ps,af,none⟩::rest) a w:=by
 have hr:=S.holds _ hf.mem
 subst hA
 obtain ⟨c,c1,c2⟩:=Res.row.elem hr h0 h1
 obtain ⟨g1,g2,g3⟩:=subS_cells c1 (hs c)
 refine s_run (dv:= .agg (sg c)) S ht g2 ?_ (K c)
 have hx':a.eval x = .pointer (some ⟨g,o,none⟩):=S.evo hx
 simp only [execOp,hx',Instr.loadAt,Instr.sureAddr,Sem.run_bind,Sem.run_pure,Result.andThen_ok]
 rw [run_loadVar_cells (cs:=cellsOf (sg c)) hT g3 (fun j v hv=>?_)]
 ·rfl
 ·have:=c2 _ _ (subS_at c1 (hs c) hv).1
  rwa [← Nat.add_assoc,ho] at this
theorem putS_cells {s s' new:List Seg}{o z:Nat}(hok:okS m s)(hn:okS m new)(hz:lenOf new=z)(h:putS s o z new=some s'):cellsOf s'=(cellsOf s).take o++cellsOf new++(cellsOf s).drop (o+z)∧okS m s':=by
 obtain ⟨p,hp,h⟩:=Option.bind_eq_some_iff.1 h
 obtain ⟨q,hq,rfl⟩:=Option.map_eq_some_iff.1 h
 obtain ⟨p1,p2,p3⟩:=takeS_cells hok hp
 obtain ⟨q1,q2⟩:=dropS_cells hok hq
 rw [cellsOf_append,cellsOf_append,p1,q1,okS_append,okS_append]
 exact ⟨by rw [List.append_assoc],p2,hn,q2⟩
theorem cut_lemma {β:Type}(L DS:List β){I Z KZ off z o:Nat}(ho:I+off=o)(hd:DS.length=z)(h1:off+z≤Z)(h2:I+Z≤KZ)(h3:KZ≤L.length) :
  (L.take o++DS++L.drop (o+z)).take KZ=L.take I++(((L.drop I).take Z).take off++DS++((L.drop I).take Z).drop (off+z))++(L.take KZ).drop (I+Z):=by
 subst ho
 have a1:(L.take (I+off)++DS).length=I+off+z:=by rw [List.length_append,List.length_take,hd]; omega
 rw [List.take_append,a1,List.take_of_length_le (l:=L.take (I+off)++DS) (by omega),List.take_take,Nat.min_eq_left (by omega:off≤Z),List.drop_take,List.drop_drop,List.drop_take]
 have a2:KZ - (I+off+z)=(Z - (off+z))+(KZ - (I+Z)):=by omega
 rw [a2,List.take_add (l:=L.drop (I+off+z)),List.drop_drop,List.take_add (l:=L)]
 have a3:I+off+z+(Z - (off+z))=I+Z:=by omega
 have a4:I+(off+z)=I+off+z:=by omega
 rw [a3,a4]
 simp only [List.append_assoc]
theorem s_cutO {α:Type}(S:St n m w0 l H a w){e ee:TypeId}{x:Operand}{lo:Option Operand}{o:Operand}{A:Option Addr}{k cap:Nat}{ty':Ty α}{xs:List α}{b:Bool}{j:Int}{kk:IntKind}{H':List Res}
  (hx:evo l x=some (.v (.slice A k cap))) (hf:Foc H (Res.row ty' ee A k cap xs) (Res.row ty' ee A j.toNat cap (xs.take j.toNat)) H') (hu:P.underlying e=some (.slice ee)) (hT:tyI P ee=some (b,ty'.size))
  (hlo:lo=none∨∃ o k,lo=some o∧evo l o=some (.v (.int k 0))) (ho:evo l o=some (.v (.int kk j))) (h0:0≤j) (h1:j≤xs.length) (ht:Nat.blt t n=true)
  (K:∀ a',St n m w0 ((t, .v (.slice A j.toNat cap))::l) H' a' w→wpList P ops Q rest a' w):wpList P ops Q (⟨some t, .slice e x lo (some o) none,ty,ps,af,none⟩::rest) a w:=by
 have hr:=S.holds _ hf.mem
 have hk:xs.length=k:=hr.1
 have hjk:j.toNat≤k:=by omega
 have hx':a.eval x = .slice A k cap:=S.evo hx
 have ho':a.eval o = .int kk j:=S.evo ho
 have hlo':lo.map a.eval=none∨∃ v,lo.map a.eval=some v∧∃ k,v = .int k 0:=by
  rcases hlo with rfl | ⟨o,k,rfl,h⟩
  ·exact .inl rfl
  ·exact .inr ⟨_,rfl,k,S.evo h⟩
 have hcap:k≤cap:=by
  rcases Nat.eq_zero_or_pos k with h | h
  ·omega
  ·obtain ⟨g,cur,cs,_,_,_,h2,_⟩:=Res.row.at_ hr h
   exact h2
 have hjc:j≤(cap:Int):=by omega
 have hb:(Instr.sliceBounds true k cap (lo.map a.eval) (some (.int kk j)) none).run P w = .ok (0,j.toNat,cap) w:=by
  rcases hlo' with e1 | ⟨v,e1,k',rfl⟩ <;> rw [e1]
  ·simp [Instr.sliceBounds,Instr.sliceBound,asIntOf,h0,hjc]
  ·simp [Instr.sliceBounds,Instr.sliceBound,asIntOf,h0,hjc]
 have hz:A.map (·.add 0)=A:=by cases A <;> simp [Addr.add]
 refine s_runw (dv:= .v (.slice A j.toNat cap)) (w':=w) (m':=m) (H':=H') S ht rfl ?_ (S.same hf ?_ (fun k hk=> .inl hk)) (K · )
 ·simp only [execOp,hx',Option.map_some,Option.map_none,ho']
  simp only [Instr.sliceAt,Instr.slice,Sem.run_bind,run_underlying hu,Result.andThen_ok,hb,run_sizeI hT,Sem.run_pure,D.val,Nat.zero_mul,hz,Nat.sub_zero]
  simp
 ·obtain ⟨_,cs,c1,c2,c3,c4⟩:=hr
  have hsp:segsL ty' xs cs=segsL ty' (xs.take j.toNat) (cs.take j.toNat)++segsL ty' (xs.drop j.toNat) (cs.drop j.toNat):=by
   rw [← segsL_append _ _ _ _ (by simp [c1]),List.take_append_drop,List.take_append_drop]
  rw [hsp,okS_append] at c2
  have hl:(cellsOf (segsL ty' (xs.take j.toNat) (cs.take j.toNat))).length=j.toNat*ty'.size:=by
   rw [segsL_len_mul _ _ (by simp [c1]) c2.1,List.length_take,Nat.min_eq_left (by omega)]
  refine ⟨by rw [List.length_take]; omega,cs.take j.toNat,by simp [c1],c2.1,hl,?_⟩
  rcases c4 with ⟨e1,e2⟩ | ⟨g,cp,cur,e1,e2,e3,e4,e5,e6,e7⟩
  ·obtain ⟨rfl, -,rfl⟩:=Value.slice.inj e1
   have:j.toNat=0:=by omega
   rw [this]
   exact .inl ⟨rfl,rfl⟩
  ·obtain ⟨rfl, -,rfl⟩:=Value.slice.inj e1
   refine .inr ⟨g,cap,cur,rfl,e2,e3,by omega,e5,e6,?_⟩
   have h5:j.toNat*ty'.size≤k*ty'.size:=Nat.mul_le_mul_right _ hjk
   rw [hsp,cellsOf_append] at e7
   have:cur.toList.take (j.toNat*ty'.size)=(cur.toList.take (k*ty'.size)).take (j.toNat*ty'.size):=by rw [List.take_take,Nat.min_eq_left h5]
   rw [this,e7, ← hl,List.take_left]
theorem St.rowfro {α:Type}(S:St n m w0 l H a w){ee:TypeId}{A:Option Addr}{k cap:Nat}{ty':Ty α}{xs:List α}{H':List Res}(hf:Pull H (Res.row ty' ee A k cap xs) H') :
  ∃ m',LeM m m'∧St n m' w0 l H' a w∧RdS ty' A xs m'∧xs.length=k∧k≤cap∧cap≤maxLen:=by
 have hr:=S.holds _ hf.mem.1
 have hap:=hf.apart S.apart
 rcases Nat.eq_zero_or_pos k with h | h
 ·obtain ⟨h0,cs,c1,c2,c3,c4⟩:=hr
  have hx:xs=[]:=List.eq_nil_of_length_eq_zero (by omega)
  subst hx
  have hcm:k≤cap∧cap≤maxLen:=by
   rcases c4 with ⟨e1,e2⟩ | ⟨g,cp,cur,e1,e2,e3,e4,e5,e6,e7⟩
   ·obtain ⟨-, -,rfl⟩:=Value.slice.inj e1; simp [h]
   ·obtain ⟨-, -,rfl⟩:=Value.slice.inj e1; exact ⟨e4,e5⟩
  exact ⟨m,LeM.refl m,⟨S.size,S.defers,S.get,S.below,S.le,S.fresh,fun r hr=>S.holds r (hf.mem.2 r hr),fun r hr=>S.base r (hf.mem.2 r hr),hap.2,S.frz,fun r hr=>S.frzH r (hf.mem.2 r hr)⟩,RdS.nil _ _ _,h0,hcm⟩
 obtain ⟨g,cur,cs,rfl,hk,c1,c2,c3,c4,c5,c6,c7⟩:=Res.row.at_ hr h
 let m':Mem:=fun p=>if p.block=g∧p.spot=none then cur[p.off]? else m p
 have hblk:(Res.row ty' ee (some ⟨g,0,none⟩) k cap xs).blk g:=rfl
 have hle:LeM m m':=fun p v hv=>by
  have:p.block≠g:=fun e=>S.frzH _ hf.mem.1 p v hv (by rw [e]; rfl)
  simp only [m',this,false_and,if_false]
  exact hv
 have hfrz:Frz m' w:=fun p v hv=>by
  by_cases hp:p.block=g∧p.spot=none
  ·simp only [m',hp,and_self,if_true] at hv
   obtain ⟨b,o,sp⟩:=p
   obtain ⟨rfl,rfl⟩:=hp
   refine cellM_of ?_
   rw [cell_of_row w _ _ cur ee (0,0) c1]
   exact hv
  ·simp only [m',hp,if_false] at hv
   exact S.frz p v hv
 refine ⟨m',hle,⟨S.size,S.defers,fun t d h=>⟨(S.get t d h).1,D.ok_mono hle (S.get t d h).2⟩,S.below,S.le.trans hle,fun p v hv=>?_,fun r hr=>r.mono m m' w hle (S.holds r (hf.mem.2 r hr)),fun r hr=>S.base r (hf.mem.2 r hr),hap.2,hfrz,fun r hr p v hv hbp=>?_⟩,fun i hi=>?_,hk,c2,c3⟩
 ·by_cases hp:p.block=g∧p.spot=none
  ·exact .inr (hp.1 ▸ S.base _ hf.mem.1 g rfl)
  ·simp only [m',hp,if_false] at hv
   exact S.fresh p v hv
 ·by_cases hp:p.block=g∧p.spot=none
  ·exact hap.1 r hr g rfl (hp.1 ▸ hbp)
  ·simp only [m',hp,if_false] at hv
   exact S.frzH r (hf.mem.2 r hr) p v hv hbp
 ·have hi':i<cs.length:=by omega
  have hel:=(segsL_ok xs cs c5).1 c6 _ hi hi'
  refine ⟨⟨g,0,none⟩,cs[i],rfl,okS_mono hle hel,fun j v hv=>?_⟩
  have hj:j<ty'.size:=by
   have:=(List.getElem?_eq_some_iff.1 hv).1
   rwa [len_cellsOf hel,ty'.len] at this
  have h2:=segsL_cell xs cs c5 c6 i hi hi' j hj
  rw [hv, ← c7] at h2
  have hb:i*ty'.size+j<k*ty'.size:=by
   have h3:(i+1)*ty'.size≤k*ty'.size:=Nat.mul_le_mul_right _ (by omega)
   rw [Nat.add_mul] at h3
   omega
  rw [List.getElem?_take_of_lt hb] at h2
  have ha:(⟨g,0,none⟩:Addr).add (i*ty'.size+j)=⟨g,i*ty'.size+j,none⟩:=by unfold Addr.add; split <;> simp_all
  rw [ha]
  simpa [m'] using h2
theorem St.slot (S:St n m w0 l H a w){u:Nat}{d d':D}(hu:fnd l u=some d)(hv:d.val=d'.val)(hok:d'.ok m):St n m w0 ((u,d')::l) H a w:=by
 refine ⟨S.size,S.defers,fun t e hd=>?_,S.below,S.le,S.fresh,S.holds,S.base,S.apart,S.frz,S.frzH⟩
 rw [fnd_cons] at hd
 by_cases ht:u=t
 ·rw [iP ht] at hd
  obtain rfl:=sI hd
  subst ht
  exact ⟨hv ▸ (S.get _ _ hu).1,hok⟩
 ·rw [iN ht] at hd
  exact S.get t e hd
theorem St.slotro {α:Type}(S:St n m w0 l H a w){u k cap:Nat}{A:Option Addr}{ty':Ty α}{xs:List α}(hu:fnd l u=some (.v (.slice A k cap)))(h:RdS ty' A xs m∧xs.length=k∧k≤cap∧cap≤maxLen):St n m w0 ((u, .sl A xs.length cap (RdS ty' A xs))::l) H a w :=
 S.slot hu (by obtain ⟨_,rfl,_⟩:=h; rfl) ⟨by omega,h.2.2.2,h.1,RdS.mono _ _ _⟩
theorem St.cellro (S:St n m w0 l H a w){g:Nat}{e:TypeId}{s s':List Seg}{H':List Res}(hf:Foc H (Res.cells g e s) (Res.cells g e s') H')(hc:cellsOf s'=cellsOf s)(hok:okS m s→okS m s'):St n m w0 l H' a w :=
 have hr:=S.holds _ hf.mem
 S.same hf ⟨by rw [hc]; exact hr.1,hok hr.2⟩ (fun k hk=> .inl hk)
theorem rep_ok {α:Type}{ty':Ty α}{z:α}{c0:ty'.Ch}(hzok:okS m (ty'.segs z c0))(N:Nat):okS m (segsL ty' (List.replicate N z) (List.replicate N c0)):=(segsL_ok _ _ (by simp)).2 fun i hi hi'=>by simpa using hzok
theorem made_cells {α:Type}{ty':Ty α}{z:α}{c0:ty'.Ch}{zv:Value}(hzok:okS m (ty'.segs z c0))(hzc:zv.cells.toList=cellsOf (ty'.segs z c0))(i5:zv.cells.size=ty'.size)(i6:0<ty'.size)(N:Nat) :
  (madeCells zv.cells (N*ty'.size)).toList=cellsOf (segsL ty' (List.replicate N z) (List.replicate N c0)):=by
 apply List.ext_getElem?
 intro j
 have hlen:(cellsOf (segsL ty' (List.replicate N z) (List.replicate N c0))).length=N*ty'.size:=by rw [segsL_len_mul _ _ (by simp) (rep_ok hzok N),List.length_replicate]
 rcases Nat.lt_or_ge j (N*ty'.size) with hj | hj
 ·have hm:j % ty'.size<ty'.size:=Nat.mod_lt _ i6
  have hi:j / ty'.size<N:=Nat.div_lt_of_lt_mul (by rwa [Nat.mul_comm])
  have hjj:j / ty'.size*ty'.size+j % ty'.size=j:=by rw [Nat.mul_comm]; exact Nat.div_add_mod j ty'.size
  have h1:=segsL_cell (ty:=ty') (List.replicate N z) (List.replicate N c0) (by simp) (rep_ok hzok N) (j / ty'.size) (by simpa using hi) (by simpa using hi) (j % ty'.size) hm
  rw [hjj] at h1
  rw [h1]
  simp only [List.getElem_replicate, ← hzc]
  have hzs:zv.cells.size=ty'.size:=i5
  simp [madeCells,hj,hzs,hm]
 ·rw [List.getElem?_eq_none (by simpa [madeCells] using hj),List.getElem?_eq_none (by rw [hlen]; exact hj)]
end
end GW
