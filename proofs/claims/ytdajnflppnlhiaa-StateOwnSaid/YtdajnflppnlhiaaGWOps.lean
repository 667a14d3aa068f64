import Derived.Test.YtdajnflppnlhiaaGWCore
import Derived.ChangeKeysEq
import Derived.Maps.AppendAt
import Derived.Laws.StructEq
import Derived.Laws.Small
set_option linter.unusedVariables false
set_option linter.unusedSimpArgs false
namespace GW
open Go Go.RowKit
def aggB:TypeDesc→Bool
 | .struct _=>true
 | .array _ _=>true
 | _=>false
def tyI (P:Program)(t:TypeId):Option (Bool×Nat) :=
 match P.underlying t,P.info? t with
 | some d,some i=>some (aggB d,i.size)
 | _,_=>none
theorem tyI_some {P:Program}{t:TypeId}{b:Bool}{z:Nat}(h:tyI P t=some (b,z)):∃ d i,P.underlying t=some d∧P.info? t=some i∧aggB d=b∧i.size=z:=by
 unfold tyI at h
 split at h
 ·rename_i d i hd hi
  simp only [Option.some.injEq,Prod.mk.injEq] at h
  exact ⟨d,i,hd,hi,h.1,h.2⟩
 ·cases h
def zeroI (P:Program)(t:TypeId):Option Value:=(P.info? t).bind (·.zero)
def fieldI (P:Program)(t:TypeId)(f:Nat):Option (Nat×TypeId) :=
 match P.underlying t with
 | some (.struct fs)=>(fs[f]?).map fun x=>(x.offset,x.type)
 | _=>none
theorem run_szOf {P:Program}{t:TypeId}{i:TypeInfo}(h:P.info? t=some i)(w:World):(Go.sizeOf t).run P w = .ok i.size w:=by
 simp [Go.sizeOf,typeInfo,h]
theorem run_isAgg {P:Program}{t:TypeId}{b:Bool}{z:Nat}(h:tyI P t=some (b,z))(w:World):(isAgg t).run P w = .ok b w:=by
 obtain ⟨d,i,hd,hi,hb,hz⟩:=tyI_some h
 unfold isAgg
 simp only [Sem.run_bind,run_underlying hd,Result.andThen_ok]
 cases d <;> simp_all [aggB]
theorem run_sizeI {P:Program}{t:TypeId}{b:Bool}{z:Nat}(h:tyI P t=some (b,z))(w:World):(Go.sizeOf t).run P w = .ok z w:=by
 obtain ⟨d,i,hd,hi,hb,hz⟩:=tyI_some h
 rw [run_szOf hi,hz]
theorem run_zeroI {P:Program}{t:TypeId}{v:Value}(h:zeroI P t=some v)(w:World):(zeroValue t).run P w = .ok v w:=by
 unfold zeroI at h
 obtain ⟨i,hi,hz⟩:=Option.bind_eq_some_iff.1 h
 simp [zeroValue,typeInfo,hi,hz]
def inK (k:IntKind)(x:Int):Prop:=(Lit.int k x).wf=true
def wr (k:IntKind)(x:Int):Int:=k.wrap x
def shl (k:IntKind)(x:Int)(n:Nat):Int:=k.wrap (x*2 ^ n)
def shr (x:Int)(n:Nat):Int:=x.fdiv (2 ^ n)
def binI (op:BinOp)(k:IntKind)(p q:Int):Option Value :=
 match op with
 | .add=>some (.int k (wr k (p+q)))
 | .sub=>some (.int k (wr k (p - q)))
 | .mul=>some (.int k (wr k (p*q)))
 | .and=>some (.int k (bits .and k p q))
 | .or=>some (.int k (bits .or k p q))
 | .xor=>some (.int k (bits .xor k p q))
 | .andNot=>some (.int k (bits .andNot k p q))
 | .eql=>some (.bool (p==q))
 | .neq=>some (.bool (p != q))
 | .lss=>some (.bool (decide (p<q)))
 | .leq=>some (.bool (decide (p≤q)))
 | .gtr=>some (.bool (decide (q<p)))
 | .geq=>some (.bool (decide (q≤p)))
 | _=>none
theorem binI_plain {op:BinOp}{k:IntKind}{p q:Int}{v:Value}(h:binI op k p q=some v):plain v=true:=by
 cases op <;> simp [binI] at h <;> subst h <;> rfl
section
variable {P:Program} {n:Nat} {m:Mem} {w0:Base} {l:List (Nat×D)} {H:List Res} {a:Act} {w:World}
variable {ops:Array Oper} {Q:Exit→Act→World→Prop} {rest:List Oper} {ty:TypeId} {ps:String} {af:Array Edge} {t:Nat}
theorem evo_ok (S:St n m w0 l H a w){x:Operand}{d:D}(h:evo l x=some d):d.ok m:=by
 cases x with
 | tmp t=>exact (S.get t d h).2
 | const v =>
  have h':(bif plain v then some (D.v v) else none)=some d:=h
  cases hp:plain v with
  | true=>rw [hp] at h'; obtain rfl:=sI h'; exact hp
  | false=>rw [hp] at h'; cases h'
 | global g=>obtain rfl:=sI h; rfl
 | func f=>obtain rfl:=sI h; rfl
theorem s_move (S:St n m w0 l H a w){x:Operand}{d:D}(hx:evo l x=some d)(ht:Nat.blt t n=true)
  (K:∀ a',St n m w0 ((t,d)::l) H a' w→wpList P ops Q rest a' w):wpList P ops Q (⟨some t, .move x,ty,ps,af,none⟩::rest) a w :=
 s_run S ht (evo_ok S hx) (by simp only [execOp,S.evo hx,Sem.run_pure]) K
theorem s_assign (S:St n m w0 l H a w){x:Operand}{d:D}(hx:evo l x=some d)(ht:Nat.blt t n=true)
  (K:∀ a',St n m w0 ((t,d)::l) H a' w→wpList P ops Q rest a' w):wpList P ops Q (⟨some t, .assign x,ty,ps,af,none⟩::rest) a w :=
 s_run S ht (evo_ok S hx) (by simp only [execOp,S.evo hx,Sem.run_pure]) K
theorem s_bin (S:St n m w0 l H a w){bo:BinOp}{xt yt:TypeId}{x y:Operand}{k:IntKind}{p q:Int}{v:Value}(hx:evo l x=some (.v (.int k p)))(hy:evo l y=some (.v (.int k q)))
  (hb:binI bo k p q=some v) (ht:Nat.blt t n=true)
  (K:∀ a',St n m w0 ((t, .v v)::l) H a' w→wpList P ops Q rest a' w):wpList P ops Q (⟨some t, .binOp bo xt x y yt,ty,ps,af,none⟩::rest) a w :=
 s_run (dv:= .v v) S ht (binI_plain hb) (by
  simp only [execOp,S.evo hx,S.evo hy,D.val]
  cases bo <;> simp [binI] at hb <;> subst hb <;> simp [go_sem,Op.intArith,wr]) K
theorem s_quo (S:St n m w0 l H a w){xt yt:TypeId}{x y:Operand}{k:IntKind}{p q:Int}(hx:evo l x=some (.v (.int k p)))(hy:evo l y=some (.v (.int k q)))
  (hq:q≠0) (ht:Nat.blt t n=true)
  (K:∀ a',St n m w0 ((t, .v (.int k (wr k (p.tdiv q))))::l) H a' w→wpList P ops Q rest a' w):wpList P ops Q (⟨some t, .binOp .quo xt x y yt,ty,ps,af,none⟩::rest) a w :=
 s_run (dv:= .v (.int k (wr k (p.tdiv q)))) S ht rfl (by
  simp only [execOp,S.evo hx,S.evo hy,D.val]
  simp [go_sem,Op.intDiv,hq,wr]) K
theorem s_rem (S:St n m w0 l H a w){xt yt:TypeId}{x y:Operand}{k:IntKind}{p q:Int}(hx:evo l x=some (.v (.int k p)))(hy:evo l y=some (.v (.int k q)))
  (hq:q≠0) (ht:Nat.blt t n=true)
  (K:∀ a',St n m w0 ((t, .v (.int k (p.tmod q)))::l) H a' w→wpList P ops Q rest a' w):wpList P ops Q (⟨some t, .binOp .rem xt x y yt,ty,ps,af,none⟩::rest) a w :=
 s_run (dv:= .v (.int k (p.tmod q))) S ht rfl (by
  simp only [execOp,S.evo hx,S.evo hy,D.val]
  simp [go_sem,Op.intDiv,hq]) K
theorem s_shl (S:St n m w0 l H a w){xt yt:TypeId}{x y:Operand}{k yk:IntKind}{p q:Int}{e:Nat}(hx:evo l x=some (.v (.int k p)))(hy:evo l y=some (.v (.int yk q)))
  (hq:0≤q) (he:min q.toNat k.bits=e) (ht:Nat.blt t n=true)
  (K:∀ a',St n m w0 ((t, .v (.int k (shl k p e)))::l) H a' w→wpList P ops Q rest a' w):wpList P ops Q (⟨some t, .binOp .shl xt x y yt,ty,ps,af,none⟩::rest) a w :=
 s_run (dv:= .v (.int k (shl k p e))) S ht rfl (by
  simp only [execOp,S.evo hx,S.evo hy,D.val]
  subst he
  simp [go_sem,Op.shift,shl,show ¬ q<0 by omega]) K
theorem s_shr (S:St n m w0 l H a w){xt yt:TypeId}{x y:Operand}{k yk:IntKind}{p q:Int}{e:Nat}(hx:evo l x=some (.v (.int k p)))(hy:evo l y=some (.v (.int yk q)))
  (hq:0≤q) (he:min q.toNat k.bits=e) (ht:Nat.blt t n=true)
  (K:∀ a',St n m w0 ((t, .v (.int k (shr p e)))::l) H a' w→wpList P ops Q rest a' w):wpList P ops Q (⟨some t, .binOp .shr xt x y yt,ty,ps,af,none⟩::rest) a w :=
 s_run (dv:= .v (.int k (shr p e))) S ht rfl (by
  simp only [execOp,S.evo hx,S.evo hy,D.val]
  subst he
  simp [go_sem,Op.shift,shr,show ¬ q<0 by omega]) K
theorem s_not (S:St n m w0 l H a w){xt:TypeId}{x:Operand}{b:Bool}(hx:evo l x=some (.v (.bool b)))(ht:Nat.blt t n=true)
  (K:∀ a',St n m w0 ((t, .v (.bool (!b)))::l) H a' w→wpList P ops Q rest a' w):wpList P ops Q (⟨some t, .unOp .not xt x,ty,ps,af,none⟩::rest) a w :=
 s_run (dv:= .v (.bool (!b))) S ht rfl (by simp only [execOp,S.evo hx,D.val]; simp [Op.unary]) K
theorem s_conv (S:St n m w0 l H a w){src dst:TypeId}{x:Operand}{k k':IntKind}{p:Int}(hx:evo l x=some (.v (.int k p)))
  (hs:(P.underlying src).isSome=true) (hd:P.underlying dst=some (.int k')) (ht:Nat.blt t n=true)
  (K:∀ a',St n m w0 ((t, .v (.int k' (wr k' p)))::l) H a' w→wpList P ops Q rest a' w):wpList P ops Q (⟨some t, .convert src dst x,ty,ps,af,none⟩::rest) a w :=
 s_run (dv:= .v (.int k' (wr k' p))) S ht rfl (by
  simp only [execOp,S.evo hx,D.val]
  obtain ⟨ds,hds⟩:=Option.isSome_iff_exists.1 hs
  simp [convert,run_underlying hds,run_underlying hd,Conv.intToInt,wr]) K
theorem s_pick (S:St n m w0 l H a w){c x y:Operand}{b:Bool}{d:D}(hc:evo l c=some (.v (.bool b)))(hx:evo l (cond b x y)=some d)(ht:Nat.blt t n=true)
  (K:∀ a',St n m w0 ((t,d)::l) H a' w→wpList P ops Q rest a' w):wpList P ops Q (⟨some t, .pick c x y,ty,ps,af,none⟩::rest) a w :=
 s_run S ht (evo_ok S hx) (by
  have hc':a.eval c = .bool b:=S.evo hc
  simp only [execOp,hc']
  cases b
  ·have:=S.evo (x:=y) hx
   simp [asBool,this]
  ·have:=S.evo (x:=x) hx
   simp [asBool,this]) K
theorem pd_ok {m:Mem}{d:Bool×List Seg}(h2:okS m d.2):(pd d).ok m:=by
 obtain ⟨b,s⟩:=d
 cases b with
 | true=>exact h2
 | false =>
  cases s with
  | nil=>exact (rfl:plain (.bool false)=true)
  | cons x r =>
   cases x with
   | one v=>exact h2.1
   | ints k xs n=>exact (rfl:plain (.bool false)=true)
   | sl A n cap R=>exact h2.1
   | rf v R=>exact h2.1
theorem pd_val (d:Bool×List Seg):(pd d).val=pv d:=by
 obtain ⟨b,s⟩:=d
 cases b with
 | true=>rfl
 | false =>
  cases s with
  | nil=>rfl
  | cons x r=>cases x <;> rfl
theorem s_extract (S:St n m w0 l H a w){x:Operand}{i:Nat}{ds:List (Bool×List Seg)}{d:Bool×List Seg}{d':D}(hx:evo l x=some (.tup ds))(hi:ds[i]?=some d)(hd:pd d=d')(ht:Nat.blt t n=true)
    (K:∀ a',St n m w0 ((t,d')::l) H a' w→wpList P ops Q rest a' w):wpList P ops Q (⟨some t, .extract x i,ty,ps,af,none⟩::rest) a w:=by
  have hok:d'.ok m:=by
    have h1:okT m ds:=evo_ok S hx
    have h2:okS m d.2:=by
      clear hx
      induction ds generalizing i with
      | nil=>simp at hi
      | cons p r ih =>
        cases i with
        | zero => obtain rfl:p=d:=by simpa using hi
                  exact h1.1
        | succ i=>exact ih (by simpa using hi) h1.2
    subst hd
    exact pd_ok h2
  have hv:d'.val=pv d:=by subst hd; exact pd_val d
  refine s_run S ht hok ?_ K
  have hx':a.eval x = .tuple (ds.map pv).toArray:=S.evo hx
  simp only [execOp,hx']
  have h3:(ds.map pv)[i]?=some (pv d):=by simp [hi]
  simp only [Sem.run_bind,Instr.extract,List.getElem?_toArray,h3,Sem.run_pure,Result.andThen_ok,hv]
theorem s_box (S:St n m w0 l H a w){e:TypeId}{x:Operand}{d:D}(hx:evo l x=some d)(hd:d.isTup=false)(ht:Nat.blt t n=true)
  (K:∀ g a' w',St n m w0 ((t, .v (.pointer (some ⟨g,0,none⟩)))::l) (Res.cells g e d.segs::H) a' w'→wpList P ops Q rest a' w'):wpList P ops Q (⟨some t, .box e x,ty,ps,af,none⟩::rest) a w:=by
 have hok:=evo_ok S hx
 refine s_runw (dv:= .v (.pointer (some ⟨w.heap.size,0,none⟩))) (w':=w.alloc (.cells (cellsOf d.segs).toArray e)) S ht rfl ?_
  (S.new (Res.cells w.heap.size e d.segs) (World.grownBy_alloc w _ none) ⟨heap_alloc_new w _,D.ok_segs hok⟩ (fun k hk=>by obtain rfl:w.heap.size=k:=sI hk; exact Nat.le_refl _)) (K _ · _)
 simp only [execOp,S.evo hx]
 simp [Instr.box,newVar,newRow,D.cells_val hok hd]
 rfl
theorem s_alloc (S:St n m w0 l H a w){e:TypeId}{d:D}(hz:zeroI P e=some d.val)(hd:d.isTup=false)(hok:d.ok m)(ht:Nat.blt t n=true)
  (K:∀ g a' w',St n m w0 ((t, .v (.pointer (some ⟨g,0,none⟩)))::l) (Res.cells g e d.segs::H) a' w'→wpList P ops Q rest a' w'):wpList P ops Q (⟨some t, .alloc e,ty,ps,af,none⟩::rest) a w:=by
 refine s_runw (dv:= .v (.pointer (some ⟨w.heap.size,0,none⟩))) (w':=w.alloc (.cells (cellsOf d.segs).toArray e)) S ht rfl ?_
  (S.new (Res.cells w.heap.size e d.segs) (World.grownBy_alloc w _ none) ⟨heap_alloc_new w _,D.ok_segs hok⟩ (fun k hk=>by obtain rfl:w.heap.size=k:=sI hk; exact Nat.le_refl _)) (K _ · _)
 simp only [execOp]
 simp [Instr.alloc,run_zeroI hz,newVar,newRow,D.cells_val hok hd]
 rfl
def dropS:List Seg→Nat→Option (List Seg)
 | s,0=>some s
 | [],_+1=>none
 | x::r,o+1=>bif Nat.ble x.len (o+1) then dropS r (o+1 - x.len) else none
def takeS:List Seg→Nat→Option (List Seg)
 | _,0=>some []
 | [],_+1=>none
 | x::r,o+1=>bif Nat.ble x.len (o+1) then (takeS r (o+1 - x.len)).map (x :: ·) else none
def subS (s:List Seg)(o z:Nat):Option (List Seg):=(dropS s o).bind (takeS · z)
theorem dropS_cells {s s':List Seg}{o:Nat}(hok:okS m s)(h:dropS s o=some s'):cellsOf s'=(cellsOf s).drop o∧okS m s':=by
  induction s generalizing o with
  | nil=>cases o with
    | zero => obtain rfl:([]:List Seg)=s':=by simpa [dropS] using h
              exact ⟨rfl,tv⟩
    | succ o=>simp [dropS] at h
  | cons x r ih=>cases o with
    | zero => obtain rfl:x::r=s':=by simpa [dropS] using h
              exact ⟨rfl,hok⟩
    | succ o =>
      have h':(bif Nat.ble x.len (o+1) then dropS r (o+1 - x.len) else none)=some s':=h
      cases hb:Nat.ble x.len (o+1) with
      | false=>rw [hb] at h'; cases h'
      | true =>
        rw [hb] at h'
        obtain ⟨h1,h2⟩:=ih hok.2 h'
        refine ⟨?_,h2⟩
        have hl:x.cells.length≤o+1:=by rw [Seg.len_cells hok.1]; exact Nat.ble_eq.mp hb
        rw [h1,cellsOf,List.drop_append,List.drop_of_length_le hl,Seg.len_cells hok.1]
        rfl
theorem takeS_cells {s s':List Seg}{z:Nat}(hok:okS m s)(h:takeS s z=some s'):cellsOf s'=(cellsOf s).take z∧okS m s'∧(cellsOf s').length=z:=by
  induction s generalizing z s' with
  | nil=>cases z with
    | zero => obtain rfl:([]:List Seg)=s':=by simpa [takeS] using h
              exact ⟨rfl,tv,rfl⟩
    | succ z=>simp [takeS] at h
  | cons x r ih=>cases z with
    | zero => obtain rfl:([]:List Seg)=s':=by simpa [takeS] using h
              exact ⟨rfl,tv,rfl⟩
    | succ z =>
      have h':(bif Nat.ble x.len (z+1) then (takeS r (z+1 - x.len)).map (x :: ·) else none)=some s':=h
      cases hb:Nat.ble x.len (z+1) with
      | false=>rw [hb] at h'; cases h'
      | true =>
        rw [hb] at h'
        obtain ⟨s1,hs1,rfl⟩:=Option.map_eq_some_iff.1 (show (takeS r (z+1 - x.len)).map (x :: ·)=some s' from h')
        obtain ⟨h1,h2,h3⟩:=ih hok.2 hs1
        have hle:x.len≤z+1:=Nat.ble_eq.mp hb
        have hl:x.cells.length=x.len:=Seg.len_cells hok.1
        refine ⟨?_,⟨hok.1,h2⟩,?_⟩
        · rw [cellsOf,cellsOf,List.take_append,hl,h1,List.take_of_length_le (l:=x.cells) (by omega)]
        · rw [cellsOf,List.length_append,h3,hl]; omega
theorem subS_cells {s s':List Seg}{o z:Nat}(hok:okS m s)(h:subS s o z=some s'):cellsOf s'=((cellsOf s).drop o).take z∧okS m s'∧(cellsOf s').length=z:=by
 obtain ⟨s1,h1,h2⟩:=Option.bind_eq_some_iff.1 h
 obtain ⟨a1,a2⟩:=dropS_cells hok h1
 obtain ⟨b1,b2,b3⟩:=takeS_cells a2 h2
 exact ⟨by rw [b1,a1],b2,b3⟩
theorem loadCellsFrom_list {P:Program}(b o:Nat)(w:World)(cs:List Value):∀ (i:Nat) (acc:Array Value),(∀ j v,cs[j]?=some v→w.cell? ⟨b,o+i+j,none⟩=some v) →
  (loadCellsFrom ⟨b,o,none⟩ i cs.length acc).run P w = .ok (acc++cs.toArray) w:=by
 induction cs with
 | nil=>intro i acc _; simp [loadCellsFrom]
 | cons v r ih =>
  intro i acc h
  have h0:=h 0 v rfl
  have ha:(⟨b,o,none⟩:Addr).add i=⟨b,o+i,none⟩:=by unfold Addr.add; split <;> simp_all
  simp only [List.length_cons,loadCellsFrom,Sem.run_bind,ha,run_load,h0,Nat.add_zero] at *
  rw [Result.andThen_ok,ih (i+1) (acc.push v) (fun j u hu=>by have:=h (j+1) u (by simpa using hu); rw [show o+(i+1)+j=o+i+(j+1) by omega]; exact this)]
  simp
theorem run_loadVar_cells {P:Program}{t:TypeId}{z:Nat}{b o:Nat}{w:World}{cs:List Value}(ht:tyI P t=some (true,z))(hl:cs.length=z)(h:∀ j v,cs[j]?=some v→w.cell? ⟨b,o+j,none⟩=some v) :
  (loadVar t ⟨b,o,none⟩).run P w = .ok (.agg cs.toArray) w:=by
 unfold loadVar
 simp only [Sem.run_bind,run_isAgg ht,Result.andThen_ok,if_true,run_sizeI ht,loadCells]
 rw [← hl,loadCellsFrom_list b o w cs 0 #[] (by simpa using h)]
 simp
theorem run_loadVar_one {P:Program}{t:TypeId}{z:Nat}{p:Addr}{w:World}{v:Value}(ht:tyI P t=some (false,z))(h:w.cell? p=some v):(loadVar t p).run P w = .ok v w:=by
 unfold loadVar
 simp [run_isAgg ht,h]
theorem cell_of_cells {g:Nat}{e:TypeId}{s:List Seg}{w:World}(h:(Res.cells g e s).holds m w)(i:Nat):w.cell? ⟨g,i,none⟩=(cellsOf s)[i]?:=by
 rw [cell_of_row w g i _ e (0,0) h.1]; simp
theorem s_loada (S:St n m w0 l H a w){e:TypeId}{x:Operand}{g o z:Nat}{e':TypeId}{s s':List Seg}{T:List Res}(hx:evo l x=some (.v (.pointer (some ⟨g,o,none⟩))))(hf:Foc H (Res.cells g e' s) (Res.cells g e' s) T)
  (hT:tyI P e=some (true,z)) (hs:subS s o z=some s') (ht:Nat.blt t n=true)
  (K:∀ a',St n m w0 ((t, .agg s')::l) H a' w→wpList P ops Q rest a' w):wpList P ops Q (⟨some t, .load e x,ty,ps,af,none⟩::rest) a w:=by
 have hc:=S.holds _ hf.mem
 obtain ⟨h1,h2,h3⟩:=subS_cells hc.2 hs
 refine s_run (dv:= .agg s') S ht h2 ?_ K
 simp only [execOp,S.evo hx,D.val]
 simp only [Instr.loadAt,Instr.sureAddr,Sem.run_bind,Sem.run_pure,Result.andThen_ok]
 rw [run_loadVar_cells (cs:=cellsOf s') hT h3 (fun j v hv=>?_)]
 ·rfl
 ·rw [cell_of_cells hc, ← hv,h1]
  have hj:j<z:=by
   have:=(List.getElem?_eq_some_iff.1 hv).1
   omega
  rw [List.getElem?_take_of_lt hj,List.getElem?_drop]
theorem s_load1 (S:St n m w0 l H a w){e:TypeId}{x:Operand}{g o z:Nat}{e':TypeId}{s:List Seg}{v:Value}{T:List Res}(hx:evo l x=some (.v (.pointer (some ⟨g,o,none⟩))))(hf:Foc H (Res.cells g e' s) (Res.cells g e' s) T)
  (hT:tyI P e=some (false,z)) (hs:subS s o 1=some [.one v]) (ht:Nat.blt t n=true)
  (K:∀ a',St n m w0 ((t, .v v)::l) H a' w→wpList P ops Q rest a' w):wpList P ops Q (⟨some t, .load e x,ty,ps,af,none⟩::rest) a w:=by
 have hc:=S.holds _ hf.mem
 obtain ⟨h1,h2,h3⟩:=subS_cells hc.2 hs
 refine s_run (dv:= .v v) S ht h2.1 ?_ K
 simp only [execOp,S.evo hx,D.val]
 have hv:w.cell? ⟨g,o,none⟩=some v:=by
  rw [cell_of_cells hc]
  have h4:(cellsOf [Seg.one v])[0]?=some v:=rfl
  rw [h1,List.getElem?_take_of_lt (by omega),List.getElem?_drop] at h4
  simpa using h4
 simp only [Instr.loadAt,Instr.sureAddr,Sem.run_bind,Sem.run_pure,Result.andThen_ok]
 rw [run_loadVar_one hT hv]
 rfl
theorem cellsOf_append (s r:List Seg):cellsOf (s++r)=cellsOf s++cellsOf r:=by
 induction s with
 | nil=>rfl
 | cons x s ih=>simp [cellsOf,ih]
theorem okS_append {s r:List Seg}:okS m (s++r)↔okS m s∧okS m r:=by
 induction s with
 | nil=>simp [okS]
 | cons x s ih=>simp [okS,ih,and_assoc]
inductive Int_:List Seg→Nat→IntKind→List Int→Nat→List Int→List Seg→Prop where
 | here {k:IntKind} {xs ys:List Int} {n:Nat} {T:List Seg}:Int_ (.ints k xs n::T) 0 k xs n ys (.ints k ys n::T)
 | there {x:Seg} {T T':List Seg} {o o':Nat} {k:IntKind} {xs ys:List Int} {n:Nat} (h:Int_ T o k xs n ys T') (ho:x.len+o=o'):Int_ (x::T) o' k xs n ys (x::T')
theorem Int_.cell {s s':List Seg}{o:Nat}{k:IntKind}{xs ys:List Int}{n:Nat}(h:Int_ s o k xs n ys s')(hok:okS m s):xs.length=n∧∀ i,i<n→(cellsOf s)[o+i]?=some (.int k (xs.getD i 0)):=by
 induction h with
 | here =>
  refine ⟨hok.1,fun i hi=>?_⟩
  have hl:i<_:=hi
  rw [cellsOf,Nat.zero_add,List.getElem?_append_left (by simp only [Seg.cells,nums_length]; rw [hok.1]; exact hi)]
  simp [Seg.cells,nums,List.getD_eq_getElem?_getD,List.getElem?_eq_getElem (show i<_ by rw [hok.1]; exact hi)]
 | there h ho ih =>
  obtain ⟨h1,h2⟩:=ih hok.2
  refine ⟨h1,fun i hi=>?_⟩
  subst ho
  rw [cellsOf,List.getElem?_append_right (by rw [Seg.len_cells hok.1]; omega),Seg.len_cells hok.1, ← h2 i hi]
  congr 1
  omega
theorem Int_.set {s s':List Seg}{o:Nat}{k:IntKind}{xs ys:List Int}{n:Nat}(h:Int_ s o k xs n ys s')(hok:okS m s){i:Nat}(hi:i<n){u:Int}(hy:ys=xs.set i u) :
  cellsOf s'=(cellsOf s).set (o+i) (.int k u)∧okS m s':=by
 induction h with
 | @here k xs ys n T =>
  subst hy
  refine ⟨?_,⟨by simpa [Seg.ok] using hok.1,hok.2⟩⟩
  rw [cellsOf,cellsOf,Nat.zero_add,List.set_append_left _ _ (by simp only [Seg.cells,nums_length]; rw [hok.1]; exact hi)]
  simp [Seg.cells,nums,List.map_set]
 | there h ho ih =>
  obtain ⟨h1,h2⟩:=ih hok.2 hi hy
  refine ⟨?_,⟨hok.1,h2⟩⟩
  subst ho
  rw [cellsOf,cellsOf,List.set_append_right _ _ (by rw [Seg.len_cells hok.1]; omega),h1,Seg.len_cells hok.1]
  congr 2
  omega
theorem s_loadi (S:St n m w0 l H a w){e:TypeId}{x:Operand}{g o z b c:Nat}{e':TypeId}{s s':List Seg}{k:IntKind}{xs:List Int}{i:Int}{T:List Res}(hx:evo l x=some (.v (.pointer (some ⟨g,o,none⟩))))(hf:Foc H (Res.cells g e' s) (Res.cells g e' s) T)
  (hT:tyI P e=some (false,z)) (hs:Int_ s b k xs c xs s') (ho:b+i.toNat=o) (h0:0≤i) (h1:i<c) (ht:Nat.blt t n=true)
  (K:∀ a',St n m w0 ((t, .v (.int k (rd xs i)))::l) H a' w→wpList P ops Q rest a' w):wpList P ops Q (⟨some t, .load e x,ty,ps,af,none⟩::rest) a w:=by
 have hc:=S.holds _ hf.mem
 have hv:w.cell? ⟨g,o,none⟩=some (.int k (rd xs i)):=by
  rw [cell_of_cells hc, ← ho]
  exact (hs.cell hc.2).2 i.toNat (by omega)
 refine s_run (dv:= .v (.int k (rd xs i))) S ht rfl ?_ K
 simp only [execOp,S.evo hx,D.val]
 simp only [Instr.loadAt,Instr.sureAddr,Sem.run_bind,Sem.run_pure,Result.andThen_ok]
 rw [run_loadVar_one hT hv]
 rfl
theorem stored_cells {g:Nat}{e:TypeId}{s s':List Seg}{w:World}(h:(Res.cells g e s).holds m w){o:Nat}{v:Value}(hs:cellsOf s'=(cellsOf s).set o v)(hok:okS m s') :
  (Res.cells g e s').holds m (w.setCell ⟨g,o,none⟩ v)∧w.grownBy (w.setCell ⟨g,o,none⟩ v) (some g):=by
 refine ⟨⟨?_,hok⟩,?_⟩
 ·simp only [World.setCell,Array.getElem?_modify,h.1,hs]
  simp
 ·exact ⟨rfl,rfl,rfl,by simp [World.setCell],fun k hk hne=>Below.heap_setCell w ⟨g,o,none⟩ v k (fun e=>hne (by rw [e]))⟩
theorem run_store_plain {P:Program}{w:World}{p:Addr}{v u:Value}(hv:plain v=true)(hc:w.cell? p=some u)(hf:w.frozen? p=false):(store p v).run P w = .ok () (w.setCell p v):=by
 cases v <;> first | (simp [plain] at hv; done) | (simp [store,Sem.run,hc,hf])
theorem grownBy_set (w:World)(g i:Nat)(v:Value):w.grownBy (w.setCell ⟨g,i,none⟩ v) (some g) :=
 ⟨rfl,rfl,rfl,by simp [World.setCell],fun k hk hne=>Below.heap_setCell w ⟨g,i,none⟩ v k (fun e=>hne (by rw [e]))⟩
theorem run_storeCells {P:Program}(g:Nat)(e:TypeId)(ok:List Value→Prop):∀ (vs:List Value) (o i:Nat) (w:World) (cs:List Value),w.heap[g]?=some (.cells cs.toArray e (0,0))→o+i+vs.length≤cs.length→(∀ v∈vs,plain v=true) →
  ∃ w',(storeCells ⟨g,o,none⟩ vs i).run P w = .ok () w'∧w'.heap[g]?=some (.cells (cs.take (o+i)++vs++cs.drop (o+i+vs.length)).toArray e (0,0))∧w.grownBy w' (some g):=by
 intro vs
 induction vs with
 | nil=>intro o i w cs h _ _; exact ⟨w,by simp [storeCells],by simpa using h,World.grownBy.refl w _⟩
 | cons v r ih =>
  intro o i w cs h hl hp
  simp only [List.length_cons] at hl
  have ha:(⟨g,o,none⟩:Addr).add i=⟨g,o+i,none⟩:=by unfold Addr.add; split <;> simp_all
  have hcell:w.cell? ⟨g,o+i,none⟩=cs[o+i]?:=by rw [cell_of_row w g _ _ e (0,0) h]; simp
  have hc2:cs[o+i]?=some cs[o+i]:=List.getElem?_eq_getElem (by omega)
  have hfr:w.frozen? ⟨g,o+i,none⟩=false:=frozen_of_row w g _ _ e h
  have h':(w.setCell ⟨g,o+i,none⟩ v).heap[g]?=some (.cells (cs.set (o+i) v).toArray e (0,0)):=by
   simp only [World.setCell,Array.getElem?_modify,h]; simp
  obtain ⟨w',h1,h2,h3⟩:=ih o (i+1) (w.setCell ⟨g,o+i,none⟩ v) (cs.set (o+i) v) h' (by simp; omega) (fun u hu=>hp u (List.mem_cons_of_mem _ hu))
  refine ⟨w',?_,?_,?_⟩
  ·simp only [storeCells,Sem.run_bind,ha,run_store_plain (hp v List.mem_cons_self) (hcell.trans hc2) hfr,Result.andThen_ok,h1]
  ·rw [h2]
   have e1:(cs.set (o+i) v).take (o+(i+1))=cs.take (o+i)++[v]:=by
    rw [show o+(i+1)=(o+i)+1 by omega,List.take_succ_eq_append_getElem (by simp; omega)]
    simp [List.take_set_of_le]
   have e2:(cs.set (o+i) v).drop (o+(i+1)+r.length)=cs.drop (o+i+(r.length+1)):=by
    rw [List.drop_set_of_lt (by omega)]
    congr 1
    omega
   rw [e1,e2]
   simp
  ·exact World.grownBy.trans (grownBy_set w g (o+i) v) h3
def putS (s:List Seg)(o z:Nat)(new:List Seg):Option (List Seg):=(takeS s o).bind fun p=>(dropS s (o+z)).map fun q=>p++(new++q)
theorem s_store (S:St n m w0 l H a w){e:TypeId}{x y:Operand}{d:D}{g o z:Nat}{b:Bool}{e':TypeId}{s s':List Seg}{H':List Res}(hx:evo l x=some (.v (.pointer (some ⟨g,o,none⟩))))(hy:evo l y=some d)(hd:d.isTup=false)
  (hf:Foc H (Res.cells g e' s) (Res.cells g e' s') H') (hT:tyI P e=some (b,z)) (hz:lenOf d.segs=z) (hs:putS s o z d.segs=some s')
  (K:∀ w',St n m w0 l H' a w'→wpList P ops Q rest a w'):wpList P ops Q (⟨none, .store e x y,ty,ps,af,none⟩::rest) a w:=by
 have hc:=S.holds _ hf.mem
 have hok:=evo_ok S hy
 obtain ⟨p,hp,hs⟩:=Option.bind_eq_some_iff.1 hs
 obtain ⟨q,hq,rfl⟩:=Option.map_eq_some_iff.1 hs
 obtain ⟨p1,p2,p3⟩:=takeS_cells hc.2 hp
 obtain ⟨q1,q2⟩:=dropS_cells hc.2 hq
 have hdl:(cellsOf d.segs).length=z:=by rw [len_cellsOf (D.ok_segs hok),hz]
 have hlen:o+z≤(cellsOf s).length:=by
  have:(cellsOf p).length≤(cellsOf s).length:=by rw [p1]; simp; omega
  rcases Nat.lt_or_ge (cellsOf s).length (o+z) with hlt | hge
  ·exfalso
   have key:∀ (s q:List Seg) (u:Nat),okS m s→dropS s u=some q→u≤(cellsOf s).length:=by
    intro s
    induction s with
    | nil=>intro q u _ h; cases u with
     | zero=>simp
     | succ u=>simp [dropS] at h
    | cons x r ih=>intro q u hok h; cases u with
     | zero=>simp
     | succ u =>
      have h':(bif Nat.ble x.len (u+1) then dropS r (u+1 - x.len) else none)=some q:=h
      cases hb:Nat.ble x.len (u+1) with
      | false=>rw [hb] at h'; cases h'
      | true =>
       rw [hb] at h'
       have:=ih q _ hok.2 h'
       have:=Nat.ble_eq.mp hb
       rw [cellsOf,List.length_append,Seg.len_cells hok.1]
       omega
   have:=key s q (o+z) hc.2 hq
   omega
  ·exact hge
 obtain ⟨w',h1,h2,h3⟩:=run_storeCells (P:=P) g e' (fun _=>True) (cellsOf d.segs) o 0 w (cellsOf s) hc.1 (by rw [hdl]; omega) (plain_cells (D.ok_segs hok))
 refine s_runu (w':=w') (m':=m) (H':=H') S ?_ (S.turn hf h3 ⟨?_,?_⟩ (fun k hk=> .inl hk)) (K w')
 ·have hx':a.eval x = .pointer (some ⟨g,o,none⟩):=S.evo hx
  simp only [execOp,hx',S.evo hy]
  have hsz:(d.val.cells).size=z:=by rw [D.cells_val hok hd]; simpa using hdl
  have hcl:d.val.cells.toList=cellsOf d.segs:=by rw [D.cells_val hok hd]
  simp only [Instr.storeAt,Instr.sureAddr,storeVar,Sem.run_bind,Sem.run_pure,Result.andThen_ok,run_sizeI hT,hsz,ne_eq,not_true_eq_false,if_false,hcl,h1]
 ·rw [h2]
  simp only [Nat.add_zero,hdl]
  rw [cellsOf_append,cellsOf_append,p1,q1,List.append_assoc]
 ·rw [okS_append,okS_append]
  exact ⟨p2,D.ok_segs hok,q2⟩
theorem s_storei (S:St n m w0 l H a w){e:TypeId}{x y:Operand}{g o b c:Nat}{e':TypeId}{s s':List Seg}{k:IntKind}{xs:List Int}{i u:Int}{H':List Res}(hx:evo l x=some (.v (.pointer (some ⟨g,o,none⟩))))(hy:evo l y=some (.v (.int k u)))
  (hf:Foc H (Res.cells g e' s) (Res.cells g e' s') H') (hT:tyI P e=some (false,1)) (hs:Int_ s b k xs c (xs.set i.toNat u) s') (ho:b+i.toNat=o) (h0:0≤i) (h1:i<c)
  (K:∀ w',St n m w0 l H' a w'→wpList P ops Q rest a w'):wpList P ops Q (⟨none, .store e x y,ty,ps,af,none⟩::rest) a w:=by
 have hc:=S.holds _ hf.mem
 obtain ⟨j1,j2⟩:=hs.set hc.2 (i:=i.toNat) (by omega) rfl
 have hv:=(hs.cell hc.2).2 i.toNat (by omega)
 rw [ho] at j1 hv
 obtain ⟨h2,h3⟩:=stored_cells hc j1 j2
 refine s_runu (w':=w.setCell ⟨g,o,none⟩ (.int k u)) (m':=m) (H':=H') S ?_ (S.turn hf h3 h2 (fun k hk=> .inl hk)) (K _)
 simp only [execOp,S.evo hx,S.evo hy,D.val]
 have hcell:w.cell? ⟨g,o,none⟩=some (.int k (xs.getD i.toNat 0)):=(cell_of_cells hc o).trans hv
 have hfr:w.frozen? ⟨g,o,none⟩=false:=frozen_of_row w g _ _ e' hc.1
 have ha:(⟨g,o,none⟩:Addr).add 0=⟨g,o,none⟩:=by simp [Addr.add]
 simp [Instr.storeAt,Instr.sureAddr,storeVar,run_sizeI hT,Value.cells,storeCells,ha,run_store_plain (v:= .int k u) rfl hcell hfr]
theorem s_iaddr (S:St n m w0 l H a w){e:TypeId}{x y:Operand}{g o o' c z:Nat}{et:TypeId}{b:Bool}{k:IntKind}{i:Int}(hx:evo l x=some (.v (.pointer (some ⟨g,o,none⟩))))(hy:evo l y=some (.v (.int k i)))
  (hu:P.underlying e=some (.array c et)) (hT:tyI P et=some (b,z)) (h0:0≤i) (h1:i<c) (ho:o+i.toNat*z=o') (ht:Nat.blt t n=true)
  (K:∀ a',St n m w0 ((t, .v (.pointer (some ⟨g,o',none⟩)))::l) H a' w→wpList P ops Q rest a' w):wpList P ops Q (⟨some t, .indexAddr e x y,ty,ps,af,none⟩::rest) a w :=
 s_run (dv:= .v (.pointer (some ⟨g,o',none⟩))) S ht rfl (by
  simp only [execOp,S.evo hx,S.evo hy,D.val]
  have ha:(⟨g,o,none⟩:Addr).add (i.toNat*z)=⟨g,o',none⟩:=by unfold Addr.add; split <;> simp_all
  simp [Instr.indexAt,asIntOf,run_underlying hu,Instr.sureAddr,h0,h1,run_sizeI hT,ha]) K
theorem s_nilchk (S:St n m w0 l H a w){x:Operand}{p:Addr}(hx:evo l x=some (.v (.pointer (some p))))(ht:Nat.blt t n=true)
  (K:∀ a',St n m w0 ((t, .v (.pointer (some p)))::l) H a' w→wpList P ops Q rest a' w):wpList P ops Q (⟨some t, .nilCheck x,ty,ps,af,none⟩::rest) a w :=
 s_run (dv:= .v (.pointer (some p))) S ht rfl (by simp only [execOp,S.evo hx,D.val]; simp) K
theorem run_eqItems_ints {P:Program}{e:TypeId}{k:IntKind}(hi:P.underlying e=some (.int k))(hT:tyI P e=some (false,1))(d:Nat)(xs ys:List Int)(w:World) :
  ∀ is:List Nat,(∀ i∈is,i<xs.length∧i<ys.length)→(Op.eqItems (d+1) e 1 (nums k xs).toArray (nums k ys).toArray is).run P w = .ok (is.all fun i=>xs.getD i 0==ys.getD i 0) w:=by
 intro is
 induction is with
 | nil=>intro _; simp [Op.eqItems]
 | cons i r ih =>
  intro h
  obtain ⟨h1,h2⟩:=h i List.mem_cons_self
  have px:(part e (nums k xs).toArray (i*1)).run P w = .ok (.int k (xs.getD i 0)) w:=by
   simp [part,run_isAgg hT,nums,List.getElem?_eq_getElem h1,List.getD_eq_getElem?_getD]
  have py:(part e (nums k ys).toArray (i*1)).run P w = .ok (.int k (ys.getD i 0)) w:=by
   simp [part,run_isAgg hT,nums,List.getElem?_eq_getElem h2,List.getD_eq_getElem?_getD]
  have pe:(Op.equalIn (d+1) e (.int k (xs.getD i 0)) (.int k (ys.getD i 0))).run P w = .ok (xs.getD i 0==ys.getD i 0) w:=by
   simp [Op.equalIn,run_underlying hi]
  simp only [Op.eqItems,Sem.run_bind,px,py,pe,Result.andThen_ok,List.all_cons]
  cases hb:(xs.getD i 0==ys.getD i 0) with
  | false=>simp
  | true=>simp [ih (fun j hj=>h j (List.mem_cons_of_mem _ hj))]
theorem all_getD (xs ys:List Int)(n:Nat)(hx:xs.length=n)(hy:ys.length=n):((List.range n).all fun i=>xs.getD i 0==ys.getD i 0)=decide (xs=ys):=by
 rw [Bool.eq_iff_iff]
 simp only [List.all_eq_true,List.mem_range,beq_iff_eq,decide_eq_true_eq]
 constructor
 ·intro h
  apply List.ext_getElem (by omega)
  intro i h1 h2
  have:=h i (by omega)
  simpa [List.getD_eq_getElem?_getD,List.getElem?_eq_getElem h1,List.getElem?_eq_getElem h2] using this
 ·rintro rfl i _
  rfl
theorem run_equal_ints {P:Program}{t e:TypeId}{k:IntKind}{c:Nat}(hu:P.underlying t=some (.array c e))(hi:P.underlying e=some (.int k))(hT:tyI P e=some (false,1)){xs ys:List Int}(hx:xs.length=c)(hy:ys.length=c)(w:World) :
  (Op.equalIn 10000 t (.agg (cellsOf [.ints k xs c]).toArray) (.agg (cellsOf [.ints k ys c]).toArray)).run P w = .ok (decide (xs=ys)) w:=by
 obtain ⟨dd,i,hd,hinf,hb,hz⟩:=tyI_some hT
 have hc:P.cellsOf e=1:=by simp [Program.cellsOf,hinf,hz]
 rw [show (10000:Nat)=9998+1+1 from rfl,run_equalIn_array w (9998+1) _ _ hu hinf,hc]
 have e1:(cellsOf [Seg.ints k xs c])=nums k xs:=by simp [cellsOf,Seg.cells]
 have e2:(cellsOf [Seg.ints k ys c])=nums k ys:=by simp [cellsOf,Seg.cells]
 rw [e1,e2,run_eqItems_ints hi hT 9998 xs ys w _ (fun i hi=>by have:=List.mem_range.1 hi; omega),all_getD xs ys c hx hy]
theorem run_eqGuard_agg {P:Program}{op:BinOp}{t:TypeId}{x y:Operand}{xs ys:Array Value}(hG:P.eqGuardType P.depth t=false)(w:World):(eqGuard op t x y (.agg xs) (.agg ys)).run P w = .ok () w:=by
 cases op <;> simp [eqGuard,program,Sem.run,hG]
theorem s_eqa (S:St n m w0 l H a w){xt yt e:TypeId}{x y:Operand}{k:IntKind}{c:Nat}{xs ys:List Int}(hx:evo l x=some (.agg [.ints k xs c]))(hy:evo l y=some (.agg [.ints k ys c]))
  (hu:P.underlying xt=some (.array c e)) (hi:P.underlying e=some (.int k)) (hT:tyI P e=some (false,1)) (hG:P.eqGuardType P.depth xt=false) (ht:Nat.blt t n=true)
  (K:∀ a',St n m w0 ((t, .v (.bool (decide (xs=ys))))::l) H a' w→wpList P ops Q rest a' w):wpList P ops Q (⟨some t, .binOp .eql xt x y yt,ty,ps,af,none⟩::rest) a w :=
 s_run (dv:= .v (.bool (decide (xs=ys)))) S ht rfl (by
  have ox:=evo_ok S hx
  have oy:=evo_ok S hy
  simp only [execOp,S.evo hx,S.evo hy,D.val]
  simp only [Sem.run_bind,run_eqGuard_agg hG,Result.andThen_ok,run_eql_struct,run_equal_ints hu hi hT ox.1 oy.1,Sem.run_pure]) K
theorem s_nea (S:St n m w0 l H a w){xt yt e:TypeId}{x y:Operand}{k:IntKind}{c:Nat}{xs ys:List Int}(hx:evo l x=some (.agg [.ints k xs c]))(hy:evo l y=some (.agg [.ints k ys c]))
  (hu:P.underlying xt=some (.array c e)) (hi:P.underlying e=some (.int k)) (hT:tyI P e=some (false,1)) (hG:P.eqGuardType P.depth xt=false) (ht:Nat.blt t n=true)
  (K:∀ a',St n m w0 ((t, .v (.bool (!decide (xs=ys))))::l) H a' w→wpList P ops Q rest a' w):wpList P ops Q (⟨some t, .binOp .neq xt x y yt,ty,ps,af,none⟩::rest) a w :=
 s_run (dv:= .v (.bool (!decide (xs=ys)))) S ht rfl (by
  have ox:=evo_ok S hx
  have oy:=evo_ok S hy
  simp only [execOp,S.evo hx,S.evo hy,D.val]
  simp only [Sem.run_bind,run_eqGuard_agg hG,Result.andThen_ok,run_neq_struct,run_equal_ints hu hi hT ox.1 oy.1,Sem.run_pure]) K
structure Fn_ (P:Program)(f:FuncId):Prop where
 out:∃ fn,P.funcs[f]?=some fn∧fn.body.isNone=false∧(fn.name == "runtime.NumGoroutine")=false
def evos (l:List (Nat×D)):List Operand→Option (List D)
 | []=>some []
 | x::r=>(evo l x).bind fun d=>(evos l r).map (d :: ·)
theorem St.evos (S:St n m w0 l H a w){xs:List Operand}{ds:List D}(h:evos l xs=some ds):xs.map a.eval=ds.map D.val∧∀ d∈ds,d.ok m:=by
 induction xs generalizing ds with
 | nil=>obtain rfl:([]:List D)=ds:=sI h; exact ⟨rfl,fun d hd=>by cases hd⟩
 | cons x r ih =>
  obtain ⟨d,hd,h⟩:=Option.bind_eq_some_iff.1 h
  obtain ⟨es,he,rfl⟩:=Option.map_eq_some_iff.1 h
  obtain ⟨h1,h2⟩:=ih he
  exact ⟨by simp [h1,S.evo hd],fun e he=>by rcases List.mem_cons.1 he with rfl | he; exact evo_ok S hd; exact h2 e he⟩
theorem run_callO {P:Program}{f:FuncId}(hf:Fn_ P f)(ρ:Operand→Value)(o:Oper)(c:Operand)(xs:List Operand)(ts:Array TypeId)(ho:o.op = .call ⟨.value c,xs.toArray,ts⟩)(hρ:ρ c = .func (.func f) #[] #[])(w:World) :
  (execOp ρ o).run P w = .ok (.enter f (xs.map ρ).toArray) w:=by
 obtain ⟨fn,h1,h2,h3⟩:=hf.out
 unfold execOp
 simp only [ho,resolve,Deferred.ofValue,hρ]
 have h2':fn.body≠none:=by intro e; rw [e] at h2; cases h2
 have h3':fn.name ≠ "runtime.NumGoroutine" := by simpa using h3
 simp [invoke,callFunc,program,Sem.run,h1,h2',h3']
def okL (m:Mem):List D→Prop
 | []=>True
 | d::r=>d.ok m∧okL m r
theorem okL_all {ds:List D}:okL m ds↔∀ d∈ds,d.ok m:=by
 induction ds with
 | nil=>simp [okL]
 | cons d r ih=>simp [okL,ih]
theorem c_region {id:Nat}{lo:List Oper}{y:Code}(h:wpList P lo.toArray (Exit.then (fun a w=>y.wp P Q a w) Q) lo a w):(Code.seq (.region id lo.toArray false) y).wp P Q a w :=
 wp_seq (wp_region_lit h)
theorem c_region' {id:Nat}{lo:List Oper}(h:wpList P lo.toArray Q lo a w):(Code.region id lo.toArray false).wp P Q a w:=wp_region_lit h
theorem c_end {y:Code}(h:y.wp P Q a w):wpList P ops (Exit.then (fun a w=>y.wp P Q a w) Q) [] a w:=wpList_nil h
theorem c_end' (h:Q .normal a w):wpList P ops Q [] a w:=wpList_nil h
theorem c_condT (S:St n m w0 l H a w){c:Operand}{x y:Code}{b:Bool}(hc:evo l c=some (.v (.bool b)))(hb:b=true)(h:x.wp P Q a w):(Code.cond c x y).wp P Q a w :=
 wp_cond_true (by rw [S.evo hc,hb]; rfl) h
theorem c_condF (S:St n m w0 l H a w){c:Operand}{x y:Code}{b:Bool}(hc:evo l c=some (.v (.bool b)))(hb:b=false)(h:y.wp P Q a w):(Code.cond c x y).wp P Q a w :=
 wp_cond_false (by rw [S.evo hc,hb]; rfl) h
theorem x_thenN {N:Act→World→Prop}(h:N a w):Exit.then N Q .normal a w:=h
theorem x_thenR {N:Act→World→Prop}(h:Q .ret a w):Exit.then N Q .ret a w:=h
theorem x_thenX {N:Act→World→Prop}{id:Nat}(h:Q (.exit id) a w):Exit.then N Q (.exit id) a w:=h
theorem x_blockN {id:Nat}(h:Q .normal a w):Exit.inBlock id Q .normal a w:=h
theorem x_blockR {id:Nat}(h:Q .ret a w):Exit.inBlock id Q .ret a w:=h
theorem x_blockX {id:Nat}(h:Q .normal a w):Exit.inBlock id Q (.exit id) a w:=by simp only [Exit.inBlock,if_true]; exact h
theorem x_blockO {id id':Nat}(hne:id'≠id)(h:Q (.exit id') a w):Exit.inBlock id Q (.exit id') a w:=by simp only [Exit.inBlock,iN hne]; exact h
theorem least (p:Nat→Prop)(h:∃ k,p k):∃ k,p k∧∀ j,p j→k≤j:=by
 obtain ⟨k,hk⟩:=h
 induction k using Nat.strongRecOn with
 | _ k ih =>
  by_cases hj:∃ j,j<k∧p j
  ·obtain ⟨j,h1,h2⟩:=hj
   exact ih j h1 h2
  ·exact ⟨k,hk,fun j hpj=>Nat.le_of_not_lt fun hlt=>hj ⟨j,hlt,hpj⟩⟩
theorem c_loop {c:Code}(R:Nat→Act→World→Prop)(h0:∀ a w,¬ R 0 a w)
  (round:∀ k a w,R (k+1) a w→c.wp P (Exit.then (fun a' w'=>R k a' w') Q) a w) {k:Nat} (h:R k a w):(Code.loop c).wp P Q a w:=by
 classical
 refine wp_loop (fun a w=>∃ k,R k a w) (fun a w=>if h:∃ k,R k a w then Classical.choose (least (fun k=>R k a w) h) else 0) ⟨k,h⟩ fun a w hI=>?_
 obtain ⟨hs,hmin⟩:=Classical.choose_spec (least (fun k=>R k a w) hI)
 have hμ:(if h:∃ k,R k a w then Classical.choose (least (fun k=>R k a w) h) else 0)=Classical.choose (least (fun k=>R k a w) hI):=dif_pos hI
 rw [hμ]
 generalize Classical.choose (least (fun k=>R k a w) hI)=q at hs hmin
 cases q with
 | zero=>exact absurd hs (h0 a w)
 | succ j =>
  refine Go.wp_mono (round j a w hs) fun e a' w' he=>?_
  cases e <;> try exact he
  have hR:R j a' w':=he
  refine ⟨⟨j,hR⟩,?_⟩
  obtain ⟨_,hmin'⟩:=Classical.choose_spec (least (fun k=>R k a' w') ⟨j,hR⟩)
  have h1:(if h:∃ k,R k a' w' then Classical.choose (least (fun k=>R k a' w') h) else 0)=Classical.choose (least (fun k=>R k a' w') ⟨j,hR⟩):=dif_pos ⟨j,hR⟩
  rw [h1]
  exact Nat.lt_succ_of_le (hmin' j hR)
theorem s_gT (S:St n m w0 l H a w){lo:List Oper}{dst:Option Tmp}{op:Op}{j:Nat}{want b:Bool}{tj:Tmp}(hj:(lo[j]?).bind (·.dst)=some tj)(hv:fnd l tj=some (.v (.bool b)))(hb:b=want)
  (h:wpList P lo.toArray Q (⟨dst,op,ty,ps,af,none⟩::rest) a w):wpList P lo.toArray Q (⟨dst,op,ty,ps,af,some (j,want)⟩::rest) a w:=by
 have hw:Region.wanted ⟨dst,op,ty,ps,af,some (j,want)⟩ (yielded lo.toArray a.tmps)=true:=by
  obtain ⟨oj,h1,h2⟩:=Option.bind_eq_some_iff.1 hj
  have h3:=(S.get _ _ hv).1
  simp [Region.wanted,yielded,h1,h2,h3,D.val,hb]
 unfold wpList at h ⊢
 rw [iP (by simp [Region.wanted])] at h
 rw [iP hw]
 exact h
theorem s_gF (S:St n m w0 l H a w){lo:List Oper}{op:Op}{j:Nat}{want b:Bool}{tj:Tmp}(hj:(lo[j]?).bind (·.dst)=some tj)(hv:fnd l tj=some (.v (.bool b)))(hb:b = !want)
  (ht:Nat.blt t n=true) (K:∀ a',St n m w0 ((t, .u)::l) H a' w→wpList P lo.toArray Q rest a' w):wpList P lo.toArray Q (⟨some t,op,ty,ps,af,some (j,want)⟩::rest) a w:=by
 have hw:Region.wanted ⟨some t,op,ty,ps,af,some (j,want)⟩ (yielded lo.toArray a.tmps)=false:=by
  obtain ⟨oj,h1,h2⟩:=Option.bind_eq_some_iff.1 hj
  have h3:=(S.get _ _ hv).1
  simp [Region.wanted,yielded,h1,h2,h3,D.val,hb]
 unfold wpList
 rw [iN (by simp [hw])]
 exact K _ (S.put (d:= .u) ht tv)
def evop (l:List (Nat×D)):List (Nat×Operand)→Option (List (Nat×D))
 | []=>some []
 | (i,x)::r=>(evo l x).bind fun d=>(evop l r).map ((i,d) :: ·)
theorem St.evop (S:St n m w0 l H a w){xs:List (Nat×Operand)}{ds:List (Nat×D)}(h:evop l xs=some ds):xs.map (fun p=>(p.1,a.eval p.2))=ds.map (fun p=>(p.1,p.2.val)):=by
 induction xs generalizing ds with
 | nil=>obtain rfl:([]:List (Nat×D))=ds:=sI h; rfl
 | cons x r ih =>
  obtain ⟨i,x⟩:=x
  obtain ⟨d,hd,h⟩:=Option.bind_eq_some_iff.1 h
  obtain ⟨es,he,rfl⟩:=Option.map_eq_some_iff.1 h
  simp [ih he,S.evo hd]
theorem s_build (S:St n m w0 l H a w){e:TypeId}{xs:List (Nat×Operand)}{ds:List (Nat×D)}{dv:D}(hx:evop l xs=some ds)(hrun:∀ w:World,(Instr.build e (ds.map (fun p=>(p.1,p.2.val))).toArray).run P w = .ok dv.val w)(hok:dv.ok m)(ht:Nat.blt t n=true)
  (K:∀ a',St n m w0 ((t,dv)::l) H a' w→wpList P ops Q rest a' w):wpList P ops Q (⟨some t, .build e xs.toArray,ty,ps,af,none⟩::rest) a w :=
 s_run S ht hok (by
  have he:=S.evop hx
  simp only [execOp,List.map_toArray]
  have h2:(xs.map fun x=>match x with | (i,x)=>(i,a.eval x))=ds.map (fun p=>(p.1,p.2.val)):=by rw [← he]
  simp only [h2,Sem.run_bind,hrun,Result.andThen_ok,Sem.run_pure]) K
theorem hc_of {l:List (Nat×D)}{x:Operand}{b c:Bool}(h:evo l x=some (.v (.bool b)))(hb:b=c):evo l x=some (.v (.bool c)):=hb ▸ h
theorem b_end {fn:Func}{R:Ending→World→Prop}(h:bodyPost P fn R .ret a w):bodyPost P fn R .normal a w:=h
def bt (s:ByteArray)(i:Int):Int:=if h:i.toNat<s.size then ((s[i.toNat]'h).toNat:Int) else 0
theorem s_indexT (S:St n m w0 l H a w){e:TypeId}{x y:Operand}{k:IntKind}{i:Int}{s:ByteArray}(hx:evo l x=some (.v (.string s)))(hy:evo l y=some (.v (.int k i)))
  (hu:P.underlying e=some .string) (h0:0≤i) (h1:i<s.size) (ht:Nat.blt t n=true)
  (K:∀ a',St n m w0 ((t, .v (.int .u8 (bt s i)))::l) H a' w→wpList P ops Q rest a' w):wpList P ops Q (⟨some t, .index e x y,ty,ps,af,none⟩::rest) a w :=
 s_run (dv:= .v (.int .u8 (bt s i))) S ht rfl (by
  have hx':a.eval x = .string s:=S.evo hx
  have hy':a.eval y = .int k i:=S.evo hy
  have hi:i.toNat<s.size:=by omega
  have hg:s[i.toNat]?=some (s[i.toNat]'hi):=by simp [hi]
  simp only [execOp,hx',hy']
  simp [Instr.index,asIntOf,run_underlying hu,h0,hg,bt,hi,D.val]) K
theorem s_eqT (S:St n m w0 l H a w){xt yt:TypeId}{x y:Operand}{p q:ByteArray}(hx:evo l x=some (.v (.string p)))(hy:evo l y=some (.v (.string q)))(ht:Nat.blt t n=true)
  (K:∀ a',St n m w0 ((t, .v (.bool (p.toList==q.toList)))::l) H a' w→wpList P ops Q rest a' w):wpList P ops Q (⟨some t, .binOp .eql xt x y yt,ty,ps,af,none⟩::rest) a w :=
 s_run (dv:= .v (.bool (p.toList==q.toList))) S ht rfl (by
  have hx':a.eval x = .string p:=S.evo hx
  have hy':a.eval y = .string q:=S.evo hy
  simp only [execOp,hx',hy']
  simp [eqGuard_at_string,binOp,Op.stringOp,D.val]) K
theorem s_neT (S:St n m w0 l H a w){xt yt:TypeId}{x y:Operand}{p q:ByteArray}(hx:evo l x=some (.v (.string p)))(hy:evo l y=some (.v (.string q)))(ht:Nat.blt t n=true)
  (K:∀ a',St n m w0 ((t, .v (.bool (!(p.toList==q.toList))))::l) H a' w→wpList P ops Q rest a' w):wpList P ops Q (⟨some t, .binOp .neq xt x y yt,ty,ps,af,none⟩::rest) a w :=
 s_run (dv:= .v (.bool (!(p.toList==q.toList)))) S ht rfl (by
  have hx':a.eval x = .string p:=S.evo hx
  have hy':a.eval y = .string q:=S.evo hy
  simp only [execOp,hx',hy']
  simp [eqGuard_at_string,binOp,Op.stringOp,D.val]) K
theorem mul1 (o i:Nat):o+i*1=o+i:=by rw [Nat.mul_one]
def numF:Nat→List D→List (Nat×D)
 | _,[]=>[]
 | i,d::r=>(i,d)::numF (i+1) r
theorem numF_get:∀ (ds:List D) (i t:Nat) (d:D),fnd (numF i ds) t=some d→∃ j,t=i+j∧ds[j]?=some d
 | [],i,t,d,h=>by simp [numF,fnd] at h
 | e::r,i,t,d,h=>by
  rw [numF,fnd_cons] at h
  by_cases hk:i=t
  ·rw [iP hk] at h
   exact ⟨0,by omega,by simpa using h⟩
  ·rw [iN hk] at h
   obtain ⟨j,h1,h2⟩:=numF_get r (i+1) t d h
   exact ⟨j+1,by omega,by simpa using h2⟩
def resD (P:Program)(l:List (Nat×D))(H:List Res):ResultVar→D→Prop
 | .tmp t,d=>fnd l t=some d
 | .cell t e,d=>∃ g e' s z,fnd l t=some (.v (.pointer (some ⟨g,0,none⟩)))∧Res.cells g e' s∈H∧((tyI P e=some (true,z)∧subS s 0 z=some s∧d = .agg s)∨∃ v,tyI P e=some (false,z)∧s=[.one v]∧d = .v v)
theorem resD_ok (S:St n m w0 l H a w){r:ResultVar}{d:D}(h:resD P l H r d):d.ok m:=by
 cases r with
 | tmp t=>exact (S.get _ _ h).2
 | cell p e =>
  obtain ⟨g,e',s,z,h1,h2,h3⟩:=h
  have hc:=S.holds _ h2
  rcases h3 with ⟨hT,hs,rfl⟩ | ⟨v,hT,rfl,rfl⟩
  ·exact hc.2
  ·exact hc.2.1
theorem resD_cell {p e:Nat}{d:D}{g:Nat}{e':TypeId}{s:List Seg}{z:Nat}{T:List Res}(h1:fnd l p=some (.v (.pointer (some ⟨g,0,none⟩))))(hf:Foc H (Res.cells g e' s) (Res.cells g e' s) T)(hT:tyI P e=some (true,z))(hs:subS s 0 z=some s)(hd:d = .agg s):resD P l H (.cell p e) d :=
 ⟨g,e',s,z,h1,hf.mem, .inl ⟨hT,hs,hd⟩⟩
def resV (P:Program)(a:Act)(w:World):ResultVar→Value→Prop
 | .tmp t,v=>a.tmps[t]?.getD undef=v
 | .cell p e,v=>∃ ad,a.tmps[p]?.getD undef = .pointer (some ad)∧(loadVar e ad).run P w = .ok v w
theorem run_resD (S:St n m w0 l H a w){r:ResultVar}{d:D}(h:resD P l H r d):resV P a w r d.val:=by
 cases r with
 | tmp t=>show a.tmps[t]?.getD undef=d.val; rw [(S.get _ _ h).1]; rfl
 | cell p e =>
  obtain ⟨g,e',s,z,h1,h2,h3⟩:=h
  have hc:=S.holds _ h2
  refine ⟨⟨g,0,none⟩,by rw [(S.get _ _ h1).1]; rfl,?_⟩
  rcases h3 with ⟨hT,hs,rfl⟩ | ⟨v,hT,rfl,rfl⟩
  ·obtain ⟨g1,g2,g3⟩:=subS_cells hc.2 hs
   exact run_loadVar_cells hT g3 (fun j v hv=>by rw [Nat.zero_add,cell_of_cells hc]; exact hv)
  ·exact run_loadVar_one hT (by rw [cell_of_cells hc]; rfl)
theorem b_ret0 {fn:Func}{R:Ending→World→Prop}(S:St n m w0 l H a w)(hr:fn.results = #[])(h:R (.returned (.tuple #[])) w):bodyPost P fn R .ret a w :=
 bodyPost_ret (v:= .tuple #[]) (results_none hr _ _ _) S.defers h
theorem b_ret1 {fn:Func}{R:Ending→World→Prop}(S:St n m w0 l H a w){r:ResultVar}{d:D}(hr:fn.results = #[r])(hd:resD P l H r d)(h:d.ok m→R (.returned d.val) w):bodyPost P fn R .ret a w:=by
  refine bodyPost_ret (v:=d.val) ?_ S.defers (h (resD_ok S hd))
  have h1:=run_resD S hd
  cases r with
  | tmp t => have h1:a.tmps[t]?.getD undef=d.val:=h1
             simp [results,hr,h1]
  | cell p e => obtain ⟨ad,h1,h2⟩:=h1
                simp [results,hr,h1,h2,asAddr]
theorem b_ret2 {fn:Func}{R:Ending→World→Prop}(S:St n m w0 l H a w){r1 r2:ResultVar}{d1 d2:D}(hr:fn.results = #[r1,r2])(hd1:resD P l H r1 d1)(hd2:resD P l H r2 d2)(h:d1.ok m→d2.ok m→R (.returned (.tuple #[d1.val,d2.val])) w):bodyPost P fn R .ret a w:=by
  refine bodyPost_ret (v:= .tuple #[d1.val,d2.val]) ?_ S.defers (h (resD_ok S hd1) (resD_ok S hd2))
  have h1:=run_resD S hd1
  have h2:=run_resD S hd2
  cases r1 with
  | tmp t =>
    have h1:a.tmps[t]?.getD undef=d1.val:=h1
    cases r2 with
    | tmp u => have h2:a.tmps[u]?.getD undef=d2.val:=h2
               simp [results,hr,h1,h2]
    | cell p e => obtain ⟨ad,h2,h3⟩:=h2
                  simp [results,hr,h1,h2,h3,asAddr]
  | cell p' e' =>
    obtain ⟨ad',h1,h1'⟩:=h1
    cases r2 with
    | tmp u => have h2:a.tmps[u]?.getD undef=d2.val:=h2
               simp [results,hr,h1,h1',h2,asAddr]
    | cell p e => obtain ⟨ad,h2,h3⟩:=h2
                  simp [results,hr,h1,h1',h2,h3,asAddr]
end
theorem ite_of {α:Type}{b:Bool}{x y:Option α}{r:α}(h:(if b=true then x else y)=some r):(b=true∧x=some r)∨(b=false∧y=some r):=by
 cases b with
 | true=>exact .inl ⟨rfl,by simpa using h⟩
 | false=>exact .inr ⟨rfl,by simpa using h⟩
theorem chk_of {α:Type}{c:Prop} [Decidable c] {x:Option α}{r:α}(h:(if c then x else none)=some r):c∧x=some r:=by
 by_cases hc:c
 ·rw [iP hc] at h; exact ⟨hc,h⟩
 ·rw [iN hc] at h; cases h
theorem bind_of {α β:Type}{x:Option α}{f:α→Option β}{r:β}(h:x.bind f=some r):∃ t,x=some t∧f t=some r:=Option.bind_eq_some_iff.1 h
end GW
