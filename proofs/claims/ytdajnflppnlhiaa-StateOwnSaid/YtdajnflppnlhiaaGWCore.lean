import Derived.Below
import Derived.KernelRfl
import Derived.Laws.OwnMore
import Derived.Laws.MakeOwn
import Derived.Laws.Entries
import Derived.Deep.OwnRows
import Derived.WalkKit
set_option linter.unusedVariables false
set_option linter.unusedSimpArgs false
namespace GW
open Go Go.RowKit
def rd (xs:List Int)(i:Int):Int:=xs.getD i.toNat 0
def nums (k:IntKind)(xs:List Int):List Value:=xs.map (Value.int k)
abbrev Mem:=Addr→Option Value
def LeM (m m':Mem):Prop:=∀ p v,m p=some v→m' p=some v
theorem LeM.refl (m:Mem):LeM m m:=fun _ _ h=>h
theorem LeM.trans {a b c:Mem}(h:LeM a b)(k:LeM b c):LeM a c:=fun p v hv=>k p v (h p v hv)
def encE (e:MapEntry):Value:= .tuple #[e.key,e.val, .int .i64 e.born]
def encM (es:Array MapEntry)(clock:Nat):Value:= .tuple #[.tuple (es.toList.map encE).toArray, .int .i64 clock]
def cellM (w:World)(p:Addr):Option Value :=
 if p.spot.isSome then (match w.heap[p.block]? with | some (.map es clock)=>some (encM es clock) | _=>none) else w.cell? p
theorem cellM_congr {w w':World}{p:Addr}(h:w'.heap[p.block]?=w.heap[p.block]?):cellM w' p=cellM w p:=by
 unfold cellM World.cell?
 rw [h]
theorem cellM_lt {w:World}{p:Addr}{v:Value}(h:cellM w p=some v):p.block<w.heap.size:=by
 refine Decidable.byContradiction fun hn=>?_
 have hh:w.heap[p.block]?=none:=Array.getElem?_eq_none (by omega)
 unfold cellM World.cell? at h
 rw [hh] at h
 split at h <;> cases h
theorem grown_cellM {w w':World}{row:Option Nat}{p:Addr}{v:Value}(hg:w.grownBy w' row)(h:cellM w p=some v)(hne:some p.block≠row):cellM w' p=some v :=
 (cellM_congr (hg.block p.block (cellM_lt h) hne)).trans h
theorem cellM_of {w:World}{p:Addr}{v:Value}(h:w.cell? p=some v):cellM w p=some v:=by
 unfold cellM
 by_cases c:p.spot.isSome=true
 ·exfalso
  unfold World.cell? at h
  split at h
  ·rw [if_pos c] at h; cases h
  ·cases h
 ·rw [if_neg c]; exact h
def Frz (m:Mem)(w:World):Prop:=∀ p v,m p=some v→cellM w p=some v
def m0:Mem:=fun _=>none
def Mono (R:Mem→Prop):Prop:=∀ m m',LeM m m'→R m→R m'
inductive Seg where
 | one (v:Value)
 | ints (k:IntKind) (xs:List Int) (n:Nat)
 | sl (A:Option Addr) (n cap:Nat) (R:Mem→Prop)
 | rf (v:Value) (R:Mem→Prop)
def plain:Value→Bool
 | .agg _=>false
 | .tuple _=>false
 | _=>true
theorem Frz.cell {m:Mem}{w:World}(hf:Frz m w){p:Addr}{v:Value}(h:m p=some v)(hp:plain v=true):w.cell? p=some v:=by
 have h1:=hf p v h
 unfold cellM at h1
 by_cases c:p.spot.isSome=true
 ·rw [if_pos c] at h1
  split at h1
  ·obtain rfl:=Option.some.inj h1; cases hp
  ·cases h1
 ·rw [if_neg c] at h1; exact h1
def Seg.cells:Seg→List Value
 | .one v=>[v]
 | .ints k xs _=>nums k xs
 | .sl A n cap _=>[.slice A n cap]
 | .rf v _=>[v]
def Seg.len:Seg→Nat
 | .one _=>1
 | .ints _ _ n=>n
 | .sl _ _ _ _=>1
 | .rf _ _=>1
def Seg.ok (m:Mem):Seg→Prop
 | .one v=>plain v=true
 | .ints _ xs n=>xs.length=n
 | .sl _ n cap R=>n≤cap∧cap≤maxLen∧R m∧Mono R
 | .rf v R=>plain v=true∧R m∧Mono R
def cellsOf:List Seg→List Value
 | []=>[]
 | s::r=>s.cells++cellsOf r
def lenOf:List Seg→Nat
 | []=>0
 | s::r=>s.len+lenOf r
def okS (m:Mem):List Seg→Prop
 | []=>True
 | s::r=>s.ok m∧okS m r
theorem Seg.ok_mono {m m':Mem}(hm:LeM m m'){s:Seg}(h:s.ok m):s.ok m':=by
 cases s with
 | one v=>exact h
 | ints k xs n=>exact h
 | sl A n cap R=>exact ⟨h.1,h.2.1,h.2.2.2 m m' hm h.2.2.1,h.2.2.2⟩
 | rf v R=>exact ⟨h.1,h.2.2 m m' hm h.2.1,h.2.2⟩
theorem okS_mono {m m':Mem}(hm:LeM m m'){s:List Seg}(h:okS m s):okS m' s:=by
 induction s with
 | nil=>trivial
 | cons x r ih=>exact ⟨Seg.ok_mono hm h.1,ih h.2⟩
theorem nums_length (k:IntKind)(xs:List Int):(nums k xs).length=xs.length:=by simp [nums]
theorem Seg.len_cells {m:Mem}{s:Seg}(h:s.ok m):s.cells.length=s.len:=by
 cases s with
 | one v=>rfl
 | sl A n cap R=>rfl
 | rf v R=>rfl
 | ints k xs n=>simpa [Seg.cells,nums,Seg.len,Seg.ok] using h
theorem len_cellsOf {m:Mem}{s:List Seg}(h:okS m s):(cellsOf s).length=lenOf s:=by
 induction s with
 | nil=>rfl
 | cons x r ih=>simp [cellsOf,lenOf,Seg.len_cells h.1,ih h.2]
theorem plain_nums {k:IntKind}{xs:List Int}:∀ v∈nums k xs,plain v=true:=by
 intro v hv
 simp only [nums,List.mem_map] at hv
 obtain ⟨x,_,rfl⟩:=hv
 rfl
theorem plain_cells {m:Mem}{s:List Seg}(h:okS m s):∀ v∈cellsOf s,plain v=true:=by
 induction s with
 | nil=>intro v hv; cases hv
 | cons x r ih =>
  intro v hv
  simp only [cellsOf,List.mem_append] at hv
  rcases hv with hv | hv
  ·cases x with
   | one u=>simp only [Seg.cells,List.mem_singleton] at hv; subst hv; exact h.1
   | ints k xs n=>exact plain_nums v hv
   | sl A n cap R=>simp only [Seg.cells,List.mem_singleton] at hv; subst hv; rfl
   | rf u R=>simp only [Seg.cells,List.mem_singleton] at hv; subst hv; exact h.1.1
  ·exact ih h.2 v hv
inductive D where
 | v (x:Value)
 | u
 | sl (A:Option Addr) (n cap:Nat) (R:Mem→Prop)
 | pt (p:Addr) (R:Mem→Prop)
 | rf (v:Value) (R:Mem→Prop)
 | agg (s:List Seg)
 | tup (l:List (Bool×List Seg))
def pv:Bool×List Seg→Value
 | (true,s)=> .agg (cellsOf s).toArray
 | (false, .one x::_)=>x
 | (false, .sl A n cap _::_)=> .slice A n cap
 | (false, .rf v _::_)=>v
 | _=> .bool false
def pd:Bool×List Seg→D
 | (true,s)=> .agg s
 | (false, .one x::_)=> .v x
 | (false, .sl A n cap R::_)=> .sl A n cap R
 | (false, .rf v R::_)=> .rf v R
 | _=> .v (.bool false)
def D.val:D→Value
 | .v x=>x
 | .u=>undef
 | .sl A n cap _=> .slice A n cap
 | .pt p _=> .pointer (some p)
 | .rf x _=>x
 | .agg s=> .agg (cellsOf s).toArray
 | .tup l=> .tuple (l.map pv).toArray
def okT (m:Mem):List (Bool×List Seg)→Prop
 | []=>True
 | p::r=>okS m p.2∧okT m r
theorem okT_mono {m m':Mem}(hm:LeM m m'){l:List (Bool×List Seg)}(h:okT m l):okT m' l:=by
 induction l with
 | nil=>trivial
 | cons x r ih=>exact ⟨okS_mono hm h.1,ih h.2⟩
def D.ok (m:Mem):D→Prop
 | .v x=>plain x=true
 | .u=>True
 | .sl _ n cap R=>n≤cap∧cap≤maxLen∧R m∧Mono R
 | .pt _ R=>R m∧Mono R
 | .rf x R=>plain x=true∧R m∧Mono R
 | .agg s=>okS m s
 | .tup l=>okT m l
theorem D.ok_mono {m m':Mem}(hm:LeM m m'){d:D}(h:d.ok m):d.ok m':=by
 cases d with
 | v x=>exact h
 | u=>trivial
 | sl A n cap R=>exact ⟨h.1,h.2.1,h.2.2.2 m m' hm h.2.2.1,h.2.2.2⟩
 | pt p R=>exact ⟨h.2 m m' hm h.1,h.2⟩
 | rf x R=>exact ⟨h.1,h.2.2 m m' hm h.2.1,h.2.2⟩
 | agg s=>exact okS_mono hm h
 | tup l=>exact okT_mono hm h
def D.segs:D→List Seg
 | .v x=>[.one x]
 | .u=>[]
 | .sl A n cap R=>[.sl A n cap R]
 | .pt p _=>[.one (.pointer (some p))]
 | .rf x R=>[.rf x R]
 | .agg s=>s
 | .tup _=>[]
def D.isTup:D→Bool
 | .tup _=>true
 | .u=>true
 | _=>false
theorem D.cells_val {m:Mem}{d:D}(h:d.ok m)(ht:d.isTup=false):d.val.cells=(cellsOf d.segs).toArray:=by
 cases d with
 | v x =>
  cases x <;> first | rfl | (simp [D.ok,plain] at h)
 | sl A n cap R=>rfl
 | pt p R=>rfl
 | rf x R =>
  have h1:plain x=true:=h.1
  cases x <;> first | rfl | (simp [plain] at h1)
 | agg s=>rfl
 | u=>simp [D.isTup] at ht
 | tup l=>simp [D.isTup] at ht
theorem D.ok_segs {m:Mem}{d:D}(h:d.ok m):okS m d.segs:=by
 cases d with
 | v x=>exact ⟨h,trivial⟩
 | sl A n cap R=>exact ⟨h,trivial⟩
 | pt p R=>exact ⟨rfl,trivial⟩
 | rf x R=>exact ⟨h,trivial⟩
 | agg s=>exact h
 | u=>exact trivial
 | tup l=>exact trivial
def fnd:List (Nat×D)→Nat→Option D
 | [],_=>none
 | (k,v)::l,t=>bif Nat.beq k t then some v else fnd l t
theorem fnd_cons (k:Nat)(d:D)(l:List (Nat×D))(t:Nat):fnd ((k,d)::l) t=if k=t then some d else fnd l t:=by
 show cond (Nat.beq k t) (some d) (fnd l t)=_
 by_cases h:k=t
 ·have hb:Nat.beq k t=true:=Nat.beq_eq.mpr h
  rw [hb,if_pos h]; rfl
 ·have hb:Nat.beq k t=false:=by
   cases hb:Nat.beq k t with
   | false=>rfl
   | true=>exact absurd (Nat.beq_eq.mp hb) h
  rw [hb,if_neg h]; rfl
def subF (l:List (Nat×D)):List (Nat×D)→Prop
 | []=>True
 | (t,d)::r=>fnd l t=some d∧subF l r
theorem subR {l l':List (Nat×D)}(h:l'.map (fun p=>fnd l p.1)=l'.map (fun p=>some p.2)):subF l l':=by
 have key:∀ r:List (Nat×D),r.map (fun p=>fnd l p.1)=r.map (fun p=>some p.2)→subF l r:=by
  intro r
  induction r with
  | nil=>intro _; trivial
  | cons p r ih =>
   intro h
   simp only [List.map_cons,List.cons.injEq] at h
   exact ⟨h.1,ih h.2⟩
 exact key l' h
theorem subF_fnd {l l':List (Nat×D)}(h:subF l l'){t:Nat}{d:D}(hd:fnd l' t=some d):fnd l t=some d:=by
 induction l' with
 | nil=>cases hd
 | cons p r ih =>
  obtain ⟨k,e⟩:=p
  rw [fnd_cons] at hd
  by_cases hk:k=t
  ·rw [if_pos hk] at hd
   obtain rfl:e=d:=Option.some.inj hd
   subst hk
   exact h.1
  ·rw [if_neg hk] at hd
   exact ih h.2 hd
structure Res where
 blk:Nat→Prop
 holds:Mem→World→Prop
 frame:∀ (m:Mem) (w w':World),(∀ k,blk k→w'.heap[k]?=w.heap[k]?)→holds m w→holds m w'
 mono:∀ (m m':Mem) (w:World),LeM m m'→holds m w→holds m' w
 lt:∀ (m:Mem) (w:World),holds m w→∀ k,blk k→k<w.heap.size
def Res.cells (g:Nat)(t:TypeId)(s:List Seg):Res where
 blk:=fun k=>some g=some k
 holds m w:=w.heap[g]?=some (.cells (cellsOf s).toArray t (0,0))∧okS m s
 frame m w w' h hh:=⟨(h g rfl).trans hh.1,hh.2⟩
 mono m m' w h hh:=⟨hh.1,okS_mono h hh.2⟩
 lt m w hh k hk:=by
  obtain rfl:g=k:=Option.some.inj hk
  exact (Array.getElem?_eq_some_iff.1 hh.1).1
def Res.fro (g:Nat)(t:TypeId)(s:List Seg):Res where
 blk:=fun k=>(none:Option Nat)=some k
 holds m w:=(∀ j v,(cellsOf s)[j]?=some v→m ⟨g,j,none⟩=some v)∧okS m s
 frame m w w' h hh:=hh
 mono m m' w h hh:=⟨fun j v hv=>h _ _ (hh.1 j v hv),okS_mono h hh.2⟩
 lt m w hh k hk:=by cases hk
structure Base where
 m:Mem
 w:World
 ex:Nat→Prop
structure Bel (ex:Nat→Prop)(w w':World):Prop where
 os:w'.os=w.os
 tape:w'.tape=w.tape
 output:w'.output=w.output
 size:w.heap.size≤w'.heap.size
 block:∀ k,k<w.heap.size→¬ ex k→w'.heap[k]?=w.heap[k]?
theorem Bel.refl (ex:Nat→Prop)(w:World):Bel ex w w:=⟨rfl,rfl,rfl,Nat.le_refl _,fun _ _ _=>rfl⟩
theorem Bel.grown {ex:Nat→Prop}{a w w':World}{row:Option Nat}(h:Bel ex a w)(hg:w.grownBy w' row)(hr:∀ k,row=some k→a.heap.size≤k∨ex k):Bel ex a w' :=
 ⟨hg.os.trans h.os,hg.tape.trans h.tape,hg.output.trans h.output,Nat.le_trans h.size hg.size,fun k hk hx =>
  (hg.block k (Nat.lt_of_lt_of_le hk h.size) (fun e=>by
   rcases hr k e.symm with h1 | h1
   ·omega
   ·exact hx h1)).trans (h.block k hk hx)⟩
theorem Bel.below {w w':World}(h:Bel (fun _=>False) w w'):Below w.heap.size w w':=⟨h.os,h.tape,h.output,h.size,fun k hk=>h.block k hk (fun e=>e)⟩
theorem Bel.trans {ex ex':Nat→Prop}{a b c:World}(h:Bel ex a b)(k:Bel ex' b c)(hx:∀ i,ex' i→a.heap.size≤i∨ex i):Bel ex a c :=
 ⟨k.os.trans h.os,k.tape.trans h.tape,k.output.trans h.output,Nat.le_trans h.size k.size,fun i hi hn =>
  (k.block i (Nat.lt_of_lt_of_le hi h.size) (fun e=>by
   rcases hx i e with h1 | h1
   ·omega
   ·exact hn h1)).trans (h.block i hi hn)⟩
structure St (n:Nat)(m:Mem)(w0:Base)(l:List (Nat×D))(H:List Res)(a:Act)(w:World):Prop where
 size:a.tmps.size=n
 defers:a.defers=[]
 get:∀ t d,fnd l t=some d→a.tmps[t]?=some d.val∧d.ok m
 below:Bel w0.ex w0.w w
 le:LeM w0.m m
 fresh:∀ p v,m p=some v→(∃ u,w0.m p=some u)∨w0.w.heap.size≤p.block∨w0.ex p.block
 holds:∀ r∈H,r.holds m w
 base:∀ r∈H,∀ k,r.blk k→w0.w.heap.size≤k∨w0.ex k
 apart:H.Pairwise (fun r s=>∀ k,r.blk k→¬ s.blk k)
 frz:Frz m w
 frzH:∀ r∈H,∀ p v,m p=some v→¬ r.blk p.block
section
variable {P:Program} {n:Nat} {m:Mem} {w0:Base} {l:List (Nat×D)} {H:List Res} {a:Act} {w:World}
structure WP_ (m:Mem)(w0:Base)(H:List Res)(w:World):Prop where
 below:Bel w0.ex w0.w w
 holds:∀ r∈H,r.holds m w
 frz:Frz m w
theorem St.at_ (S:St n m w0 l H a w){w':World}(h:WP_ m w0 H w'):St n m w0 l H a w' :=
 ⟨S.size,S.defers,S.get,h.below,S.le,S.fresh,h.holds,S.base,S.apart,h.frz,S.frzH⟩
theorem St.put (S:St n m w0 l H a w){t:Nat}{d:D}(ht:Nat.blt t n=true)(hd:d.ok m):St n m w0 ((t,d)::l) H (a.put (some t) d.val) w:=by
 have htn:t<a.tmps.size:=by rw [S.size]; exact Nat.le_of_ble_eq_true ht
 refine ⟨by simp [Act.put,S.size],S.defers,?_,S.below,S.le,S.fresh,S.holds,S.base,S.apart,S.frz,S.frzH⟩
 intro u e hu
 rw [fnd_cons] at hu
 by_cases h:t=u
 ·subst h
  rw [if_pos rfl] at hu
  obtain rfl:d=e:=Option.some.inj hu
  exact ⟨by simp [Act.put,htn],hd⟩
 ·rw [if_neg h] at hu
  have:=S.get u e hu
  exact ⟨by simp [Act.put,Array.getElem?_setIfInBounds,h,this.1],this.2⟩
inductive Pull:List Res→Res→List Res→Prop where
 | here {T:List Res} {r:Res}:Pull (r::T) r T
 | there {x r:Res} {T T':List Res} (h:Pull T r T'):Pull (x::T) r (x::T')
inductive Sel:List Res→List Res→Prop where
 | nil {H:List Res}:Sel H []
 | cons {H T H':List Res} {r:Res} (h:Pull H r T) (k:Sel T H'):Sel H (r::H')
theorem Pull.mem {A B:List Res}{r:Res}(h:Pull A r B):r∈A∧∀ x∈B,x∈A:=by
  induction h with
  | here=>exact ⟨List.mem_cons_self,fun x hx=>List.mem_cons_of_mem _ hx⟩
  | there _ ih=>exact ⟨List.mem_cons_of_mem _ ih.1,fun x hx=>by
      rcases List.mem_cons.1 hx with rfl | hx
      · exact List.mem_cons_self
      · exact List.mem_cons_of_mem _ (ih.2 x hx)⟩
theorem Sel.mem {A B:List Res}(h:Sel A B):∀ x∈B,x∈A:=by
 induction h with
 | nil=>intro x hx; cases hx
 | cons h k ih =>
  intro x hx
  rcases List.mem_cons.1 hx with rfl | hx
  ·exact h.mem.1
  ·exact h.mem.2 x (ih x hx)
theorem Pull.apart {A B:List Res}{r:Res}(h:Pull A r B)(hp:A.Pairwise (fun r s=>∀ k,r.blk k→¬ s.blk k)) :
  (∀ x∈B,∀ k,r.blk k→¬ x.blk k)∧B.Pairwise (fun r s=>∀ k,r.blk k→¬ s.blk k):=by
 induction h with
 | here=>have:=List.pairwise_cons.1 hp; exact this
 | @there y r T T' h ih =>
  have h1:=List.pairwise_cons.1 hp
  obtain ⟨i1,i2⟩:=ih h1.2
  refine ⟨fun x hx k hk hxk=>?_,List.pairwise_cons.2 ⟨fun x hx=>h1.1 x (h.mem.2 x hx),i2⟩⟩
  rcases List.mem_cons.1 hx with rfl | hx
  ·exact h1.1 r h.mem.1 k hxk hk
  ·exact i1 x hx k hk hxk
theorem Sel.apart {A B:List Res}(h:Sel A B)(hp:A.Pairwise (fun r s=>∀ k,r.blk k→¬ s.blk k)):B.Pairwise (fun r s=>∀ k,r.blk k→¬ s.blk k):=by
 induction h with
 | nil=>exact List.Pairwise.nil
 | cons h k ih =>
  obtain ⟨h1,h2⟩:=h.apart hp
  exact List.pairwise_cons.2 ⟨fun x hx=>h1 x (k.mem x hx),ih h2⟩
theorem St.sub (S:St n m w0 l H a w){l':List (Nat×D)}{H':List Res}(hl:subF l l')(hH:Sel H H'):St n m w0 l' H' a w :=
 ⟨S.size,S.defers,fun t d h=>S.get t d (subF_fnd hl h),S.below,S.le,S.fresh,fun r hr=>S.holds r (hH.mem r hr),fun r hr=>S.base r (hH.mem r hr),hH.apart S.apart,S.frz,fun r hr=>S.frzH r (hH.mem r hr)⟩
theorem St.world (S:St n m w0 l H a w){w':World}(hg:w.grownBy w' none):St n m w0 l H a w' :=
  ⟨S.size,S.defers,S.get,S.below.grown hg (fun k hk=>by cases hk),S.le,S.fresh,
   fun r hr=>r.frame m w w' (fun k hk=>hg.block k (r.lt m w (S.holds r hr) k hk) (by simp)) (S.holds r hr),S.base,S.apart,
   fun p v hv=>grown_cellM hg (S.frz p v hv) (by simp),S.frzH⟩
theorem St.new (S:St n m w0 l H a w){w':World}(r:Res)(hg:w.grownBy w' none)(hr:r.holds m w')(hb:∀ k,r.blk k→w.heap.size≤k):St n m w0 l (r::H) a w':=by
 have S':=S.world hg
 refine ⟨S'.size,S'.defers,S'.get,S'.below,S'.le,S'.fresh,?_,?_,?_,S'.frz,?_⟩
 ·intro x hx
  rcases List.mem_cons.1 hx with rfl | hx
  ·exact hr
  ·exact S'.holds x hx
 ·intro x hx k hk
  rcases List.mem_cons.1 hx with rfl | hx
  ·exact .inl (Nat.le_trans S.below.size (hb k hk))
  ·exact S'.base x hx k hk
 ·refine List.pairwise_cons.2 ⟨fun x hx k hk hxk=>?_,S'.apart⟩
  have:=x.lt m w (S.holds x hx) k hxk
  have:=hb k hk
  omega
 ·intro x hx p v hv hbp
  rcases List.mem_cons.1 hx with rfl | hx
  ·have:=hb _ hbp
   have:=cellM_lt (S.frz p v hv)
   omega
  ·exact S'.frzH x hx p v hv hbp
inductive Foc:List Res→Res→Res→List Res→Prop where
 | here {T:List Res} {r r':Res}:Foc (r::T) r r' (r'::T)
 | there {x:Res} {T T':List Res} {r r':Res} (h:Foc T r r' T'):Foc (x::T) r r' (x::T')
theorem Foc.mem {A B:List Res}{r r':Res}(h:Foc A r r' B):r∈A:=by
 induction h with
 | here=>exact List.mem_cons_self
 | there _ ih=>exact List.mem_cons_of_mem _ ih
theorem Foc.of {A B:List Res}{r r':Res}(h:Foc A r r' B):∀ x∈B,x=r'∨x∈A:=by
 induction h with
 | here=>intro x hx; rcases List.mem_cons.1 hx with h | h; exact .inl h; exact .inr (List.mem_cons_of_mem _ h)
 | there _ ih =>
  intro x hx
  rcases List.mem_cons.1 hx with h | h
  ·exact .inr (h ▸ List.mem_cons_self)
  ·rcases ih x h with h | h
   ·exact .inl h
   ·exact .inr (List.mem_cons_of_mem _ h)
def dj (r s:Res):Prop:=∀ k,r.blk k→¬ s.blk k
theorem dj.symm {r s:Res}(h:dj r s):dj s r:=fun k hk hr=>h k hr hk
theorem Foc.all {A B:List Res}{r r':Res}(h:Foc A r r' B){m:Mem}{w w':World}(hp:A.Pairwise (fun r s=>∀ k,r.blk k→¬ s.blk k))
  (hold:∀ x∈A,x.holds m w) (hr:r'.holds m w') (hblk:∀ k,k<w.heap.size→¬ r.blk k→w'.heap[k]?=w.heap[k]?)
  (hb:∀ k,r'.blk k→r.blk k∨w.heap.size≤k) :
  (∀ x∈B,x.holds m w')∧B.Pairwise (fun r s=>∀ k,r.blk k→¬ s.blk k):=by
 induction h with
 | @here T r r' =>
  have hp':=List.pairwise_cons.1 hp
  refine ⟨fun x hx=>?_,List.pairwise_cons.2 ⟨fun x hx k hk hxk=>?_,hp'.2⟩⟩
  ·rcases List.mem_cons.1 hx with rfl | hx
   ·exact hr
   ·have hxw:=hold x (List.mem_cons_of_mem _ hx)
    exact x.frame m w w' (fun k hk=>hblk k (x.lt m w hxw k hk) (fun e=>hp'.1 x hx k e hk)) hxw
  ·rcases hb k hk with h | h
   ·exact hp'.1 x hx k h hxk
   ·have:=x.lt m w (hold x (List.mem_cons_of_mem _ hx)) k hxk
    omega
 | @there y T T' r r' hf ih =>
  have hp':=List.pairwise_cons.1 hp
  obtain ⟨i1,i2⟩:=ih hp'.2 (fun x hx=>hold x (List.mem_cons_of_mem _ hx)) hr hblk hb
  have hyr:dj y r:=hp'.1 r hf.mem
  have hyw:=hold y List.mem_cons_self
  refine ⟨fun x hx=>?_,List.pairwise_cons.2 ⟨fun x hx k hk hxk=>?_,i2⟩⟩
  ·rcases List.mem_cons.1 hx with rfl | hx
   ·exact x.frame m w w' (fun k hk=>hblk k (x.lt m w hyw k hk) (fun e=>hyr k hk e)) hyw
   ·exact i1 x hx
  ·rcases hf.of x hx with rfl | hx'
   ·rcases hb k hxk with h | h
    ·exact hyr k hk h
    ·have:=y.lt m w hyw k hk
     omega
   ·exact hp'.1 x hx' k hk hxk
theorem Bel.of_grown {w w':World}{row:Option Nat}(hg:w.grownBy w' row):Bel (fun k=>row=some k) w w':=⟨hg.os,hg.tape,hg.output,hg.size,fun k hk hn=>hg.block k hk (fun e=>hn e.symm)⟩
theorem St.turnB (S:St n m w0 l H a w){r r':Res}{H':List Res}(hf:Foc H r r' H'){w':World}(hg:Bel r.blk w w')(hr:r'.holds m w')
  (hb:∀ k,r'.blk k→r.blk k∨w.heap.size≤k):St n m w0 l H' a w':=by
 obtain ⟨h1,h2⟩:=hf.all S.apart S.holds hr (fun k hk hne=>hg.block k hk hne) hb
 refine ⟨S.size,S.defers,S.get,S.below.trans hg (fun k hk=>S.base r hf.mem k hk),S.le,S.fresh,h1,?_,h2,fun p v hv=>(cellM_congr (hg.block p.block (cellM_lt (S.frz p v hv)) (fun e=>S.frzH r hf.mem p v hv e))).trans (S.frz p v hv),?_⟩
 ·intro x hx k hk
  rcases hf.of x hx with rfl | hx
  ·rcases hb k hk with h | h
   ·exact S.base r hf.mem k h
   ·exact .inl (Nat.le_trans S.below.size h)
  ·exact S.base x hx k hk
 ·intro x hx p v hv hbp
  rcases hf.of x hx with rfl | hx
  ·rcases hb _ hbp with h | h
   ·exact S.frzH r hf.mem p v hv h
   ·have:=cellM_lt (S.frz p v hv)
    omega
  ·exact S.frzH x hx p v hv hbp
theorem St.turn (S:St n m w0 l H a w){r r':Res}{H':List Res}(hf:Foc H r r' H'){w':World}{row:Option Nat}(hg:w.grownBy w' row)(hr:r'.holds m w')
  (hb:∀ k,r'.blk k→r.blk k∨w.heap.size≤k) (hrow:r.blk=fun k=>row=some k:=by rfl):St n m w0 l H' a w':=S.turnB hf (hrow ▸ Bel.of_grown hg) hr hb
theorem St.same (S:St n m w0 l H a w){r r':Res}{H':List Res}(hf:Foc H r r' H')(hr:r'.holds m w)(hb:∀ k,r'.blk k→r.blk k∨w.heap.size≤k):St n m w0 l H' a w:=S.turnB hf (Bel.refl _ _) hr hb
theorem St.after (S:St n m w0 l H a w){m':Mem}{w':World}(hb:Below w.heap.size w w')(hle:LeM m m')(hm:Frz m' w')(hnew:∀ p v,m' p=some v→(∃ u,m p=some u)∨w.heap.size≤p.block):St n m' w0 l H a w':=by
 have hg:w.grownBy w' none:=⟨hb.os,hb.tape,hb.output,hb.size,fun k hk _=>hb.block k hk⟩
 have S':=S.world hg
 refine ⟨S'.size,S'.defers,fun t d h=>⟨(S'.get t d h).1,D.ok_mono hle (S'.get t d h).2⟩,S'.below,S'.le.trans hle,fun p v hv=>?_,fun r hr=>r.mono m m' w' hle (S'.holds r hr),S'.base,S'.apart,hm,?_⟩
 ·rcases hnew p v hv with ⟨u,hu⟩ | h
  ·exact S.fresh p u hu
  ·exact .inr (.inl (Nat.le_trans S.below.size h))
 intro r hr p v hv hbp
 rcases hnew p v hv with ⟨u,hu⟩ | h
 ·exact S.frzH r hr p u hu hbp
 ·have:=r.lt m w (S.holds r hr) _ hbp
  omega
theorem St.eval (S:St n m w0 l H a w){t:Nat}{d:D}(h:fnd l t=some d):a.tmps.getD t undef=d.val:=by
 have:=(S.get t d h).1
 simp [Array.getD_eq_getD_getElem?,this]
end
def evo (l:List (Nat×D)):Operand→Option D
 | .tmp t=>fnd l t
 | .const v=>bif plain v then some (.v v) else none
 | .global g=>some (.v (.pointer (some ⟨g,0,none⟩)))
 | .func f=>some (.v (.func (.func f) #[] #[]))
section
variable {P:Program} {n:Nat} {m:Mem} {w0:Base} {l:List (Nat×D)} {H:List Res} {a:Act} {w:World}
theorem St.evo (S:St n m w0 l H a w){x:Operand}{d:D}(h:evo l x=some d):a.eval x=d.val:=by
 cases x with
 | tmp t=>exact S.eval h
 | const v =>
  have h':(bif plain v then some (D.v v) else none)=some d:=h
  cases hp:plain v with
  | true=>rw [hp] at h'; obtain rfl:=Option.some.inj h'; rfl
  | false=>rw [hp] at h'; cases h'
 | global g=>obtain rfl:=Option.some.inj h; rfl
 | func f=>obtain rfl:=Option.some.inj h; rfl
variable {ops:Array Oper} {Q:Exit→Act→World→Prop} {rest:List Oper} {op:Op} {ty:TypeId} {ps:String} {af:Array Edge} {t:Nat}
theorem s_run (S:St n m w0 l H a w){dv:D}(ht:Nat.blt t n=true)(hok:dv.ok m)
  (hrun:(execOp a.eval ⟨some t,op,ty,ps,af,none⟩).run P w = .ok (.value dv.val) w)
  (K:∀ a',St n m w0 ((t,dv)::l) H a' w→wpList P ops Q rest a' w):wpList P ops Q (⟨some t,op,ty,ps,af,none⟩::rest) a w :=
 wpList_plain rfl fun K' hK=>by
  unfold Oper.wp
  rw [hrun]
  exact hK _ _ (K _ (S.put ht hok))
theorem s_runw (S:St n m w0 l H a w){dv:D}{w':World}{m':Mem}{H':List Res}(ht:Nat.blt t n=true)(hok:dv.ok m')
  (hrun:(execOp a.eval ⟨some t,op,ty,ps,af,none⟩).run P w = .ok (.value dv.val) w') (S':St n m' w0 l H' a w')
  (K:∀ a',St n m' w0 ((t,dv)::l) H' a' w'→wpList P ops Q rest a' w'):wpList P ops Q (⟨some t,op,ty,ps,af,none⟩::rest) a w :=
 wpList_plain rfl fun K' hK=>by
  unfold Oper.wp
  rw [hrun]
  exact hK _ _ (K _ (S'.put ht hok))
theorem s_runu (S:St n m w0 l H a w){w':World}{m':Mem}{H':List Res}
  (hrun:(execOp a.eval ⟨none,op,ty,ps,af,none⟩).run P w = .ok .skip w') (S':St n m' w0 l H' a w')
  (K:St n m' w0 l H' a w'→wpList P ops Q rest a w'):wpList P ops Q (⟨none,op,ty,ps,af,none⟩::rest) a w :=
 wpList_plain rfl fun K' hK=>by
  unfold Oper.wp
  rw [hrun]
  exact hK _ _ (K S')
end
theorem oB.{u,v}{α:Type u}{β:Type v}(a:α)(f:α→Option β):(some a).bind f=f a:=rfl
theorem sI.{u}{α:Type u}{a b:α}(h:some a=some b):a=b:=Option.some.inj h
theorem iP.{u}{c:Prop}{h:Decidable c}(hc:c){α:Sort u}{t e:α}:ite c t e=t:=if_pos hc
theorem iN.{u}{c:Prop}{h:Decidable c}(hc:¬ c){α:Sort u}{t e:α}:ite c t e=e:=if_neg hc
theorem dT {p:Prop} [inst:Decidable p] (h:p):decide p=true:=decide_eq_true h
theorem dF {p:Prop} [inst:Decidable p] (h:¬ p):decide p=false:=decide_eq_false h
theorem tv:True:=trivial
end GW
