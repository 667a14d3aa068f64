import Derived.Test.YtdajnflppnlhiaaGWOps
import Derived.Laws.Slices
set_option linter.unusedVariables false
set_option linter.unusedSimpArgs false
namespace GW
open Go Go.RowKit
structure Ty (α:Type) where
 size:Nat
 Ch:Type
 segs:α→Ch→List Seg
 len:∀ x c,lenOf (segs x c)=size
theorem lenOf_append (s r:List Seg):lenOf (s++r)=lenOf s+lenOf r:=by
 induction s with
 | nil=>simp [lenOf]
 | cons x s ih=>simp [lenOf,ih,Nat.add_assoc]
def Ty.int (k:IntKind):Ty Int:=⟨1,Unit,fun x _=>[.one (.int k x)],fun _ _=>rfl⟩
def Ty.bool:Ty Bool:=⟨1,Unit,fun x _=>[.one (.bool x)],fun _ _=>rfl⟩
def Ty.arr (k:IntKind)(n:Nat):Ty (List Int):=⟨n,Unit,fun x _=>[.ints k x n],fun _ _=>rfl⟩
def Ty.prod {α β:Type}(a:Ty α)(b:Ty β):Ty (α×β):=⟨a.size+b.size,a.Ch×b.Ch,fun x c=>a.segs x.1 c.1++b.segs x.2 c.2,fun x c=>by rw [lenOf_append,a.len,b.len]⟩
def RdS {α:Type}(ty:Ty α)(A:Option Addr)(xs:List α)(m:Mem):Prop :=
 ∀ i (h:i<xs.length),∃ ad c,A=some ad∧okS m (ty.segs xs[i] c)∧∀ j v,(cellsOf (ty.segs xs[i] c))[j]?=some v→m (ad.add (i*ty.size+j))=some v
theorem RdS.mono {α:Type}(ty:Ty α)(A:Option Addr)(xs:List α):Mono (RdS ty A xs):=fun m m' hm h i hi=>by
 obtain ⟨ad,c,h1,h2,h3⟩:=h i hi
 exact ⟨ad,c,h1,okS_mono hm h2,fun j v hv=>hm _ _ (h3 j v hv)⟩
theorem RdS.nil {α:Type}(ty:Ty α)(A:Option Addr)(m:Mem):RdS ty A ([]:List α) m:=fun i hi=>absurd hi (by simp)
def Ty.slice {α:Type}(a:Ty α):Ty (List α):=⟨1,Option Addr×Nat,fun xs c=>[.sl c.1 xs.length c.2 (RdS a c.1 xs)],fun _ _=>rfl⟩
def At {α:Type}(ty:Ty α)(p:Addr)(x:α)(m:Mem):Prop:=∃ c,okS m (ty.segs x c)∧∀ j v,(cellsOf (ty.segs x c))[j]?=some v→m (p.add j)=some v
theorem At.mono {α:Type}(ty:Ty α)(p:Addr)(x:α):Mono (At ty p x):=fun m m' hm h=>by
 obtain ⟨c,h2,h3⟩:=h
 exact ⟨c,okS_mono hm h2,fun j v hv=>hm _ _ (h3 j v hv)⟩
def gt {α:Type} [Inhabited α] (xs:List α)(i:Int):α:=xs.getD i.toNat default
theorem gt_get {α:Type} [Inhabited α] (xs:List α)(i:Int)(h:i.toNat<xs.length):gt xs i=xs[i.toNat]:=by
 simp [gt,List.getD_eq_getElem?_getD,List.getElem?_eq_getElem h]
theorem add_add_ (a:Addr)(i j:Nat):(a.add i).add j=a.add (i+j):=by
 unfold Addr.add
 by_cases hi:i=0 <;> by_cases hj:j=0 <;> simp [hi,hj,Nat.add_assoc]
section
variable {P:Program} {n:Nat} {m:Mem} {w0:Base} {l:List (Nat×D)} {H:List Res} {a:Act} {w:World}
variable {ops:Array Oper} {Q:Exit→Act→World→Prop} {rest:List Oper} {ty:TypeId} {ps:String} {af:Array Edge} {t:Nat}
theorem s_lenS (S:St n m w0 l H a w){e e':TypeId}{x:Operand}{A:Option Addr}{len cap:Nat}{R:Mem→Prop}(hx:evo l x=some (.sl A len cap R))(hu:P.underlying e=some (.slice e'))(ht:Nat.blt t n=true)
  (K:∀ a',St n m w0 ((t, .v (.int .i64 (len:Int)))::l) H a' w→wpList P ops Q rest a' w):wpList P ops Q (⟨some t, .call ⟨.builtin .len, #[x], #[e]⟩,ty,ps,af,none⟩::rest) a w :=
 s_run (dv:= .v (.int .i64 (len:Int))) S ht rfl (by
  simp only [execOp,resolve]
  have hx':a.eval x = .slice A len cap:=S.evo hx
  simp [invoke,builtin,Builtin.len_,hx',run_underlying hu,goInt,D.val]) K
def ElAt {α:Type} [Inhabited α] (ty':Ty α)(A:Option Addr)(xs:List α)(i:Int)(p:Addr)(m:Mem):Prop:=∃ ad,A=some ad∧p=ad.add (i.toNat*ty'.size)∧At ty' p (gt xs i) m
theorem ElAt.ex {α:Type} [Inhabited α] {ty':Ty α}{A:Option Addr}{len cap:Nat}{xs:List α}{i:Int}(hx:(D.sl A len cap (RdS ty' A xs)).ok m)(h0:0≤i)(h1:i<xs.length):∃ p,ElAt ty' A xs i p m:=by
 obtain ⟨_,_,hR,_⟩:=hx
 have hi:i.toNat<xs.length:=by omega
 obtain ⟨ad,c,rfl,h2,h3⟩:=hR i.toNat hi
 refine ⟨_,ad,rfl,rfl,c,?_,?_⟩
 ·rw [gt_get xs i hi]; exact h2
 ·rw [gt_get xs i hi]
  intro j v hv
  rw [add_add_]
  exact h3 j v hv
theorem s_iaddrS0 {α:Type} [Inhabited α] (S:St n m w0 l H a w){e et:TypeId}{x y:Operand}{A:Option Addr}{len cap:Nat}{ty':Ty α}{xs:List α}{k:IntKind}{i:Int}{b:Bool}{p:Addr}(hE:ElAt ty' A xs i p m)
  (hx:evo l x=some (.sl A len cap (RdS ty' A xs))) (hn:xs.length=len) (hy:evo l y=some (.v (.int k i))) (hu:P.underlying e=some (.slice et)) (hT:tyI P et=some (b,ty'.size)) (h0:0≤i) (h1:i<xs.length) (ht:Nat.blt t n=true)
  (K:∀ a',St n m w0 ((t, .pt p (At ty' p (gt xs i)))::l) H a' w→wpList P ops Q rest a' w):wpList P ops Q (⟨some t, .indexAddr e x y,ty,ps,af,none⟩::rest) a w:=by
 obtain ⟨ad,rfl,rfl,hat⟩:=hE
 refine s_run (dv:= .pt (ad.add (i.toNat*ty'.size)) (At ty' (ad.add (i.toNat*ty'.size)) (gt xs i))) S ht ⟨hat,At.mono _ _ _⟩ ?_ K
 have hx':a.eval x = .slice (some ad) len cap:=S.evo hx
 have hy':a.eval y = .int k i:=S.evo hy
 simp only [execOp,hx',hy']
 simp [Instr.indexAt,asIntOf,run_underlying hu,h0,show i<(len:Int) by omega,run_sizeI hT,D.val]
theorem s_iaddrS {α:Type} [Inhabited α] (S:St n m w0 l H a w){e et:TypeId}{x y:Operand}{A:Option Addr}{len cap:Nat}{ty':Ty α}{xs:List α}{k:IntKind}{i:Int}{b:Bool}
  (hx:evo l x=some (.sl A len cap (RdS ty' A xs))) (hn:xs.length=len) (hy:evo l y=some (.v (.int k i))) (hu:P.underlying e=some (.slice et)) (hT:tyI P et=some (b,ty'.size)) (h0:0≤i) (h1:i<xs.length) (ht:Nat.blt t n=true)
  (K:∀ p a',St n m w0 ((t, .pt p (At ty' p (gt xs i)))::l) H a' w→wpList P ops Q rest a' w):wpList P ops Q (⟨some t, .indexAddr e x y,ty,ps,af,none⟩::rest) a w:=by
 obtain ⟨p,hp⟩:=ElAt.ex (evo_ok S hx) h0 h1
 exact s_iaddrS0 S hp hx hn hy hu hT h0 h1 ht (K p)
theorem s_ld1 {α:Type}(S:St n m w0 l H a w){e:TypeId}{x:Operand}{p:Addr}{ty':Ty α}{y:α}{v:Value}{z:Nat}(hx:evo l x=some (.pt p (At ty' p y)))(hT:tyI P e=some (false,z))(hs:∀ c,ty'.segs y c=[.one v])(ht:Nat.blt t n=true)
  (K:∀ a',St n m w0 ((t, .v v)::l) H a' w→wpList P ops Q rest a' w):wpList P ops Q (⟨some t, .load e x,ty,ps,af,none⟩::rest) a w:=by
 obtain ⟨⟨c,h2,h3⟩,_⟩:=evo_ok S hx
 rw [hs] at h2 h3
 have hv:w.cell? p=some v:=by
  have:=S.frz.cell (h3 0 v rfl) h2.1
  simpa [Addr.add] using this
 refine s_run (dv:= .v v) S ht h2.1 ?_ K
 have hx':a.eval x = .pointer (some p):=S.evo hx
 simp only [execOp,hx',Instr.loadAt,Instr.sureAddr,Sem.run_bind,Sem.run_pure,Result.andThen_ok,run_loadVar_one hT hv]
 rfl
theorem s_ldS0 {α β:Type}(S:St n m w0 l H a w){e:TypeId}{x:Operand}{p:Addr}{ty':Ty α}{te:Ty β}{y:α}{ys:List β}{z:Nat}(pr:ty'.Ch→Option Addr×Nat){c:ty'.Ch}(hC:okS m (ty'.segs y c)∧∀ j v,(cellsOf (ty'.segs y c))[j]?=some v→m (p.add j)=some v)(hx:evo l x=some (.pt p (At ty' p y)))(hT:tyI P e=some (false,z))
  (hs:∀ c,ty'.segs y c=[.sl (pr c).1 ys.length (pr c).2 (RdS te (pr c).1 ys)]) (ht:Nat.blt t n=true)
  (K:∀ a',St n m w0 ((t, .sl (pr c).1 ys.length (pr c).2 (RdS te (pr c).1 ys))::l) H a' w→wpList P ops Q rest a' w):wpList P ops Q (⟨some t, .load e x,ty,ps,af,none⟩::rest) a w:=by
 obtain ⟨h2,h3⟩:=hC
 rw [hs] at h2 h3
 have hv:w.cell? p=some (.slice (pr c).1 ys.length (pr c).2):=by
  have:=S.frz.cell (h3 0 _ rfl) rfl
  simpa [Addr.add] using this
 refine s_run (dv:= .sl (pr c).1 ys.length (pr c).2 (RdS te (pr c).1 ys)) S ht h2.1 ?_ K
 have hx':a.eval x = .pointer (some p):=S.evo hx
 simp only [execOp,hx',Instr.loadAt,Instr.sureAddr,Sem.run_bind,Sem.run_pure,Result.andThen_ok,run_loadVar_one hT hv]
 rfl
theorem s_ldS {α β:Type}(S:St n m w0 l H a w){e:TypeId}{x:Operand}{p:Addr}{ty':Ty α}{te:Ty β}{y:α}{ys:List β}{z:Nat}(pr:ty'.Ch→Option Addr×Nat)(hx:evo l x=some (.pt p (At ty' p y)))(hT:tyI P e=some (false,z))
  (hs:∀ c,ty'.segs y c=[.sl (pr c).1 ys.length (pr c).2 (RdS te (pr c).1 ys)]) (ht:Nat.blt t n=true)
  (K:∀ A cap a',St n m w0 ((t, .sl A ys.length cap (RdS te A ys))::l) H a' w→wpList P ops Q rest a' w):wpList P ops Q (⟨some t, .load e x,ty,ps,af,none⟩::rest) a w:=by
 obtain ⟨⟨c,hC⟩,_⟩:=evo_ok S hx
 exact s_ldS0 S pr hC hx hT hs ht (K _ _)
theorem loadCellsFrom_add {P:Program}(p:Addr)(w:World)(cs:List Value):∀ (i:Nat) (acc:Array Value),(∀ j v,cs[j]?=some v→w.cell? (p.add (i+j))=some v) →
  (loadCellsFrom p i cs.length acc).run P w = .ok (acc++cs.toArray) w:=by
 induction cs with
 | nil=>intro i acc _; simp [loadCellsFrom]
 | cons v r ih =>
  intro i acc h
  have h0:=h 0 v rfl
  simp only [Nat.add_zero] at h0
  simp only [List.length_cons,loadCellsFrom,Sem.run_bind,run_load,h0]
  rw [Result.andThen_ok,ih (i+1) (acc.push v) (fun j u hu=>by have:=h (j+1) u (by simpa using hu); rw [show i+1+j=i+(j+1) by omega]; exact this)]
  simp
theorem run_loadVar_at {P:Program}{t:TypeId}{z:Nat}{p:Addr}{w:World}{cs:List Value}(ht:tyI P t=some (true,z))(hl:cs.length=z)(h:∀ j v,cs[j]?=some v→w.cell? (p.add j)=some v) :
  (loadVar t p).run P w = .ok (.agg cs.toArray) w:=by
 unfold loadVar
 simp only [Sem.run_bind,run_isAgg ht,Result.andThen_ok,if_true,run_sizeI ht,loadCells]
 rw [← hl,loadCellsFrom_add p w cs 0 #[] (by simpa using h)]
 simp
theorem s_ldA0 {α:Type}(S:St n m w0 l H a w){e:TypeId}{x:Operand}{p:Addr}{ty':Ty α}{y:α}(sg:ty'.Ch→List Seg){c:ty'.Ch}(hC:okS m (ty'.segs y c)∧∀ j v,(cellsOf (ty'.segs y c))[j]?=some v→m (p.add j)=some v)(hx:evo l x=some (.pt p (At ty' p y)))(hT:tyI P e=some (true,ty'.size))(hs:∀ c,ty'.segs y c=sg c)(ht:Nat.blt t n=true)
  (K:∀ a',St n m w0 ((t, .agg (sg c))::l) H a' w→wpList P ops Q rest a' w):wpList P ops Q (⟨some t, .load e x,ty,ps,af,none⟩::rest) a w:=by
 obtain ⟨h2,h3⟩:=hC
 have hl:(cellsOf (ty'.segs y c)).length=ty'.size:=by rw [len_cellsOf h2,ty'.len]
 refine s_run (dv:= .agg (sg c)) S ht (by rw [← hs]; exact h2) ?_ K
 have hx':a.eval x = .pointer (some p):=S.evo hx
 simp only [execOp,hx',Instr.loadAt,Instr.sureAddr,Sem.run_bind,Sem.run_pure,Result.andThen_ok]
 rw [run_loadVar_at hT hl (fun j v hv=>S.frz.cell (h3 j v hv) (plain_cells h2 v (List.mem_of_getElem? hv)))]
 simp [D.val, ← hs]
theorem s_ldA {α:Type}(S:St n m w0 l H a w){e:TypeId}{x:Operand}{p:Addr}{ty':Ty α}{y:α}(sg:ty'.Ch→List Seg)(hx:evo l x=some (.pt p (At ty' p y)))(hT:tyI P e=some (true,ty'.size))(hs:∀ c,ty'.segs y c=sg c)(ht:Nat.blt t n=true)
  (K:∀ c a',St n m w0 ((t, .agg (sg c))::l) H a' w→wpList P ops Q rest a' w):wpList P ops Q (⟨some t, .load e x,ty,ps,af,none⟩::rest) a w:=by
 obtain ⟨⟨c,hC⟩,_⟩:=evo_ok S hx
 exact s_ldA0 S sg hC hx hT hs ht (K c)
theorem RdS.cut {α:Type}{ty:Ty α}{A:Option Addr}{xs:List α}{m:Mem}(h:RdS ty A xs m)(lo hi:Nat)(hh:hi≤xs.length)(hl:lo≤hi):RdS ty (A.map (·.add (lo*ty.size))) ((xs.take hi).drop lo) m:=by
 intro i hi'
 have hlen:((xs.take hi).drop lo).length=hi - lo:=by simp; omega
 rw [hlen] at hi'
 obtain ⟨ad,c,rfl,h2,h3⟩:=h (lo+i) (by omega)
 have he:((xs.take hi).drop lo)[i]=xs[lo+i]:=by simp
 refine ⟨ad.add (lo*ty.size),c,rfl,by rw [he]; exact h2,fun j v hv=>?_⟩
 rw [he] at hv
 rw [add_add_,show lo*ty.size+(i*ty.size+j)=(lo+i)*ty.size+j by rw [Nat.add_mul]; omega]
 exact h3 j v hv
theorem s_loadSl (S:St n m w0 l H a w){e:TypeId}{x:Operand}{g o z:Nat}{e':TypeId}{s:List Seg}{A:Option Addr}{len cap:Nat}{R:Mem→Prop}{T:List Res}(hx:evo l x=some (.v (.pointer (some ⟨g,o,none⟩))))(hf:Foc H (Res.cells g e' s) (Res.cells g e' s) T)
  (hT:tyI P e=some (false,z)) (hs:subS s o 1=some [.sl A len cap R]) (ht:Nat.blt t n=true)
  (K:∀ a',St n m w0 ((t, .sl A len cap R)::l) H a' w→wpList P ops Q rest a' w):wpList P ops Q (⟨some t, .load e x,ty,ps,af,none⟩::rest) a w:=by
 have hc:=S.holds _ hf.mem
 obtain ⟨h1,h2,h3⟩:=subS_cells hc.2 hs
 refine s_run (dv:= .sl A len cap R) S ht h2.1 ?_ K
 have hx':a.eval x = .pointer (some ⟨g,o,none⟩):=S.evo hx
 simp only [execOp,hx']
 have hv:w.cell? ⟨g,o,none⟩=some (.slice A len cap):=by
  rw [cell_of_cells hc]
  have h4:(cellsOf [Seg.sl A len cap R])[0]?=some (.slice A len cap):=rfl
  rw [h1,List.getElem?_take_of_lt (by omega),List.getElem?_drop] at h4
  simpa using h4
 simp only [Instr.loadAt,Instr.sureAddr,Sem.run_bind,Sem.run_pure,Result.andThen_ok]
 rw [run_loadVar_one hT hv]
 rfl
theorem Foc.parts {A B:List Res}{r r':Res}(h:Foc A r r' B)(hp:A.Pairwise (fun r s=>∀ k,r.blk k→¬ s.blk k))(hb:∀ k,r'.blk k→r.blk k) :
  (∀ x∈B,x=r'∨(x∈A∧∀ k,r.blk k→¬ x.blk k))∧B.Pairwise (fun r s=>∀ k,r.blk k→¬ s.blk k):=by
 induction h with
 | here =>
  have hp':=List.pairwise_cons.1 hp
  refine ⟨fun x hx=>?_,List.pairwise_cons.2 ⟨fun x hx k hk=>hp'.1 x hx k (hb k hk),hp'.2⟩⟩
  rcases List.mem_cons.1 hx with hx | hx
  ·exact .inl hx
  ·exact .inr ⟨List.mem_cons_of_mem _ hx,hp'.1 x hx⟩
 | @there y T T' r r' hf ih =>
  have hp':=List.pairwise_cons.1 hp
  obtain ⟨i1,i2⟩:=ih hp'.2 hb
  refine ⟨fun x hx=>?_,List.pairwise_cons.2 ⟨fun x hx k hk hxk=>?_,i2⟩⟩
  ·rcases List.mem_cons.1 hx with rfl | hx
   ·exact .inr ⟨List.mem_cons_self,fun k hk hxk=>hp'.1 r hf.mem k hxk hk⟩
   ·rcases i1 x hx with h | h
    ·exact .inl h
    ·exact .inr ⟨List.mem_cons_of_mem _ h.1,h.2⟩
  ·rcases i1 x hx with rfl | h
   ·exact hp'.1 r hf.mem k hk (hb k hxk)
   ·exact hp'.1 x h.1 k hk hxk
theorem St.freeze (S:St n m w0 l H a w){g:Nat}{e:TypeId}{s:List Seg}{H':List Res}(hf:Foc H (Res.cells g e s) (Res.fro g e s) H'):∃ m',LeM m m'∧St n m' w0 l H' a w:=by
 have hc:=S.holds _ hf.mem
 let m':Mem:=fun p=>if p.block=g∧p.spot=none then (cellsOf s)[p.off]? else m p
 have hle:LeM m m':=fun p v hv=>by
  have:p.block≠g:=fun e=>S.frzH _ hf.mem p v hv (by rw [e]; rfl)
  simp only [m',this,false_and,if_false]
  exact hv
 have hcell:∀ j v,(cellsOf s)[j]?=some v→m' ⟨g,j,none⟩=some v:=fun j v hv=>by simp [m',hv]
 have hfrz:Frz m' w:=fun p v hv=>by
  by_cases hp:p.block=g∧p.spot=none
  ·simp only [m',hp,and_self,if_true] at hv
   obtain ⟨b,o,sp⟩:=p
   obtain ⟨rfl,rfl⟩:=hp
   refine cellM_of ?_
   rw [cell_of_cells hc]
   exact hv
  ·simp only [m',hp,if_false] at hv
   exact S.frz p v hv
 obtain ⟨h1,h2⟩:=hf.parts S.apart (fun k hk=>by cases hk)
 refine ⟨m',hle,⟨S.size,S.defers,fun t d h=>⟨(S.get t d h).1,D.ok_mono hle (S.get t d h).2⟩,S.below,S.le.trans hle,fun p v hv=>?_,fun r hr=>?_,fun r hr k hk=>?_,h2,hfrz,fun r hr p v hv hbp=>?_⟩⟩
 ·by_cases hp:p.block=g∧p.spot=none
  ·exact .inr (hp.1 ▸ S.base _ hf.mem g rfl)
  ·simp only [m',hp,if_false] at hv
   exact S.fresh p v hv
 ·rcases h1 r hr with rfl | h
  ·exact ⟨hcell,okS_mono hle hc.2⟩
  ·exact r.mono m m' w hle (S.holds r h.1)
 ·rcases h1 r hr with rfl | h
  ·cases hk
  ·exact S.base r h.1 k hk
 ·rcases h1 r hr with rfl | h
  ·cases hbp
  ·by_cases hp:p.block=g∧p.spot=none
   ·exact h.2 g rfl (hp.1 ▸ hbp)
   ·simp only [m',hp,if_false] at hv
    exact S.frzH r h.1 p v hv hbp
theorem St.slup (S:St n m w0 l H a w){u g b o c len cap lo:Nat}{e:TypeId}{s s':List Seg}{k:IntKind}{xs ys:List Int}(hu:fnd l u=some (.v (.slice (some ⟨g,o,none⟩) len cap)))(hr:Res.fro g e s∈H)(hs:Int_ s b k xs c xs s')(ho:b+lo=o)
  (hlen:lo+len≤c) (hcap:len≤cap∧cap≤maxLen) (hy:(xs.drop lo).take len=ys):St n m w0 ((u, .sl (some ⟨g,o,none⟩) len cap (RdS (Ty.int k) (some ⟨g,o,none⟩) ys))::l) H a w∧ys.length=len:=by
 have hc:=S.holds _ hr
 obtain ⟨hx,hcell⟩:=hs.cell hc.2
 have hyl:ys.length=len:=by rw [← hy]; simp; omega
 have hR:RdS (Ty.int k) (some ⟨g,o,none⟩) ys m:=fun i hi=>by
  refine ⟨⟨g,o,none⟩,(),rfl,⟨rfl,tv⟩,fun j v hv=>?_⟩
  have hj:j=0:=by
   rcases Nat.eq_zero_or_pos j with h | h
   ·exact h
   ·have:(cellsOf ((Ty.int k).segs ys[i] ()))[j]?=none:=List.getElem?_eq_none (by simp [Ty.int,cellsOf,Seg.cells]; omega)
    rw [this] at hv; cases hv
  subst hj
  have hv':v = .int k ys[i]:=by simpa [Ty.int,cellsOf,Seg.cells] using hv.symm
  have ha:(⟨g,o,none⟩:Addr).add (i*(Ty.int k).size+0)=⟨g,o+i,none⟩:=by unfold Addr.add; simp [Ty.int]
  rw [ha,hv']
  have h1:=hcell (lo+i) (by omega)
  rw [show b+(lo+i)=o+i by omega] at h1
  refine hc.1 _ _ (h1.trans ?_)
  congr 2
  rw [List.getD_eq_getElem?_getD]
  simp [← hy,List.getElem?_eq_getElem (show lo+i<xs.length by omega)]
 refine ⟨⟨S.size,S.defers,fun t d hd=>?_,S.below,S.le,S.fresh,S.holds,S.base,S.apart,S.frz,S.frzH⟩,hyl⟩
 rw [fnd_cons] at hd
 by_cases ht:u=t
 ·rw [iP ht] at hd
  obtain rfl:=sI hd
  subst ht
  exact ⟨(S.get _ _ hu).1,hcap.1,hcap.2,hR,RdS.mono _ _ _⟩
 ·rw [iN ht] at hd
  exact S.get t d hd
end
end GW
