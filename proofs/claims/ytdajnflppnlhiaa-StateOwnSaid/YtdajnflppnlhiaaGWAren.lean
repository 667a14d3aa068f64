import Derived.Test.YtdajnflppnlhiaaGWZed
set_option linter.unusedVariables false
set_option linter.unusedSimpArgs false
namespace GW
open Go Go.RowKit
def bAt (G:List Nat)(i:Nat):Nat:=G.getD i 0
theorem bAt_get {G:List Nat}{i:Nat}(h:i<G.length):bAt G i=G[i]:=by simp [bAt,List.getD_eq_getElem?_getD,List.getElem?_eq_getElem h]
theorem bAt_app {G:List Nat}{i:Nat}(g:Nat)(h:i<G.length):bAt (G++[g]) i=bAt G i:=by
 rw [bAt_get h,bAt_get (by simp; omega),List.getElem_append_left h]
theorem bAt_last (G:List Nat)(g:Nat){i:Nat}(h:i=G.length):bAt (G++[g]) i=g:=by
 subst h
 rw [bAt_get (by simp),List.getElem_concat_length rfl]
theorem bAt_inj {G:List Nat}(hn:G.Nodup){i j:Nat}(hi:i<G.length)(hj:j<G.length)(h:bAt G i=bAt G j):i=j:=by
 rw [bAt_get hi,bAt_get hj] at h
 have hp:=List.pairwise_iff_getElem.1 hn
 rcases Nat.lt_trichotomy i j with c | c | c
 ·exact absurd h (hp i j hi hj c)
 ·exact c
 ·exact absurd h.symm (hp j i hj hi c)
def ltR (i:Nat)(G:List Nat):Mem→Prop:=fun _=>i<G.length
theorem ltR.mono (i:Nat)(G:List Nat):Mono (ltR i G):=fun _ _ _ h=>h
def ptrV (G:List Nat):Option Nat→Value
 | none=> .pointer none
 | some i=> .pointer (some ⟨bAt G i,0,none⟩)
def ptrR (G:List Nat)(x:Option Nat):Mem→Prop:=fun _=>∀ i,x=some i→i<G.length
theorem ptrR.mono (G:List Nat)(x:Option Nat):Mono (ptrR G x):=fun _ _ _ h=>h
theorem ptrV_plain (G:List Nat)(x:Option Nat):plain (ptrV G x)=true:=by cases x <;> rfl
theorem ptrV_app {G:List Nat}(g:Nat){x:Option Nat}{m:Mem}(h:ptrR G x m):ptrV (G++[g]) x=ptrV G x:=by
 cases x with
 | none=>rfl
 | some i =>
  show Value.pointer (some ⟨bAt (G++[g]) i,0,none⟩)=Value.pointer (some ⟨bAt G i,0,none⟩)
  rw [bAt_app g (h i rfl)]
theorem ptrR_app {G:List Nat}(g:Nat){x:Option Nat}{m:Mem}(h:ptrR G x m):ptrR (G++[g]) x m:=fun i hi=>by
 have:=h i hi
 simp
 omega
theorem ptr_some {x:Option Nat}(h:x.isSome=true):x=some (x.getD 0):=by cases x with
 | none=>cases h
 | some i=>rfl
theorem ptrV_some {G:List Nat}{x:Option Nat}(h:x.isSome=true):ptrV G x = .pointer (some ⟨bAt G (x.getD 0),0,none⟩):=by cases x with
 | none=>cases h
 | some i=>rfl
def Ty.pid (G:List Nat):Ty (Option Nat):=⟨1,Unit,fun x _=>[.rf (ptrV G x) (ptrR G x)],fun _ _=>rfl⟩
def Ty.mid (M:List Nat):Ty Nat:=⟨1,Unit,fun i _=>[.rf (.map (some (bAt M i))) (ltR i M)],fun _ _=>rfl⟩
def Ty.own (g:Nat):Ty Unit:=⟨1,Unit,fun _ _=>[.one (.pointer (some ⟨g,0,none⟩))],fun _ _=>rfl⟩
def SubT {α:Type}(T T':Ty α):Prop:=T.size=T'.size∧∀ (m:Mem) x c,okS m (T.segs x c)→∃ c',okS m (T'.segs x c')∧cellsOf (T'.segs x c')=cellsOf (T.segs x c)
theorem SubT.refl {α:Type}(T:Ty α):SubT T T:=⟨rfl,fun m x c h=>⟨c,h,rfl⟩⟩
theorem subT_pid (G:List Nat)(g:Nat):SubT (Ty.pid G) (Ty.pid (G++[g])):=⟨rfl,fun m x c h=>by
 obtain ⟨⟨h1,h2,h3⟩, -⟩:=h
 refine ⟨(),⟨⟨ptrV_plain _ _,ptrR_app g h2,ptrR.mono _ _⟩,tv⟩,?_⟩
 show [ptrV (G++[g]) x]=[ptrV G x]
 rw [ptrV_app g h2]⟩
theorem subT_mid (G:List Nat)(g:Nat):SubT (Ty.mid G) (Ty.mid (G++[g])):=⟨rfl,fun m i c h=>by
 obtain ⟨⟨h1,h2,h3⟩, -⟩:=h
 have hi:i<G.length:=h2
 refine ⟨(),⟨⟨rfl,by show i<(G++[g]).length; simp; omega,ltR.mono _ _⟩,tv⟩,?_⟩
 show [Value.map (some (bAt (G++[g]) i))]=[Value.map (some (bAt G i))]
 rw [bAt_app g hi]⟩
theorem subT_prod {α β:Type}{a a':Ty α}{b b':Ty β}(ha:SubT a a')(hb:SubT b b'):SubT (Ty.prod a b) (Ty.prod a' b'):=⟨by show a.size+b.size=a'.size+b'.size; rw [ha.1,hb.1],fun m x c h=>by
 have h':okS m (a.segs x.1 c.1++b.segs x.2 c.2):=h
 rw [okS_append] at h'
 obtain ⟨c1,h1,e1⟩:=ha.2 m x.1 c.1 h'.1
 obtain ⟨c2,h2,e2⟩:=hb.2 m x.2 c.2 h'.2
 refine ⟨(c1,c2),?_,?_⟩
 ·show okS m (a'.segs x.1 c1++b'.segs x.2 c2)
  rw [okS_append]; exact ⟨h1,h2⟩
 ·show cellsOf (a'.segs x.1 c1++b'.segs x.2 c2)=cellsOf (a.segs x.1 c.1++b.segs x.2 c.2)
  rw [cellsOf_append,cellsOf_append,e1,e2]⟩
theorem subT_segsL {α:Type}{T T':Ty α}(hT:SubT T T'){m:Mem}:∀ (xs:List α) (cs:List T.Ch),cs.length=xs.length→okS m (segsL T xs cs)→∃ cs':List T'.Ch,cs'.length=xs.length∧okS m (segsL T' xs cs')∧cellsOf (segsL T' xs cs')=cellsOf (segsL T xs cs)
 | [],cs,h,_=>⟨[],rfl,tv,by cases cs with
  | nil=>rfl
  | cons c cs=>simp at h⟩
 | x::xs,[],h,_=>by simp at h
 | x::xs,c::cs,h,hok=>by
  rw [segsL,okS_append] at hok
  obtain ⟨c',h1,e1⟩:=hT.2 m x c hok.1
  obtain ⟨cs',h2,h3,e2⟩:=subT_segsL hT xs cs (by simpa using h) hok.2
  refine ⟨c'::cs',by simp [h2],?_,?_⟩
  ·rw [segsL,okS_append]; exact ⟨h1,h3⟩
  ·rw [segsL,segsL,cellsOf_append,cellsOf_append,e1,e2]
def One {α:Type}(F:Nat→α→Res):Prop:=∀ g x k,(F g x).blk k↔g=k
def Res.fam {α:Type}(F:Nat→α→Res)(hF:One F)(G:List Nat)(op:List Nat)(es:List α):Res where
 blk:=fun k=>∃ i,∃ h:i<G.length,i∉op∧G[i]=k
 holds m w:=G.length=es.length∧G.Nodup∧∀ i (h:i<G.length) (h':i<es.length),i∉op→(F G[i] es[i]).holds m w
 frame m w w' hf hh:=⟨hh.1,hh.2.1,fun i h h' ho=>(F G[i] es[i]).frame m w w' (fun k hk=>hf k ⟨i,h,ho,(hF _ _ _).1 hk⟩) (hh.2.2 i h h' ho)⟩
 mono m m' w hm hh:=⟨hh.1,hh.2.1,fun i h h' ho=>(F G[i] es[i]).mono m m' w hm (hh.2.2 i h h' ho)⟩
 lt m w hh k hk:=by
  obtain ⟨i,h,ho,rfl⟩:=hk
  have h':i<es.length:=by rw [← hh.1]; exact h
  exact (F G[i] es[i]).lt m w (hh.2.2 i h h' ho) _ ((hF _ _ _).2 rfl)
section
variable {P:Program} {n:Nat} {m:Mem} {w0:Base} {l:List (Nat×D)} {H:List Res} {a:Act} {w:World}
theorem St.fam0 {α:Type}(S:St n m w0 l H a w)(F:Nat→α→Res)(hF:One F):St n m w0 l (Res.fam F hF [] [] []::H) a w :=
 S.new _ (World.grownBy.refl w _) ⟨rfl,List.nodup_nil,fun i h=>by cases h⟩ (fun k ⟨i,h,_⟩=>by cases h)
theorem St.famAdd {α:Type}(S:St n m w0 l H a w){F:Nat→α→Res}{hF:One F}{G:List Nat}{es:List α}{g:Nat}{e:α}{H1 H':List Res}(hp:Pull H (F g e) H1)(hf:Foc H1 (Res.fam F hF G [] es) (Res.fam F hF (G++[g]) [] (es++[e])) H') :
    St n m w0 l H' a w∧es.length=G.length:=by
  have h1:=S.holds _ hp.mem.1
  have h2:=S.holds _ (hp.mem.2 _ hf.mem)
  have hdis:∀ i (h:i<G.length),G[i]≠g:=fun i h e'=>(hp.apart S.apart).1 _ hf.mem g ((hF _ _ _).2 rfl) ⟨i,h,by simp,e'⟩
  refine ⟨S.into hp hf ⟨by simp [h2.1],?_,fun i h h' ho=>?_⟩ (fun k hk=>?_),h2.1.symm⟩
  · refine List.nodup_append.2 ⟨h2.2.1,by simp,fun x hx y hy=>?_⟩
    obtain rfl:=List.mem_singleton.1 hy
    obtain ⟨i,hi,rfl⟩:=List.mem_iff_getElem.1 hx
    exact hdis i hi
  · by_cases hi:i<G.length
    · have hi':i<es.length:=by rw [← h2.1]; exact hi
      rw [List.getElem_append_left hi,List.getElem_append_left hi']
      exact h2.2.2 i hi hi' ho
    · have e1:i=G.length:=by simp at h; omega
      have e2:i=es.length:=by rw [e1,h2.1]
      have g1:(G++[g])[i]=g:=by simp [e1]
      have g2:(es++[e])[i]=e:=by simp [e2]
      rw [g1,g2]
      exact h1
  · obtain ⟨i,h,ho,rfl⟩:=hk
    by_cases hi:i<G.length
    · rw [List.getElem_append_left hi]; exact .inr ⟨i,hi,ho,rfl⟩
    · have e1:i=G.length:=by simp at h; omega
      exact .inl (by have:(G++[g])[i]=g:=by simp [e1]
                     rw [this]; exact (hF _ _ _).2 rfl)
def atE {α:Type} [Inhabited α] (es:List α)(i:Nat):α:=es.getD i default
theorem atE_get {α:Type} [Inhabited α] {es:List α}{i:Nat}(h:i<es.length):atE es i=es[i]:=by simp [atE,List.getD_eq_getElem?_getD,List.getElem?_eq_getElem h]
theorem Foc.split {A B:List Res}{r r':Res}(h:Foc A r r' B)(hp:A.Pairwise (fun r s=>∀ k,r.blk k→¬ s.blk k)){s:Res}(hs:∀ k,s.blk k→r.blk k)(hd:∀ k,s.blk k→¬ r'.blk k):∀ x∈B,∀ k,s.blk k→¬ x.blk k:=by
 induction h with
 | @here T r r' =>
  have hp':=List.pairwise_cons.1 hp
  intro x hx k hk
  rcases List.mem_cons.1 hx with rfl | hx
  ·exact hd k hk
  ·exact hp'.1 x hx k (hs k hk)
 | @there y T T' r r' hf ih =>
  have hp':=List.pairwise_cons.1 hp
  intro x hx k hk
  rcases List.mem_cons.1 hx with rfl | hx
  ·exact fun h=>hp'.1 r hf.mem k h (hs k hk)
  ·exact ih hp'.2 hs hd x hx k hk
theorem St.famOpen {α:Type} [Inhabited α] (S:St n m w0 l H a w){F:Nat→α→Res}{hF:One F}{G:List Nat}{es:List α}{i:Nat}{H':List Res}(hi:i<G.length)(hf:Foc H (Res.fam F hF G [] es) (Res.fam F hF G [i] es) H') :
    St n m w0 l (F (bAt G i) (atE es i)::H') a w:=by
  have h2:=S.holds _ hf.mem
  have hi':i<es.length:=by rw [← h2.1]; exact hi
  have c1:=h2.2.2 i hi hi' (by simp)
  rw [← atE_get hi', ← bAt_get hi] at c1
  have S1:St n m w0 l H' a w:=S.same hf ⟨h2.1,h2.2.1,fun j hj hj' ho=>h2.2.2 j hj hj' (by simp)⟩ (fun k ⟨j,hj,ho,e⟩=> .inl ⟨j,hj,by simp,e⟩)
  have hA:(Res.fam F hF G [] es).blk (bAt G i):=⟨i,hi,by simp,(bAt_get hi).symm⟩
  have hin:∀ x∈H',∀ k,(F (bAt G i) (atE es i)).blk k→¬ x.blk k:=hf.split S.apart (fun k hk=>by
      obtain rfl:=(hF _ _ _).1 hk
      exact hA) (fun k hk ⟨j,hj,ho,e⟩=>by
      obtain rfl:=(hF _ _ _).1 hk
      have:j=i:=bAt_inj h2.2.1 hj hi (by rw [bAt_get hj]; exact e)
      simp [this] at ho)
  refine ⟨S1.size,S1.defers,S1.get,S1.below,S1.le,S1.fresh,fun r hr=>?_,fun r hr k hk=>?_,List.pairwise_cons.2 ⟨fun x hx k hk hxk=>?_,S1.apart⟩,S1.frz,fun r hr p v hv hk=>?_⟩
  · rcases List.mem_cons.1 hr with rfl | hr
    · exact c1
    · exact S1.holds r hr
  · rcases List.mem_cons.1 hr with rfl | hr
    · obtain rfl:=(hF _ _ _).1 hk
      exact S.base _ hf.mem _ hA
    · exact S1.base r hr k hk
  · exact hin x hx k hk hxk
  · rcases List.mem_cons.1 hr with rfl | hr
    · have e:=(hF _ _ _).1 hk
      exact S.frzH _ hf.mem p v hv (e ▸ hA)
    · exact S1.frzH r hr p v hv hk
theorem St.famClose {α:Type} [Inhabited α] (S:St n m w0 l H a w){F:Nat→α→Res}{hF:One F}{G:List Nat}{es:List α}{i:Nat}{e:α}{H1 H':List Res}(hi:i<G.length)(hp:Pull H (F (bAt G i) e) H1)(hf:Foc H1 (Res.fam F hF G [i] es) (Res.fam F hF G [] (es.set i e)) H'):St n m w0 l H' a w:=by
 have h1:=S.holds _ hp.mem.1
 have h2:=S.holds _ (hp.mem.2 _ hf.mem)
 refine S.into hp hf ⟨by simp [h2.1],h2.2.1,fun j h h' ho=>?_⟩ (fun k hk=>?_)
 ·by_cases hj:j=i
  ·subst hj
   have:(es.set j e)[j]=e:=by simp
   rw [this, ← bAt_get hi]
   exact h1
  ·have hj':j<es.length:=by simpa using h'
   have:(es.set i e)[j]=es[j]:=by rw [List.getElem_set_ne (by omega)]
   rw [this]
   exact h2.2.2 j h hj' (by simpa using hj)
 ·obtain ⟨j,h,ho,rfl⟩:=hk
  by_cases hj:j=i
  ·subst hj; exact .inl ((hF _ _ _).2 (bAt_get hi))
  ·exact .inr ⟨j,h,by simpa using hj,rfl⟩
theorem set_atE {α:Type} [Inhabited α] (es:List α)(i:Nat):es.set i (atE es i)=es:=by
 by_cases h:i<es.length
 ·rw [atE_get h,List.set_getElem_self]
 ·exact List.set_eq_of_length_le (by omega)
theorem St.famShut {α:Type} [Inhabited α] (S:St n m w0 l H a w){F:Nat→α→Res}{hF:One F}{G:List Nat}{es:List α}{i:Nat}{H1 H':List Res}(hi:i<G.length)(hp:Pull H (F (bAt G i) (atE es i)) H1)(hf:Foc H1 (Res.fam F hF G [i] es) (Res.fam F hF G [] es) H'):St n m w0 l H' a w :=
 S.famClose (e:=atE es i) hi hp (by rw [set_atE]; exact hf)
theorem St.famSub {α:Type}(S:St n m w0 l H a w){F F':Nat→α→Res}{hF:One F}{hF':One F'}{G op:List Nat}{es:List α}{H':List Res}(hT:∀ g x (m:Mem) (w:World),(F g x).holds m w→(F' g x).holds m w)(hf:Foc H (Res.fam F hF G op es) (Res.fam F' hF' G op es) H'):St n m w0 l H' a w:=by
 have h2:=S.holds _ hf.mem
 exact S.same hf ⟨h2.1,h2.2.1,fun i h h' ho=>hT _ _ _ _ (h2.2.2 i h h' ho)⟩ (fun k hk=> .inl hk)
def Res.struct {α:Type}(T:Ty α)(te:TypeId)(g:Nat)(e:α):Res where
 blk:=fun k=>some g=some k
 holds m w:=∃ c,okS m (T.segs e c)∧w.heap[g]?=some (.cells (cellsOf (T.segs e c)).toArray te (0,0))
 frame m w w' hf hh:=by
  obtain ⟨c,h1,h2⟩:=hh
  exact ⟨c,h1,(hf g rfl).trans h2⟩
 mono m m' w hm hh:=by
  obtain ⟨c,h1,h2⟩:=hh
  exact ⟨c,okS_mono hm h1,h2⟩
 lt m w hh k hk:=by
  obtain rfl:g=k:=sI hk
  obtain ⟨c,h1,h2⟩:=hh
  exact (Array.getElem?_eq_some_iff.1 h2).1
theorem one_struct {α:Type}(T:Ty α)(te:TypeId):One (Res.struct T te):=fun g x k=>⟨fun h=>sI h,fun h=>congrArg some h⟩
theorem one_map {α β:Type} [DecidableEq α] (bk:Bool)(kt:Ty α)(bv:Bool)(vt:Ty β):One (fun g (kvs:List (α×β))=>Res.map bk kt bv vt g kvs):=fun g x k=>⟨fun h=>sI h,fun h=>congrArg some h⟩
theorem St.structOpen {α:Type}(S:St n m w0 l H a w){T:Ty α}{te:TypeId}{g:Nat}{e:α}{H':T.Ch→List Res}(hf:∀ c,Foc H (Res.struct T te g e) (Res.cells g te (T.segs e c)) (H' c))(c0:T.Ch):∃ c,St n m w0 l (H' c) a w:=by
 obtain ⟨c,h1,h2⟩:=S.holds _ (hf c0).mem
 exact ⟨c,S.same (hf c) ⟨h2,h1⟩ (fun k hk=> .inl hk)⟩
theorem St.structClose {α:Type}(S:St n m w0 l H a w){T:Ty α}{te:TypeId}{g:Nat}{s:List Seg}{e:α}{H':List Res}(c:T.Ch)(hs:s=T.segs e c)(hf:Foc H (Res.cells g te s) (Res.struct T te g e) H'):St n m w0 l H' a w:=by
 subst hs
 have h:=S.holds _ hf.mem
 exact S.same hf ⟨c,h.2,h.1⟩ (fun k hk=> .inl hk)
theorem struct_sub {α:Type}{T T':Ty α}(hT:SubT T T')(te:TypeId)(g:Nat)(x:α)(m:Mem)(w:World)(h:(Res.struct T te g x).holds m w):(Res.struct T' te g x).holds m w:=by
 obtain ⟨c,h1,h2⟩:=h
 obtain ⟨c',h3,h4⟩:=hT.2 m x c h1
 exact ⟨c',h3,by rw [h4]; exact h2⟩
theorem St.rowSub {α:Type}(S:St n m w0 l H a w){T T':Ty α}{e:TypeId}{A:Option Addr}{k cap:Nat}{xs:List α}{H':List Res}(hT:SubT T T')(hf:Foc H (Res.row T e A k cap xs) (Res.row T' e A k cap xs) H'):St n m w0 l H' a w:=by
 obtain ⟨h0,cs,h1,h2,h3⟩:=S.holds _ hf.mem
 obtain ⟨cs',h4,h5,h6⟩:=subT_segsL hT xs cs h1 h2
 refine S.same hf ⟨h0,cs',h4,h5,?_⟩ (fun k hk=> .inl hk)
 rw [h6, ← hT.1]
 exact h3
theorem vl_pid {G:List Nat}(g:Nat)(m:Mem)(x:Option Nat)(v:Value)(h:Vl m false (Ty.pid G) x v):Vl m false (Ty.pid (G++[g])) x v:=by
 obtain ⟨c,rfl,⟨h1,h2,h3⟩, -⟩:=h
 refine ⟨(),?_,⟨ptrV_plain _ _,ptrR_app g h2,ptrR.mono _ _⟩,tv⟩
 show ptrV G x=ptrV (G++[g]) x
 rw [ptrV_app g h2]
theorem ent_sub {α β:Type}{m:Mem}{bk bv:Bool}{kt:Ty α}{vt vt':Ty β}(hT:∀ x v,Vl m bv vt x v→Vl m bv vt' x v):∀ (es:List MapEntry) (kvs:List (α×β)),Ent m bk kt bv vt es kvs→Ent m bk kt bv vt' es kvs
 | [],[],h=>h
 | [],_::_,h=>h
 | _::_,[],h=>h
 | e::es,p::kvs,h=>⟨h.1,hT _ _ h.2.1,ent_sub hT es kvs h.2.2⟩
theorem St.mapSub {α β:Type} [DecidableEq α] (S:St n m w0 l H a w){bk bv:Bool}{kt:Ty α}{vt vt':Ty β}{g:Nat}{kvs:List (α×β)}{H':List Res}(hT:∀ (m:Mem) x v,Vl m bv vt x v→Vl m bv vt' x v)(hf:Foc H (Res.map bk kt bv vt g kvs) (Res.map bk kt bv vt' g kvs) H'):St n m w0 l H' a w:=by
 obtain ⟨es,ck,h1,h2⟩:=S.holds _ hf.mem
 exact S.same hf ⟨es,ck,h1,ent_sub (hT m) _ _ h2.1,h2.2⟩ (fun k hk=> .inl hk)
theorem St.slotP (S:St n m w0 l H a w){u:Nat}{x:Option Nat}{G:List Nat}(hx:x.isSome=true)(hu:fnd l u=some (.rf (ptrV G x) (ptrR G x))):St n m w0 ((u, .v (.pointer (some ⟨bAt G (x.getD 0),0,none⟩)))::l) H a w :=
 S.slot hu (ptrV_some hx) rfl
theorem St.slotPB (S:St n m w0 l H a w){u i g:Nat}{G:List Nat}(hi:i<G.length)(hg:bAt G i=g)(hu:fnd l u=some (.v (.pointer (some ⟨g,0,none⟩)))):St n m w0 ((u, .rf (ptrV G (some i)) (ptrR G (some i)))::l) H a w :=
 S.slot hu (by subst hg; rfl) ⟨rfl,fun j hj=>by obtain rfl:=sI hj; exact hi,ptrR.mono _ _⟩
theorem St.slotPlt (S:St n m w0 l H a w){u:Nat}{x:Option Nat}{v:Value}{G:List Nat}(hx:x.isSome=true)(hu:fnd l u=some (.rf v (ptrR G x))):x.getD 0<G.length :=
 (S.get u _ hu).2.2.1 _ (ptr_some hx)
theorem St.slotLt (S:St n m w0 l H a w){u i:Nat}{v:Value}{G:List Nat}(hu:fnd l u=some (.rf v (ltR i G))):i<G.length:=(S.get u _ hu).2.2.1
theorem St.slotMid (S:St n m w0 l H a w){u i:Nat}{M:List Nat}(hu:fnd l u=some (.rf (.map (some (bAt M i))) (ltR i M))):St n m w0 ((u, .v (.map (some (bAt M i))))::l) H a w:=S.slot hu rfl rfl
theorem St.slotMidB (S:St n m w0 l H a w){u i:Nat}{M:List Nat}(hi:i<M.length)(hu:fnd l u=some (.v (.map (some (bAt M i))))):St n m w0 ((u, .rf (.map (some (bAt M i))) (ltR i M))::l) H a w:=S.slot hu rfl ⟨rfl,hi,ltR.mono _ _⟩
theorem seg_ptr {x:Option Nat}{G:List Nat}(hx:x.isSome=true)(s1 s2:List Seg):cellsOf (s1 ++ .one (.pointer (some ⟨bAt G (x.getD 0),0,none⟩))::s2)=cellsOf (s1 ++ .rf (ptrV G x) (ptrR G x)::s2):=by
 rw [cellsOf_append,cellsOf_append]
 show _++(Value.pointer (some ⟨bAt G (x.getD 0),0,none⟩)::cellsOf s2)=_++(ptrV G x::cellsOf s2)
 rw [ptrV_some hx]
theorem seg_ptr1 {x:Option Nat}{G:List Nat}{m:Mem}{s1 s2:List Seg}(h:okS m (s1 ++ .rf (ptrV G x) (ptrR G x)::s2)):okS m (s1 ++ .one (.pointer (some ⟨bAt G (x.getD 0),0,none⟩))::s2):=by
 have h2:=okS_append.1 h
 exact okS_append.2 ⟨h2.1,rfl,h2.2.2⟩
theorem ptrR_of {x:Option Nat}{G:List Nat}(hi:x.getD 0<G.length)(m:Mem):ptrR G x m:=fun j hj=>by subst hj; exact hi
theorem seg_ptr2 {x:Option Nat}{G:List Nat}{m:Mem}(hi:x.getD 0<G.length){s1 s2:List Seg}(h:okS m (s1 ++ .one (.pointer (some ⟨bAt G (x.getD 0),0,none⟩))::s2)):okS m (s1 ++ .rf (ptrV G x) (ptrR G x)::s2):=by
 have h2:=okS_append.1 h
 exact okS_append.2 ⟨h2.1,⟨ptrV_plain _ _,ptrR_of hi m,ptrR.mono _ _⟩,h2.2.2⟩
theorem St.frore (S:St n m w0 l H a w){g:Nat}{e:TypeId}{s s':List Seg}{H':List Res}(hf:Foc H (Res.fro g e s) (Res.fro g e s') H')(hc:cellsOf s'=cellsOf s)(hok:okS m s→okS m s'):St n m w0 l H' a w :=
 have hr:=S.holds _ hf.mem
 S.same hf ⟨by rw [hc]; exact hr.1,hok hr.2⟩ (fun k hk=> .inl hk)
theorem St.froP (S:St n m w0 l H a w){b:Nat}{t:TypeId}{x:Option Nat}{G:List Nat}{H':List Res}{s1 s2:List Seg}(hx:x.isSome=true)(hf:Foc H (Res.fro b t (s1 ++ .rf (ptrV G x) (ptrR G x)::s2)) (Res.fro b t (s1 ++ .one (.pointer (some ⟨bAt G (x.getD 0),0,none⟩))::s2)) H'):St n m w0 l H' a w :=
 S.frore hf (seg_ptr hx s1 s2) seg_ptr1
theorem St.froPB (S:St n m w0 l H a w){b:Nat}{t:TypeId}{x:Option Nat}{G:List Nat}{H':List Res}{s1 s2:List Seg}(hx:x.isSome=true)(hi:x.getD 0<G.length)(hf:Foc H (Res.fro b t (s1 ++ .one (.pointer (some ⟨bAt G (x.getD 0),0,none⟩))::s2)) (Res.fro b t (s1 ++ .rf (ptrV G x) (ptrR G x)::s2)) H'):St n m w0 l H' a w :=
 S.frore hf (seg_ptr hx s1 s2).symm (seg_ptr2 hi)
theorem St.slotPx (S:St n m w0 l H a w){u:Nat}{x:Option Nat}{G:List Nat}(hx:x.isSome=true)(hi:x.getD 0<G.length)(hu:fnd l u=some (.v (.pointer (some ⟨bAt G (x.getD 0),0,none⟩)))):St n m w0 ((u, .rf (ptrV G x) (ptrR G x))::l) H a w :=
 S.slot hu (ptrV_some hx).symm ⟨ptrV_plain _ _,ptrR_of hi m,ptrR.mono _ _⟩
theorem St.cellMid (S:St n m w0 l H a w){b:Nat}{t:TypeId}{g i:Nat}{M:List Nat}{H':List Res}{s1 s2:List Seg}(hg:bAt M i=g)(hi:i<M.length)(hf:Foc H (Res.cells b t (s1 ++ .one (.map (some g))::s2)) (Res.cells b t (s1 ++ .rf (.map (some (bAt M i))) (ltR i M)::s2)) H'):St n m w0 l H' a w:=by
 subst hg
 have h:=S.holds _ hf.mem
 have e:cellsOf (s1 ++ .rf (.map (some (bAt M i))) (ltR i M)::s2)=cellsOf (s1 ++ .one (.map (some (bAt M i)))::s2):=by rw [cellsOf_append,cellsOf_append]; rfl
 have h2:=okS_append.1 h.2
 refine S.same hf ⟨by rw [e]; exact h.1,okS_append.2 ⟨h2.1,⟨rfl,hi,ltR.mono _ _⟩,h2.2.2⟩⟩ (fun k hk=> .inl hk)
theorem St.cellMlt (S:St n m w0 l H a w){b:Nat}{t:TypeId}{i:Nat}{M:List Nat}{H':List Res}{s1 s2:List Seg}(hf:Pull H (Res.cells b t (s1 ++ .rf (.map (some (bAt M i))) (ltR i M)::s2)) H'):i<M.length:=(okS_append.1 (S.holds _ hf.mem.1).2).2.1.2.1
theorem St.cellMidO (S:St n m w0 l H a w){b:Nat}{t:TypeId}{i:Nat}{M:List Nat}{H':List Res}{s1 s2:List Seg}(hf:Foc H (Res.cells b t (s1 ++ .rf (.map (some (bAt M i))) (ltR i M)::s2)) (Res.cells b t (s1 ++ .one (.map (some (bAt M i)))::s2)) H'):St n m w0 l H' a w :=
 S.cellro hf (by rw [cellsOf_append,cellsOf_append]; rfl) fun h=>by
  have h2:=okS_append.1 h
  exact okS_append.2 ⟨h2.1,rfl,h2.2.2⟩
theorem St.slotAt {α:Type}(S:St n m w0 l H a w){u g:Nat}{t:TypeId}{T:Ty α}{x:α}{c:T.Ch}{s:List Seg}{H':List Res}(hp:Pull H (Res.fro g t s) H')(hs:s=T.segs x c)(hu:fnd l u=some (.v (.pointer (some ⟨g,0,none⟩)))):St n m w0 ((u, .pt ⟨g,0,none⟩ (At T ⟨g,0,none⟩ x))::l) H a w:=by
 obtain ⟨h1,h2⟩:=S.holds _ hp.mem.1
 subst hs
 refine S.slot hu rfl ⟨⟨c,h2,fun j v hv=>?_⟩,At.mono _ _ _⟩
 have ha:(⟨g,0,none⟩:Addr).add j=⟨g,j,none⟩:=by unfold Addr.add; split <;> simp_all
 rw [ha]
 exact h1 j v hv
theorem at_sub {α:Type}{T T':Ty α}(hT:SubT T T'){p:Addr}{x:α}{m:Mem}(h:At T p x m):At T' p x m:=by
 obtain ⟨c,h1,h2⟩:=h
 obtain ⟨c',h3,h4⟩:=hT.2 m x c h1
 exact ⟨c',h3,by rw [h4]; exact h2⟩
def Ty.fnc {α Ch:Type}(V:α→Ch→Value)(R:α→Ch→Mem→Prop):Ty α:=⟨1,Ch,fun x c=>[.rf (V x c) (R x c)],fun _ _=>rfl⟩
theorem subT_fnc {α Ch:Type}{V:α→Ch→Value}{R R':α→Ch→Mem→Prop}(h:∀ x c m,R x c m→R' x c m)(hm:∀ x c,Mono (R' x c)):SubT (Ty.fnc V R) (Ty.fnc V R') :=
 ⟨rfl,fun m x c hx=>⟨c,⟨⟨hx.1.1,h x c m hx.1.2.1,hm x c⟩,tv⟩,rfl⟩⟩
theorem St.slotFn {α Ch:Type}(S:St n m w0 l H a w){u:Nat}{v:Value}{R0:Mem→Prop}{V:α→Ch→Value}{R:α→Ch→Mem→Prop}(x:α)(c:Ch)(hv:v=V x c)(hR:R0 m→R x c m)(hm:Mono (R x c))(hu:fnd l u=some (.rf v R0)):St n m w0 ((u, .rf (V x c) (R x c))::l) H a w:=by
 have h:=(S.get u _ hu).2
 exact S.slot hu hv ⟨by rw [← hv]; exact h.1,hR h.2.1,hm⟩
theorem okL_monoR (ds:List D):Mono (fun m=>okL m ds):=fun m m' hm h=>okL_all.2 fun d hd=>D.ok_mono hm (okL_all.1 h d hd)
variable {ops:Array Oper} {Q:Exit→Act→World→Prop} {rest:List Oper} {ty:TypeId} {ps:String} {af:Array Edge} {t:Nat}
theorem s_loadMF (S:St n m w0 l H a w){e:TypeId}{x:Operand}{g o z:Nat}{e':TypeId}{s:List Seg}{v:Value}{R:Mem→Prop}{T:List Res}(hx:evo l x=some (.v (.pointer (some ⟨g,o,none⟩))))(hf:Foc H (Res.fro g e' s) (Res.fro g e' s) T)
  (hT:tyI P e=some (false,z)) (hs:subS s o 1=some [.rf v R]) (ht:Nat.blt t n=true)
  (K:∀ a',St n m w0 ((t, .rf v R)::l) H a' w→wpList P ops Q rest a' w):wpList P ops Q (⟨some t, .load e x,ty,ps,af,none⟩::rest) a w:=by
 have hc:=S.holds _ hf.mem
 have h4:(cellsOf [Seg.rf v R])[0]?=some v:=rfl
 obtain ⟨h5,h6⟩:=subS_at hc.2 hs h4
 have hv:w.cell? ⟨g,o,none⟩=some v:=fro_cell hc S.frz h5
 refine s_run (dv:= .rf v R) S ht h6.1 ?_ K
 simp only [execOp,S.evo hx,D.val]
 simp only [Instr.loadAt,Instr.sureAddr,Sem.run_bind,Sem.run_pure,Result.andThen_ok]
 rw [run_loadVar_one hT hv]
 rfl
theorem s_mkFn (S:St n m w0 l H a w){fn:Fn}{cs:List Operand}{ds:List D}(hx:evos l cs=some ds)(ht:Nat.blt t n=true)
  (K:∀ a',St n m w0 ((t, .rf (.func fn #[] (ds.map D.val).toArray) (fun m=>okL m ds))::l) H a' w→wpList P ops Q rest a' w):wpList P ops Q (⟨some t, .makeFunc fn #[] cs.toArray,ty,ps,af,none⟩::rest) a w :=
 s_run (dv:= .rf (.func fn #[] (ds.map D.val).toArray) (fun m=>okL m ds)) S ht ⟨rfl,okL_all.2 (S.evos hx).2,okL_monoR ds⟩ (by
  have h1:=(S.evos hx).1
  simp only [execOp,Instr.makeFunc,D.val, ← h1]
  simp) K
theorem run_callC {f:FuncId}(hf:Fn_ P f)(ρ:Operand→Value)(o:Oper)(c:Operand)(xs:List Operand)(ts:Array TypeId)(caps:List Value)(ho:o.op = .call ⟨.value c,xs.toArray,ts⟩)(hρ:ρ c = .func (.func f) #[] caps.toArray)(w:World) :
  (execOp ρ o).run P w = .ok (.enter f (xs.map ρ++caps).toArray) w:=by
 obtain ⟨fn,h1,h2,h3⟩:=hf.out
 unfold execOp
 simp only [ho,resolve,Deferred.ofValue,hρ]
 have h2':fn.body≠none:=by intro e; rw [e] at h2; cases h2
 have h3':fn.name ≠ "runtime.NumGoroutine" := by simpa using h3
 simp [invoke,callFunc,program,Sem.run,h1,h2',h3']
def CallsV (P:Program)(v:Value)(w:World)(R:Ending→World→Prop):Prop :=
 ∃ (f:FuncId) (dc:List D),v = .func (.func f) #[] (dc.map D.val).toArray∧Fn_ P f∧Calls P f (dc.map D.val).toArray w R
theorem RetX.conv {Ch Ch':Type}{m:Mem}{H0:List Res}{d:Ch→D}{Ho:Ch→List Res}{d':Ch'→D}{Ho':Ch'→List Res}{w:World}{e:Ending}{w':World}(h:RetX m H0 d Ho w e w')(hc:∀ c,∃ c',d c=d' c'∧Ho c=Ho' c'):RetX m H0 d' Ho' w e w':=by
 obtain ⟨c,m',h1,h2,h3⟩:=h
 obtain ⟨c',e1,e2⟩:=hc c
 exact ⟨c',m',by rw [← e1]; exact h1,by rw [← e1]; exact h2,by rw [← e2]; exact h3⟩
theorem s_callV {Ch:Type}(S:St n m w0 l H a w){cl:Operand}{ts:Array TypeId}{v:Value}{R:Mem→Prop}(Hin Hr:List Res)(Ho Hn:Ch→List Res)(hn:∀ c,Ho c++Hr=Hn c)(hcl:evo l cl=some (.rf v R))(hs:Sel H (Hin++Hr))(ht:Nat.blt t n=true)
  (hc:R m→Pre m Hin w→CallsV P v w (RetX m Hin (fun _:Ch=>(.tup []:D)) Ho w))
  (K:∀ c m' (_:LeM m m') a' w',St n m' w0 ((t, .tup [])::l) (Hn c) a' w'→wpList P ops Q rest a' w'):wpList P ops Q (⟨some t, .call ⟨.value cl, #[],ts⟩,ty,ps,af,none⟩::rest) a w :=
 wpList_plain rfl fun K' hK=>by
  have S1:=S.sub (l':=[]) tv hs
  have hsl:∀ (A B:List Res),Sel (A++B) A:=fun A B=>by
   induction A with
   | nil=>exact .nil
   | cons r T ih=>exact .cons .here ih
  obtain ⟨f,dc,rfl,hf,hcall⟩:=hc (evo_ok S hcl).2.1 (S1.pre (hsl Hin Hr))
  unfold Oper.wp
  rw [run_callC hf a.eval _ cl [] ts (dc.map D.val) rfl (S.evo hcl),Oper.upon_enter,List.map_nil,List.nil_append]
  refine hcall.mono fun e w' ⟨c,m',he,hdk,hp⟩=>?_
  subst he
  exact hK _ _ (K _ _ hp.le _ _ ((hn c ▸ S.afterX hs hp).put ht hdk))
end
end GW
