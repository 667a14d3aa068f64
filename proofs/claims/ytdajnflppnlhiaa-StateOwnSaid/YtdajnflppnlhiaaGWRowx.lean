import Derived.Test.YtdajnflppnlhiaaGWRQui
set_option linter.unusedVariables false
set_option linter.unusedSimpArgs false
namespace GW
open Go Go.RowKit
def Res.rowx {α:Type}(ty:Ty α)(e:TypeId)(A:Option Addr)(n cap:Nat)(xs:List α)(cs:List ty.Ch):Res where
 blk:=fun k=>A.map (·.block)=some k
 holds m w:=xs.length=n∧cs.length=xs.length∧okS m (segsL ty xs cs)∧w.ownsRow 0 e ty.size (.slice A n cap) n (cellsOf (segsL ty xs cs))
 frame m w w' h hh:=by
  obtain ⟨h0,h1,h2,h3,h4⟩:=hh
  refine ⟨h0,h1,h2,h3,?_⟩
  rcases h4 with h4 | ⟨g,cp,cur,e1,e2,e3,e4⟩
  ·exact .inl h4
  ·obtain ⟨rfl, -,rfl⟩:=Value.slice.inj e1
   exact .inr ⟨g,_,cur,rfl,e2,(h g rfl).trans e3,e4⟩
 mono m m' w h hh:=by
  obtain ⟨h0,h1,h2,h3⟩:=hh
  exact ⟨h0,h1,okS_mono h h2,h3⟩
 lt m w hh k hk:=by
  obtain ⟨h0,h1,h2,h3,h4⟩:=hh
  rcases h4 with ⟨e1,_⟩ | ⟨g,cp,cur,e1,e2,e3,e4⟩
  ·obtain ⟨rfl,rfl,rfl⟩:=Value.slice.inj e1
   cases hk
  ·obtain ⟨rfl, -, -⟩:=Value.slice.inj e1
   obtain rfl:g=k:=sI hk
   exact (Array.getElem?_eq_some_iff.1 e3).1
theorem Res.rowx.row {α:Type}{ty:Ty α}{e:TypeId}{A:Option Addr}{n cap:Nat}{xs:List α}{cs:List ty.Ch}{m:Mem}{w:World}(h:(Res.rowx ty e A n cap xs cs).holds m w):(Res.row ty e A n cap xs).holds m w:=⟨h.1,cs,h.2⟩
theorem Res.stay_rowx {α:Type}{ty:Ty α}{e:TypeId}{A:Option Addr}{n cap:Nat}{xs:List α}{cs:List ty.Ch}:(Res.rowx ty e A n cap xs cs).Stay:=fun m m' w w' h h'=>⟨h.1,h.2.1,h.2.2.1,h'.2.2.2⟩
theorem rowx_elem {α:Type} [Inhabited α] {ty':Ty α}{g k cap:Nat}{xs:List α}{cs:List ty'.Ch}(hl:cs.length=xs.length){i:Int}(h0:0≤i)(h1:i<xs.length) :
  ∃ c,∀ (e:TypeId) (m:Mem) (w:World),(Res.rowx ty' e (some ⟨g,0,none⟩) k cap xs cs).holds m w→okS m (ty'.segs (gt xs i) c)∧∀ j v,(cellsOf (ty'.segs (gt xs i) c))[j]?=some v→w.cell? ⟨g,i.toNat*ty'.size+j,none⟩=some v:=by
 have hi:i.toNat<xs.length:=by omega
 have hi':i.toNat<cs.length:=by omega
 refine ⟨cs[i.toNat],fun e m w h=>?_⟩
 obtain ⟨h2,c5,c6,c7,c8⟩:=h
 have hok:=(segsL_ok xs cs c5).1 c6 _ hi hi'
 refine ⟨by rw [gt_get xs i hi]; exact hok,fun j v hv=>?_⟩
 rw [gt_get xs i hi] at hv
 rcases c8 with ⟨e1,rfl⟩ | ⟨g',cp,cur,e1,e2,e3,e4,e5,e6,e7⟩
 ·omega
 ·obtain ⟨hg, -,rfl⟩:=Value.slice.inj e1
  obtain rfl:g=g':=by simpa using hg
  have hj:j<ty'.size:=by
   have:=(List.getElem?_eq_some_iff.1 hv).1
   rwa [len_cellsOf hok,ty'.len] at this
  have h3:=segsL_cell xs cs c5 c6 i.toNat hi hi' j hj
  rw [hv, ← e7] at h3
  have hb:i.toNat*ty'.size+j<k*ty'.size:=by
   have h3:(i.toNat+1)*ty'.size≤k*ty'.size:=Nat.mul_le_mul_right _ (by omega)
   rw [Nat.add_mul] at h3
   omega
  rw [List.getElem?_take_of_lt hb] at h3
  rw [cell_of_row w g _ cur e (0,0) e3]
  simpa using h3
section
variable {P:Program} {n:Nat} {m m':Mem} {w0:Base} {l lq:List (Nat×D)} {H HS:List Res} {a:Act} {w:World} {lO:List Oper} {i':Nat} {r':Sch} {g':Option (Nat×Bool)}
variable {ops:Array Oper} {Q:Exit→Act→World→Prop} {rest:List Oper} {ty:TypeId} {ps:String} {af:Array Edge} {t:Nat}
theorem St.rowx {α:Type}(S:St n m w0 l H a w){ty':Ty α}{e:TypeId}{A:Option Addr}{k cap:Nat}{xs:List α}{H':List ty'.Ch→List Res}(hf:∀ cs,Foc H (Res.row ty' e A k cap xs) (Res.rowx ty' e A k cap xs cs) (H' cs)):∃ cs:List ty'.Ch,St n m w0 l (H' cs) a w:=by
 obtain ⟨h0,cs,h1⟩:=S.holds _ (hf []).mem
 exact ⟨cs,S.same (hf cs) ⟨h0,h1⟩ (fun k hk=> .inl hk)⟩
theorem St.rowu {α:Type}(S:St n m w0 l H a w){ty':Ty α}{e:TypeId}{A:Option Addr}{k cap:Nat}{xs:List α}{cs:List ty'.Ch}{H':List Res}(hf:Foc H (Res.rowx ty' e A k cap xs cs) (Res.row ty' e A k cap xs) H'):St n m w0 l H' a w :=
 S.same hf (Res.rowx.row (S.holds _ hf.mem)) (fun k hk=> .inl hk)
theorem s_iaddrX0 {α:Type}(S:St n m w0 l H a w){e et ee:TypeId}{x y:Operand}{A:Option Addr}{k cap g:Nat}{ty':Ty α}{xs:List α}{cs:List ty'.Ch}{kk:IntKind}{i:Int}{b:Bool}{T:List Res}(hA:A=some ⟨g,0,none⟩)
  (hx:evo l x=some (.v (.slice A k cap))) (hf:Foc H (Res.rowx ty' ee A k cap xs cs) (Res.rowx ty' ee A k cap xs cs) T) (hy:evo l y=some (.v (.int kk i))) (hu:P.underlying e=some (.slice et)) (hT:tyI P et=some (b,ty'.size)) (h0:0≤i) (h1:i<xs.length) (ht:Nat.blt t n=true)
  (K:∀ a',St n m w0 ((t, .v (.pointer (some ⟨g,i.toNat*ty'.size,none⟩)))::l) H a' w→wpList P ops Q rest a' w):wpList P ops Q (⟨some t, .indexAddr e x y,ty,ps,af,none⟩::rest) a w :=
 s_run (dv:= .v (.pointer (some ⟨g,i.toNat*ty'.size,none⟩))) S ht rfl (by
  have hk:xs.length=k:=(S.holds _ hf.mem).1
  subst hA
  have hx':a.eval x = .slice (some ⟨g,0,none⟩) k cap:=S.evo hx
  have hy':a.eval y = .int kk i:=S.evo hy
  have ha:(⟨g,0,none⟩:Addr).add (i.toNat*ty'.size)=⟨g,i.toNat*ty'.size,none⟩:=by unfold Addr.add; split <;> simp_all
  simp only [execOp,hx',hy']
  simp [Instr.indexAt,asIntOf,run_underlying hu,h0,show i<(k:Int) by omega,run_sizeI hT,D.val,ha]) K
theorem h_iaddrX {α:Type}(S:St n m' w0 l H a w)(C:Cls m w0 lq HS)(hw_:WP_ m w0 HS w)(hle:LeM m m')(hsub:subF l lq){e et ee:TypeId}{x y:Operand}{A:Option Addr}{k cap:Nat}{ty':Ty α}{xs:List α}{cs:List ty'.Ch}{kk:IntKind}{i:Int}{b:Bool}{T:List Res}
  (hx:evo lq x=some (.v (.slice A k cap))) (hf:Foc HS (Res.rowx ty' ee A k cap xs cs) (Res.rowx ty' ee A k cap xs cs) T) (hy:evo lq y=some (.v (.int kk i))) (hu:P.underlying e=some (.slice et)) (hT:tyI P et=some (b,ty'.size)) (h0:0≤i) (h1:i<xs.length) (ht:Nat.blt t n=true)
  (hi':lO[i']?=some ⟨some t, .indexAddr e x y,ty,ps,af,g'⟩) (hgd':GdOK lO l g') (K:∀ g a',A=some ⟨g,0,none⟩→St n m' w0 ((t, .v (.pointer (some ⟨g,i.toNat*ty'.size,none⟩)))::l) H a' w→Cls m w0 ((t, .v (.pointer (some ⟨g,i.toNat*ty'.size,none⟩)))::lq) HS→wpH P lO.toArray (NoPanic Q) (WP_ m w0 HS) r' a' w):wpH P lO.toArray (NoPanic Q) (WP_ m w0 HS) (.take i' r') a w:=by
 have hr:=hw_.holds _ hf.mem
 have hk:xs.length=k:=hr.1
 obtain ⟨g,cur,cs',hA,_⟩:=Res.row.at_ (Res.rowx.row hr) (by omega)
 exact h_of S C hw_ hle hsub hi' hgd' ht rfl rfl (fun w S _ h=>s_iaddrX0 (ops := #[]) (rest:=[]) (ty:=ty) (ps:=ps) (af:=af) (P:=P) S hA hx hf hy hu hT h0 h1 (ht:=ht) h) (fun a'=>K g a' hA)
theorem s_ldRW {α:Type} [Inhabited α] (S:St n m w0 l H a w){e ee:TypeId}{x:Operand}{A:Option Addr}{g k cap o:Nat}{ty':Ty α}{xs:List α}{i:Int}{T:List Res}(hx:evo l x=some (.v (.pointer (some ⟨g,o,none⟩))))(hA:A=some ⟨g,0,none⟩)(hf:Foc H (Res.row ty' ee A k cap xs) (Res.row ty' ee A k cap xs) T)
  (hT:tyI P e=some (true,ty'.size)) (h0:0≤i) (h1:i<xs.length) (ho:i.toNat*ty'.size=o) (ht:Nat.blt t n=true)
  (K:∀ c a',St n m w0 ((t, .agg (ty'.segs (gt xs i) c))::l) H a' w→wpList P ops Q rest a' w):wpList P ops Q (⟨some t, .load e x,ty,ps,af,none⟩::rest) a w:=by
 have hr:=S.holds _ hf.mem
 subst hA
 obtain ⟨c,c1,c2⟩:=Res.row.elem hr h0 h1
 refine s_run (dv:= .agg (ty'.segs (gt xs i) c)) S ht c1 ?_ (K c)
 have hx':a.eval x = .pointer (some ⟨g,o,none⟩):=S.evo hx
 simp only [execOp,hx',Instr.loadAt,Instr.sureAddr,Sem.run_bind,Sem.run_pure,Result.andThen_ok]
 rw [run_loadVar_cells (cs:=cellsOf (ty'.segs (gt xs i) c)) hT (by rw [len_cellsOf c1,ty'.len]) (fun j v hv=>?_)]
 ·rfl
 ·have:=c2 _ _ hv
  rwa [ho] at this
theorem s_ldXW0 {α:Type} [Inhabited α] (S:St n m w0 l H a w){e ee:TypeId}{x:Operand}{g k cap o:Nat}{ty':Ty α}{xs:List α}{cs:List ty'.Ch}{i:Int}{T:List Res}{c:ty'.Ch}(hc:∀ (e:TypeId) (m:Mem) (w:World),(Res.rowx ty' e (some ⟨g,0,none⟩) k cap xs cs).holds m w→okS m (ty'.segs (gt xs i) c)∧∀ j v,(cellsOf (ty'.segs (gt xs i) c))[j]?=some v→w.cell? ⟨g,i.toNat*ty'.size+j,none⟩=some v)
  (hx:evo l x=some (.v (.pointer (some ⟨g,o,none⟩)))) (hf:Foc H (Res.rowx ty' ee (some ⟨g,0,none⟩) k cap xs cs) (Res.rowx ty' ee (some ⟨g,0,none⟩) k cap xs cs) T)
  (hT:tyI P e=some (true,ty'.size)) (ho:i.toNat*ty'.size=o) (ht:Nat.blt t n=true)
  (K:∀ a',St n m w0 ((t, .agg (ty'.segs (gt xs i) c))::l) H a' w→wpList P ops Q rest a' w):wpList P ops Q (⟨some t, .load e x,ty,ps,af,none⟩::rest) a w:=by
 obtain ⟨c1,c2⟩:=hc _ _ _ (S.holds _ hf.mem)
 refine s_run (dv:= .agg (ty'.segs (gt xs i) c)) S ht c1 ?_ K
 have hx':a.eval x = .pointer (some ⟨g,o,none⟩):=S.evo hx
 simp only [execOp,hx',Instr.loadAt,Instr.sureAddr,Sem.run_bind,Sem.run_pure,Result.andThen_ok]
 rw [run_loadVar_cells (cs:=cellsOf (ty'.segs (gt xs i) c)) hT (by rw [len_cellsOf c1,ty'.len]) (fun j v hv=>?_)]
 ·rfl
 ·have:=c2 _ _ hv
  rwa [ho] at this
theorem h_ldXW {α:Type} [Inhabited α] (S:St n m' w0 l H a w)(C:Cls m w0 lq HS)(hw_:WP_ m w0 HS w)(hle:LeM m m')(hsub:subF l lq){e ee:TypeId}{x:Operand}{A:Option Addr}{g k cap o:Nat}{ty':Ty α}{xs:List α}{cs:List ty'.Ch}{i:Int}{T:List Res}(hx:evo lq x=some (.v (.pointer (some ⟨g,o,none⟩))))(hA:A=some ⟨g,0,none⟩)(hf:Foc HS (Res.rowx ty' ee A k cap xs cs) (Res.rowx ty' ee A k cap xs cs) T)
  (hT:tyI P e=some (true,ty'.size)) (h0:0≤i) (h1:i<xs.length) (ho:i.toNat*ty'.size=o) (ht:Nat.blt t n=true)
  (hi':lO[i']?=some ⟨some t, .load e x,ty,ps,af,g'⟩) (hgd':GdOK lO l g') (K:∀ c a',St n m' w0 ((t, .agg (ty'.segs (gt xs i) c))::l) H a' w→Cls m w0 ((t, .agg (ty'.segs (gt xs i) c))::lq) HS→wpH P lO.toArray (NoPanic Q) (WP_ m w0 HS) r' a' w):wpH P lO.toArray (NoPanic Q) (WP_ m w0 HS) (.take i' r') a w:=by
 subst hA
 obtain ⟨c,hc⟩:=rowx_elem (ty':=ty') (g:=g) (k:=k) (cap:=cap) (hw_.holds _ hf.mem).2.1 h0 h1
 exact h_of S C hw_ hle hsub hi' hgd' ht rfl rfl (fun w S _ h=>s_ldXW0 (ops := #[]) (rest:=[]) (ty:=ty) (ps:=ps) (af:=af) (P:=P) S hc hx hf hT ho (ht:=ht) h) (K c)
end
end GW
