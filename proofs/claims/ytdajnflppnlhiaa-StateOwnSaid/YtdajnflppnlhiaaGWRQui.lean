import Derived.Test.YtdajnflppnlhiaaGWRec
set_option linter.unusedVariables false
set_option linter.unusedSimpArgs false
namespace GW
open Go Go.RowKit
section
variable {P:Program} {n:Nat} {m m':Mem} {w0:Base} {l lq:List (Nat×D)} {H HS:List Res} {a:Act} {w:World} {lO:List Oper} {i':Nat} {r':Sch} {g':Option (Nat×Bool)}
variable {Q:Exit→Act→World→Prop} {ty:TypeId} {ps:String} {af:Array Edge} {t:Nat}
variable {α β:Type} {nn:α→Bool} {to:α→β} {U:Ty α→Ty β}
theorem h_fieldAddr (S:St n m' w0 l H a w)(C:Cls m w0 lq HS)(hw_:WP_ m w0 HS w)(hle:LeM m m')(hsub:subF l lq){e:TypeId}{x:Operand}{f g o off o' z:Nat}{ft:TypeId}{b:Bool}(hx:evo lq x=some (.v (.pointer (some ⟨g,o,none⟩))))(hF:fieldI P e f=some (off,ft))(hT:tyI P ft=some (b,z))(hz:z≠0)(ho:o+off=o')(ht:Nat.blt t n=true)
  (hi':lO[i']?=some ⟨some t, .fieldAddr e x f,ty,ps,af,g'⟩) (hgd':GdOK lO l g') (K:∀ a',St n m' w0 ((t, .v (.pointer (some ⟨g,o',none⟩)))::l) H a' w→Cls m w0 ((t, .v (.pointer (some ⟨g,o',none⟩)))::lq) HS→wpH P lO.toArray (NoPanic Q) (WP_ m w0 HS) r' a' w):wpH P lO.toArray (NoPanic Q) (WP_ m w0 HS) (.take i' r') a w :=
 h_of S C hw_ hle hsub hi' hgd' ht rfl rfl (fun w S _ h=>s_fieldAddr (ops := #[]) (rest:=[]) (ty:=ty) (ps:=ps) (af:=af) (P:=P) S (e:=e) (x:=x) (f:=f) (g:=g) (o:=o) (off:=off) (o':=o') (z:=z) (ft:=ft) (b:=b) (hx:=hx) (hF:=hF) (hT:=hT) (hz:=hz) (ho:=ho) (ht:=ht) h) K
theorem h_faddrP {α:Type}(S:St n m' w0 l H a w)(C:Cls m w0 lq HS)(hw_:WP_ m w0 HS w)(hle:LeM m m')(hsub:subF l lq){e:TypeId}{x:Operand}{p:Addr}{R:Mem→Prop}{f off z:Nat}{ft:TypeId}{b:Bool}{tF:Ty α}{y:α}(hx:evo lq x=some (.pt p R))(hF:fieldI P e f=some (off,ft))(hT:tyI P ft=some (b,z))(hz:z≠0)(hat:∀ m,R m→At tF (p.add off) y m)(ht:Nat.blt t n=true)
  (hi':lO[i']?=some ⟨some t, .fieldAddr e x f,ty,ps,af,g'⟩) (hgd':GdOK lO l g') (K:∀ a',St n m' w0 ((t, .pt (p.add off) (At tF (p.add off) y))::l) H a' w→Cls m w0 ((t, .pt (p.add off) (At tF (p.add off) y))::lq) HS→wpH P lO.toArray (NoPanic Q) (WP_ m w0 HS) r' a' w):wpH P lO.toArray (NoPanic Q) (WP_ m w0 HS) (.take i' r') a w :=
 h_of S C hw_ hle hsub hi' hgd' ht rfl rfl (fun w S _ h=>s_faddrP (ops := #[]) (rest:=[]) (ty:=ty) (ps:=ps) (af:=af) (P:=P) S (e:=e) (x:=x) (p:=p) (R:=R) (f:=f) (off:=off) (z:=z) (ft:=ft) (b:=b) (tF:=tF) (y:=y) (hx:=hx) (hF:=hF) (hT:=hT) (hz:=hz) (hat:=hat) (ht:=ht) h) K
theorem h_neS {α:Type} [DecidableEq α] (S:St n m' w0 l H a w)(C:Cls m w0 lq HS)(hw_:WP_ m w0 HS w)(hle:LeM m m')(hsub:subF l lq){xt yt:TypeId}{x y:Operand}{ty':Ty α}{D':Nat}{p q:α}(c c':ty'.Ch)(hx:evo lq x=some (.agg (ty'.segs p c)))(hy:evo lq y=some (.agg (ty'.segs q c')))(hE:EqTy P xt true ty' D')(hD:Nat.ble D' 10000=true)(hG:P.eqGuardType P.depth xt=false)(ht:Nat.blt t n=true)
  (hi':lO[i']?=some ⟨some t, .binOp .neq xt x y yt,ty,ps,af,g'⟩) (hgd':GdOK lO l g') (K:∀ a',St n m' w0 ((t, .v (.bool (!decide (p=q))))::l) H a' w→Cls m w0 ((t, .v (.bool (!decide (p=q))))::lq) HS→wpH P lO.toArray (NoPanic Q) (WP_ m w0 HS) r' a' w):wpH P lO.toArray (NoPanic Q) (WP_ m w0 HS) (.take i' r') a w :=
 h_of S C hw_ hle hsub hi' hgd' ht rfl rfl (fun w S _ h=>s_neS (ops := #[]) (rest:=[]) (ty:=ty) (ps:=ps) (af:=af) (P:=P) S (xt:=xt) (yt:=yt) (x:=x) (y:=y) (ty':=ty') (D':=D') (p:=p) (q:=q) (c:=c) (c':=c') (hx:=hx) (hy:=hy) (hE:=hE) (hD:=hD) (hG:=hG) (ht:=ht) h) K
theorem h_loadM (S:St n m' w0 l H a w)(C:Cls m w0 lq HS)(hw_:WP_ m w0 HS w)(hle:LeM m m')(hsub:subF l lq){e:TypeId}{x:Operand}{g o z:Nat}{e':TypeId}{s:List Seg}{v:Value}{R:Mem→Prop}{T:List Res}(hx:evo lq x=some (.v (.pointer (some ⟨g,o,none⟩))))(hf:Foc HS (Res.cells g e' s) (Res.cells g e' s) T)
  (hT:tyI P e=some (false,z)) (hs:subS s o 1=some [.rf v R]) (ht:Nat.blt t n=true)
  (hi':lO[i']?=some ⟨some t, .load e x,ty,ps,af,g'⟩) (hgd':GdOK lO l g') (K:∀ a',St n m' w0 ((t, .rf v R)::l) H a' w→Cls m w0 ((t, .rf v R)::lq) HS→wpH P lO.toArray (NoPanic Q) (WP_ m w0 HS) r' a' w):wpH P lO.toArray (NoPanic Q) (WP_ m w0 HS) (.take i' r') a w :=
 h_of S C hw_ hle hsub hi' hgd' ht rfl rfl (fun w S _ h=>s_loadM (ops := #[]) (rest:=[]) (ty:=ty) (ps:=ps) (af:=af) (P:=P) S (e:=e) (x:=x) (g:=g) (o:=o) (z:=z) (e':=e') (s:=s) (v:=v) (R:=R) (T:=T) (hx:=hx) (hf:=hf) (hT:=hT) (hs:=hs) (ht:=ht) h) K
end
end GW
