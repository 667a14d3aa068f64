import Derived.Test.YtdajnflppnlhiaaGWLit
set_option linter.unusedVariables false
set_option linter.unusedSimpArgs false
namespace GW
open Go Go.RowKit
section
variable {P:Program} {n:Nat} {m m':Mem} {w0:Base} {l lq:List (Nat×D)} {H HS:List Res} {a:Act} {w:World} {lO:List Oper} {i':Nat} {r':Sch} {g':Option (Nat×Bool)}
variable {Q:Exit→Act→World→Prop} {ty:TypeId} {ps:String} {af:Array Edge} {t:Nat}
theorem h_bldS (S:St n m' w0 l H a w)(C:Cls m w0 lq HS)(hw_:WP_ m w0 HS w)(hle:LeM m m')(hsub:subF l lq){e:TypeId}{xs:List (Nat×Operand)}{ds:List (Nat×D)}{fs:Array Field}{pl:Array (Nat×Nat)}{zs s':List Seg}(hx:evop lq xs=some ds)(hu:P.underlying e=some (.struct fs))
  (hM:∀ w:World,(fs.mapM fun f=>(do pure (f.offset, ← Go.sizeOf f.type):Sem (Nat×Nat))).run P w = .ok pl w) (hZ:zeroI P e=some (D.val (.agg zs))) (hz:okS m zs) (hF:fillS (pl[·]?) zs ds=some s') (ht:Nat.blt t n=true)
  (hi':lO[i']?=some ⟨some t, .build e xs.toArray,ty,ps,af,g'⟩) (hgd':GdOK lO l g') (K:∀ a',St n m' w0 ((t, .agg s')::l) H a' w→Cls m w0 ((t, .agg s')::lq) HS→wpH P lO.toArray (NoPanic Q) (WP_ m w0 HS) r' a' w):wpH P lO.toArray (NoPanic Q) (WP_ m w0 HS) (.take i' r') a w :=
 h_of S C hw_ hle hsub hi' hgd' ht rfl rfl (fun w S _ h=>s_bldS (ops := #[]) (rest:=[]) (ty:=ty) (ps:=ps) (af:=af) (P:=P) S (e:=e) (xs:=xs) (ds:=ds) (fs:=fs) (pl:=pl) (zs:=zs) (s':=s') (hx:=hx) (hu:=hu) (hM:=hM) (hZ:=hZ) (hz:=hz) (hF:=hF) (ht:=ht) h) K
theorem h_sliceA (S:St n m' w0 l H a w)(C:Cls m w0 lq HS)(hw_:WP_ m w0 HS w)(hle:LeM m m')(hsub:subF l lq){e et:TypeId}{x:Operand}{lo hi:Option Operand}{g o c z:Nat}{b:Bool}{i j:Int}{o' len cap:Nat}(hx:evo lq x=some (.v (.pointer (some ⟨g,o,none⟩))))(hu:P.underlying e=some (.array c et))(hT:tyI P et=some (b,z))
  (hlo:(lo=none∧i=0)∨∃ o k,lo=some o∧evo lq o=some (.v (.int k i))) (hhi:(hi=none∧j=c)∨∃ o k,hi=some o∧evo lq o=some (.v (.int k j))) (h0:0≤i∧i≤j∧j≤c)
  (ho:(if c=i.toNat then o else o+i.toNat*z)=o') (hl:j.toNat - i.toNat=len) (hcap:c - i.toNat=cap) (ht:Nat.blt t n=true)
  (hi':lO[i']?=some ⟨some t, .slice e x lo hi none,ty,ps,af,g'⟩) (hgd':GdOK lO l g') (K:∀ a',St n m' w0 ((t, .v (.slice (some ⟨g,o',none⟩) len cap))::l) H a' w→Cls m w0 ((t, .v (.slice (some ⟨g,o',none⟩) len cap))::lq) HS→wpH P lO.toArray (NoPanic Q) (WP_ m w0 HS) r' a' w):wpH P lO.toArray (NoPanic Q) (WP_ m w0 HS) (.take i' r') a w :=
 h_of S C hw_ hle hsub hi' hgd' ht rfl rfl (fun w S _ h=>s_sliceA (ops := #[]) (rest:=[]) (ty:=ty) (ps:=ps) (af:=af) (P:=P) S (e:=e) (et:=et) (x:=x) (lo:=lo) (hi:=hi) (g:=g) (o:=o) (c:=c) (z:=z) (b:=b) (i:=i) (j:=j) (o':=o') (len:=len) (cap:=cap) (hx:=hx) (hu:=hu) (hT:=hT) (hlo:=hlo) (hhi:=hhi) (h0:=h0) (ho:=ho) (hl:=hl) (hcap:=hcap) (ht:=ht) h) K
theorem h_load1F (S:St n m' w0 l H a w)(C:Cls m w0 lq HS)(hw_:WP_ m w0 HS w)(hle:LeM m m')(hsub:subF l lq){e:TypeId}{x:Operand}{g o z:Nat}{e':TypeId}{s:List Seg}{v:Value}{T:List Res}(hx:evo lq x=some (.v (.pointer (some ⟨g,o,none⟩))))(hf:Foc HS (Res.fro g e' s) (Res.fro g e' s) T)
  (hT:tyI P e=some (false,z)) (hs:subS s o 1=some [.one v]) (ht:Nat.blt t n=true)
  (hi':lO[i']?=some ⟨some t, .load e x,ty,ps,af,g'⟩) (hgd':GdOK lO l g') (K:∀ a',St n m' w0 ((t, .v v)::l) H a' w→Cls m w0 ((t, .v v)::lq) HS→wpH P lO.toArray (NoPanic Q) (WP_ m w0 HS) r' a' w):wpH P lO.toArray (NoPanic Q) (WP_ m w0 HS) (.take i' r') a w :=
 h_of S C hw_ hle hsub hi' hgd' ht rfl rfl (fun w S _ h=>s_load1F (ops := #[]) (rest:=[]) (ty:=ty) (ps:=ps) (af:=af) (P:=P) S (e:=e) (x:=x) (g:=g) (o:=o) (z:=z) (e':=e') (s:=s) (v:=v) (T:=T) (hx:=hx) (hf:=hf) (hT:=hT) (hs:=hs) (ht:=ht) h) K
theorem h_strS (S:St n m' w0 l H a w)(C:Cls m w0 lq HS)(hw_:WP_ m w0 HS w)(hle:LeM m m')(hsub:subF l lq){src dst e:TypeId}{x:Operand}{A:Option Addr}{len cap:Nat}{xs:List Int}(hx:evo lq x=some (.sl A len cap (RdS (Ty.int .u8) A xs)))(hn:xs.length=len)
  (hs:P.underlying src=some (.slice e)) (he:P.underlying e=some (.int .u8)) (hd:P.underlying dst=some .string) (ht:Nat.blt t n=true)
  (hi':lO[i']?=some ⟨some t, .convert src dst x,ty,ps,af,g'⟩) (hgd':GdOK lO l g') (K:∀ a',St n m' w0 ((t, .v (.string (bstr xs)))::l) H a' w→Cls m w0 ((t, .v (.string (bstr xs)))::lq) HS→wpH P lO.toArray (NoPanic Q) (WP_ m w0 HS) r' a' w):wpH P lO.toArray (NoPanic Q) (WP_ m w0 HS) (.take i' r') a w :=
 h_of S C hw_ hle hsub hi' hgd' ht rfl rfl (fun w S _ h=>s_strS (ops := #[]) (rest:=[]) (ty:=ty) (ps:=ps) (af:=af) (P:=P) S (src:=src) (dst:=dst) (e:=e) (x:=x) (A:=A) (len:=len) (cap:=cap) (xs:=xs) (hx:=hx) (hn:=hn) (hs:=hs) (he:=he) (hd:=hd) (ht:=ht) h) K
end
end GW
