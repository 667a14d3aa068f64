import Derived.Test.YtdajnflppnlhiaaProg
import Derived.Test.YtdajnflppnlhiaaGA
set_option linter.unusedVariables false
set_option linter.unusedSimpArgs false
set_option maxRecDepth 10000
set_option maxHeartbeats 4000000
namespace GW
open Go Go.RowKit Go.Proofs Go.Proofs.Try
noncomputable section
abbrev ff0_.Ty:Type:=W17→Option W17
def ff0_.Ctr (s:ff0_.Ty):Prop:=∀ {x1:W17} {ch_0_0:Option Addr} {ch_0_1:Nat} {r:W17} (h0:s x1=some r) {mi:Mem} {w0:World},CtrB Try.prog 28 [(.q Y82 ch_0_0 ch_0_1 x1)] [] (fun (ch:(Option Addr)×Nat×Nat)=>((.s ch.1 ch.2.1 ch.t2):D)) (fun (ch:(Option Addr)×Nat×Nat)=>[Res.row Y82 82 ch.1 ch.2.1 ch.t2 r]) mi w0
def ff0_.f (x1:W17):Option W17:=if ((([]:List ((List Int)×(List Int)))).length+(x1).length)*64≤140737488355328 then (some (([]:List ((List Int)×(List Int)))++x1)) else none
theorem ff0_.ok:ff0_.Ctr (ff0_.f):=by
 intro x1 ch_0_0 ch_0_1 r h0 mi w0 ok hm
 delta ff0_.f at h0
 refine c_enterZ (n:=8) ok hm func28 rfl rfl rfl fun b0 hb a S=>c_region (s_as1 S rfl fun a S=>c_end (wp_seq (c_region (s_mv1 S rfl fun a S=>s_eqnil S (b:=(ch_0_0).isNone) (d:=(.q Y82 ch_0_0 ch_0_1 x1)) rfl rfl underlying37 rfl rfl rfl fun a S=>c_end ?_))))
 cases hc:(ch_0_0).isNone
 ·refine c_condF S rfl hc (wp_skip (x_thenN (c_region (s_bldSl S (ty':=Y82) (ds:=[]) (z:=([0,0,0,0],[0,0,0,0])) (c0:=((),())) (ys:=([]:List ((List Int)×(List Int)))) (cs:=[]) rfl underlying37 J82 Z82 rfl ⟨rfl,rfl,tv⟩ rfl rfl rfl rfl rfl rfl fun g1 a w S=>s_mv1 S rfl fun a S=>?_))))
  obtain ⟨c1,h1⟩:=chk_of h0; clear h0
  refine s_app S (k2:=((x1).length)) (ys:=x1) rfl (fun _ _=> .h) rfl rfl rfl (RdS.src (S.get 6 (.q Y82 ch_0_0 ch_0_1 x1) rfl).2.2.2.1 (by decide) S.frz) underlying37 J82 c1 rfl fun A1 cp1 a w S=>s_as1 S rfl fun a S=>c_end (wp_ret ?_)
  obtain rfl:=sI h1
  exact b_ret1 (d:=(.s A1 (0+((x1).length)) cp1)) S rfl rfl fun ok=>S.retX (Hx:=[]) hb _ _ ((A1,0+((x1).length),cp1):(Option Addr)×Nat×Nat) (.c0 .n) ok
 ·have hxs:x1=[]:=rd_nil hc (S.get 3 (.q Y82 ch_0_0 ch_0_1 x1) rfl).2.2.2.1
  have h1:(some ([]:List ((List Int)×(List Int))))=some r:=by simpa [hxs] using h0
  clear h0
  refine c_condT S rfl hc (c_region (s_as1 S rfl fun a S=>c_end (wp_ret (x_thenR ?_))))
  replace S:=S.nilrow Y82 82
  replace S:=S.slot (u:=2) (d':=(.s none 0 0)) rfl rfl (S.get 2 (.s none 0 0) rfl).2
  obtain rfl:=sI h1
  exact b_ret1 (d:=(.s none 0 0)) S rfl rfl fun ok=>S.retX (Hx:=[]) hb _ _ ((none,0,0):(Option Addr)×Nat×Nat) (.c0 .n) ok
abbrev ff6_.Ty:Type:=(List L39)→Option (List L39)
def ff6_.Ctr (s:ff6_.Ty):Prop:=∀ {x1:List L39} {ch_0_0:Option Addr} {ch_0_1:Nat} {r:List L39} (h0:s x1=some r) {mi:Mem} {w0:World},CtrB Try.prog 11 [(.q Y39 ch_0_0 ch_0_1 x1)] [] (fun (ch:(Option Addr)×Nat)=>((.rf (.iface 68 (.agg (cellsOf [.q Y39 ch.1 ch.2 r]).toArray)) (IfR [.q Y39 ch.1 ch.2 r])):D)) (fun (ch:(Option Addr)×Nat)=>[]) mi w0
def ff6_.j1 (y1:List L39):Option (List L39):=some y1
def ff6_.b1 (x1:List L39)(rec1:(List L39)→Int→Option (List L39))(y4:List L39)(y5:Int):Option (List L39):=if (decide (y5<((x1).length:Int)))=true then (if (0:Int)≤y5∧y5<((x1).length:Int) then ((fa9_.f ((gt x1 y5).2.2.2.1)).bind fun t1=>((ff0_.f ((gt x1 y5).2.2.2.2)).bind fun t2=>(if ((y4).length+([((gt x1 y5).1,(gt x1 y5).2.1,(gt x1 y5).2.2.1,t1,t2)]).length)*112≤140737488355328 then (rec1 (y4++[((gt x1 y5).1,(gt x1 y5).2.1,(gt x1 y5).2.2.1,t1,t2)]) (wr .i64 (y5+1))) else none))) else none) else (ff6_.j1 y4)
def ff6_.l1 (x1:List L39):Nat→(List L39)→Int→Option (List L39)
  | 0,_,_=>none
  | q+1,y4,y5=>ff6_.b1 x1 (ff6_.l1 x1 q) y4 y5
def ff6_.f (k:Nat)(x1:List L39):Option (List L39):=ff6_.l1 x1 k ([]:List L39) 0
theorem ff6_.ok (k:Nat):ff6_.Ctr (ff6_.f k):=by
 intro x1 ch_0_0 ch_0_1 r h0 mi w0 ok hm
 delta ff6_.f at h0
 refine c_enterZ (n:=28) ok hm func11 rfl rfl rfl fun b0 hb a S=>c_region (s_as1 S rfl fun a S=>c_end (c_region (s_as1 S rfl fun a S=>c_end (wp_seq_k fun K1 hK1=>?_))))
 have j1:∀ m A1 nn1 cp1 y1 a w,St 28 m b0 [(3,(.s A1 nn1 cp1))] [Res.row Y39 39 A1 nn1 cp1 y1] a w→ff6_.j1 y1=some r→K1 a w:=by
  intro m A1 nn1 cp1 y1 a w S h0
  delta ff6_.j1 at h0
  refine hK1 a w (c_region (s_mv1 S rfl fun a S=>s_bldS S (ds:=[(0,(.s A1 nn1 cp1))]) (zs:=[.s none 0 0]) (s':=[.s A1 nn1 cp1]) rfl underlying68 P68 Z68 ⟨rfl,tv⟩ rfl rfl fun a S=>?_))
  replace S:=S.rowfro .h
  obtain ⟨m,le1,S,hro⟩:=S
  replace S:=S.slotF 26 0 rfl rfl hro
  replace S:=S.slotro (u:=25) rfl hro
  replace S:=S.slotro (u:=3) rfl hro
  refine s_mkI S (s:=[.q Y39 A1 cp1 y1]) (v:=(.agg (cellsOf [.q Y39 A1 cp1 y1]).toArray)) rfl rfl rfl (by kernel_rfl) rfl fun a S=>?_
  refine s_as1 S rfl fun a S=>c_end (wp_ret ?_)
  obtain rfl:=sI h0
  exact b_ret1 (d:=(.rf (.iface 68 (.agg (cellsOf [.q Y39 A1 cp1 y1]).toArray)) (IfR [.q Y39 A1 cp1 y1]))) S rfl rfl fun ok=>S.retX (Hx:=[]) hb _ _ ((A1,cp1):(Option Addr)×Nat) .nil ok
 refine c_region (s_mv1 S rfl fun a S=>s_lenS S rfl underlying22 rfl fun a S=>s_mv1 S rfl fun a S=>c_end (wp_block ?_))
 replace S:=S.nilrow Y39 39
 refine c_loop (fun q1 a w=>∃ m A2 nn3 cp5 y4 y5,St 28 m b0 [(3,(.s A2 nn3 cp5)),(8,(.i y5)),(7,(.i ((x1).length:Int))),(6,(.q Y39 ch_0_0 ch_0_1 x1))] [Res.row Y39 39 A2 nn3 cp5 y4] a w∧ff6_.l1 x1 q1 y4 y5=some r) ?_ ?_ (k:=k) ⟨_,none,0,0,([]:List L39),0,(S.sb rfl (.c0 .n)),h0⟩
 ·rintro a w ⟨m,A2,nn3,cp5,y4,y5,S,h0⟩
  exact (nomatch (show (none:Option (List L39))=some r from h0))
 ·clear S h0
  rintro q1 a w ⟨m,A2,nn3,cp5,y4,y5,S,h0⟩
  replace h0:ff6_.b1 x1 (ff6_.l1 x1 q1) y4 y5=some r:=h0
  delta ff6_.b1 at h0
  refine c_region (s_bi S rfl fun a S=>c_end (wp_seq ?_))
  rcases ite_of h0 with ⟨c1,h1⟩ | ⟨c1,h1⟩
  ·refine c_condT S rfl c1 (wp_skip (x_thenN (wp_seq (wp_block (c_region ?_)))))
   obtain ⟨c2,h2⟩:=chk_of h1; clear h1
   refine s_iaddrS S rfl rfl rfl underlying22 T39 c2.1 c2.2 rfl fun p1 a S=>s_ldA S (fun (c:Unit×Unit×Unit×(Option Addr×Nat)×(Option Addr×Nat))=>(Y39.segs (gt x1 y5) c)) rfl T39 (fun _=>rfl) rfl fun ch1 a S=>?_
   refine s_alloc S Z39 rfl ⟨rfl,rfl,rfl,rfl,rfl,tv⟩ rfl fun g1 a w S=>s_store S rfl rfl rfl (s':=(Y39.segs (gt x1 y5) ch1)) .h T39 rfl rfl fun w S=>c_end (c_region (s_fieldAddr S rfl I39_3 T36 (by decide) rfl rfl fun a S=>s_loadSl S rfl .h T36 (A:=ch1.e4.1) (len:=((gt x1 y5).e4).length) (cap:=ch1.e4.2) rfl rfl fun a S=>bindX h2 fun t1 et1 h3=>s_callK S (fa9_.ok et1) N27 rfl .pre (fun _=> .c1) rfl fun ch2 m le1 a w S=>s_fieldAddr S rfl I39_3 T36 (by decide) rfl rfl fun a S=>s_storeJ S 3 rfl rfl rfl rfl .h1 T36 rfl rfl fun w S=>c_end (c_region (s_fieldAddr S rfl I39_4 T37 (by decide) rfl rfl fun a S=>s_loadSl S rfl .h1 T37 (A:=ch1.e5) (len:=((gt x1 y5).t4).length) (cap:=ch1.t5) rfl rfl fun a S=>bindX h3 fun t2 et2 h4=>s_callK S (ff0_.ok et2) N28 rfl .pre (fun _=> .c1) rfl fun ch3 m le1 a w S=>s_fieldAddr S rfl I39_4 T37 (by decide) rfl rfl fun a S=>s_storeJ S 4 rfl rfl rfl rfl .h2 T37 rfl rfl fun w S=>c_end (c_region' (s_mv1 S rfl fun a S=>s_loada S rfl .h2 T39 (s':=[.b20 ((gt x1 y5).1), .w ((gt x1 y5).2.1), .w4 ((gt x1 y5).e3), .s ch2.1 ch2.2.1 ch2.t2, .s ch3.1 ch3.2.1 ch3.t2]) rfl rfl fun a S=>?_))))))
   replace S:=S.rowfro .h1
   obtain ⟨m,le1,S,hro⟩:=S
   replace S:=S.slotF 21 3 rfl rfl hro
   replace S:=S.slotro (u:=14) rfl hro
   replace S:=S.cellF 3 .h1 rfl hro
   replace S:=S.rowfro .h
   obtain ⟨m,le1,S,hro⟩:=S
   replace S:=S.slotF 21 4 rfl rfl hro
   replace S:=S.slotro (u:=18) rfl hro
   replace S:=S.cellF 4 .h rfl hro
   refine s_bldSl S (ty':=Y39) (ds:=[(0,(.agg (Y39.segs ((gt x1 y5).1,(gt x1 y5).2.1,(gt x1 y5).e3,t1,t2) ((),(),(),(ch2.1,ch2.t2),(ch3.1,ch3.t2)))))]) (z:=zt1) (c0:=((),(),(),(none,0),(none,0))) (ys:=[((gt x1 y5).1,(gt x1 y5).2.1,(gt x1 y5).e3,t1,t2)]) (cs:=[((),(),(),(ch2.1,ch2.t2),(ch3.1,ch3.t2))]) rfl underlying22 J39 Z39 rfl ⟨rfl,rfl,rfl,⟨Nat.le_refl _,Nat.zero_le _,RdS.nil _ _ _,RdS.mono _ _ _⟩,⟨Nat.le_refl _,Nat.zero_le _,RdS.nil _ _ _,RdS.mono _ _ _⟩,tv⟩ rfl rfl rfl rfl rfl rfl fun g2 a w S=>?_
   obtain ⟨c3,h5⟩:=chk_of h4; clear h4
   refine s_app S (k2:=1) (ys:=[((gt x1 y5).1,(gt x1 y5).2.1,(gt x1 y5).e3,t1,t2)]) rfl (fun _ _=> .h2) rfl rfl (S.holds _ (Pull.mem .h).1).1 (Res.row.src (S.holds _ (Pull.mem .h).1)) underlying22 J39 c3 rfl fun A3 cp6 a w S=>s_as1 S rfl fun a S=>c_end' (x_blockN (x_thenN (c_region' (s_bi S rfl fun a S=>s_mv1 S rfl fun a S=>c_end' (x_thenN ?_)))))
   exact ⟨_,A3,(nn3+1),cp6,(y4++[((gt x1 y5).1,(gt x1 y5).2.1,(gt x1 y5).e3,t1,t2)]),(wr .i64 (y5+1)),(S.sb rfl (.c2 .n)),h5⟩
  ·refine c_condF S rfl c1 (wp_exit (x_thenX (x_thenX (x_blockX (x_thenN ?_)))))
   exact j1 _ A2 nn3 cp5 y4 a w (S.sub ⟨rfl,tv⟩ (.c0 .n)) h1
abbrev fe5_.Ty:Type:=(List L39)→Option W2
def fe5_.Ctr (s:fe5_.Ty):Prop:=∀ {x1:List L39} {ch_0_0:Option Addr} {ch_0_1:Nat} {r:W2} (h0:s x1=some r) {mi:Mem} {w0:World},CtrB Try.prog 7 [(.rf (.iface 68 (.agg (cellsOf [.q Y39 ch_0_0 ch_0_1 x1]).toArray)) (IfR [.q Y39 ch_0_0 ch_0_1 x1]))] [] (fun (ch:W3)=>((.v (.pointer (some ⟨ch.1,0,none⟩))):D)) (fun (ch:W3)=>(MS1 r ch)) mi w0
def fe5_.f (x1:List L39):Option W2:=some (x1,(([]:List ((List Int)×Option Nat)),([]:List L76),([]:List (List ((List Int)×(List Int)))),([]:List (List ((List Int)×Bool)))),0,([]:List L51),([]:List Clo),([]:List (List Int)))
theorem fe5_.ok:fe5_.Ctr (fe5_.f):=by
 intro x1 ch_0_0 ch_0_1 r h0 mi w0 ok hm
 delta fe5_.f at h0
 refine c_enterZ (n:=11) ok hm func7 rfl rfl rfl fun b0 hb a S=>c_region (s_as1 S rfl fun a S=>c_end (wp_seq (c_region (s_mv1 S rfl fun a S=>s_eqIN S rfl rfl rfl underlying45 rfl fun a S=>c_end (c_condF S rfl rfl (wp_skip (x_thenN (c_region (s_mv1 S rfl fun a S=>s_makeMap (α:=List Int) (β:=Option Nat) S true (Ty.arr .u8 20) false (Ty.pid ([]:List Nat)) rfl fun g1 a w S=>?_)))))))))
 replace S:=S.fam0 (fun g_ kvs_=>Res.map true (Ty.arr .u64 4) false Ty.bool g_ kvs_) (one_map true (Ty.arr .u64 4) false Ty.bool)
 replace S:=S.fam0 (fun g_ kvs_=>Res.map true (Ty.arr .u64 4) true (Ty.arr .u64 4) g_ kvs_) (one_map true (Ty.arr .u64 4) true (Ty.arr .u64 4))
 replace S:=S.fam0 (Res.struct (YE76 ([]:List Nat) ([]:List Nat)) 76) (one_struct _ _)
 refine s_bldS S (ds:=[(0,(.rf (.iface 68 (.agg (cellsOf [.q Y39 ch_0_0 ch_0_1 x1]).toArray)) (IfR [.q Y39 ch_0_0 ch_0_1 x1]))),(1,(.v (.map (some g1))))]) (zs:=[.one .nilIface, .one (.map none), .i 0, .s none 0 0, .s none 0 0, .s none 0 0]) (s':=[.rf (.iface 68 (.agg (cellsOf [.q Y39 ch_0_0 ch_0_1 x1]).toArray)) (IfR [.q Y39 ch_0_0 ch_0_1 x1]), .one (.map (some g1)), .i 0, .s none 0 0, .s none 0 0, .s none 0 0]) rfl underlying72 P72 Z72 ⟨rfl,rfl,rfl,rfl,rfl,rfl,tv⟩ rfl rfl fun a S=>s_box S rfl rfl rfl fun g2 a w S=>s_as1 S rfl fun a S=>c_end (wp_ret ?_)
 replace S:=S.nilrow Y51 51
 replace S:=S.nilrow (YC g2 ([]:List Nat) ([]:List Nat) ([]:List Nat)) 1
 replace S:=S.nilrow (Ty.arr .u8 20) 31
 obtain rfl:=sI h0
 exact b_ret1 (d:=(.p g2)) S rfl rfl fun ok=>S.retX (Hx:=[]) hb _ _ ((g2,ch_0_0,ch_0_1,g1,([]:List Nat),([]:List Nat),([]:List Nat),none,0,0,none,0,0,none,0,0):W3) (.c3 (.c6 (.c3 (.c3 (.c3 (.c2 (.c1 (.c0 .n)))))))) ok
abbrev fa2_.Ty:Type:=(List Int)→Option (List Int)
def fa2_.Ctr (s:fa2_.Ty):Prop:=∀ {x1:List Int} {ch_0_0:Option Addr} {ch_0_1:Nat} {ch_0_2:Nat} {r:List Int} (h0:s x1=some r) {mi:Mem} {w0:World},CtrB Try.prog 27 [(.s ch_0_0 ch_0_1 ch_0_2)] [Res.row yb 5 ch_0_0 ch_0_1 ch_0_2 x1] (fun (ch:(Option Addr)×Nat×Nat)=>((.s ch.1 ch.2.1 ch.t2):D)) (fun (ch:(Option Addr)×Nat×Nat)=>[Res.row yb 5 ch.1 ch.2.1 ch.t2 r,Res.row yb 5 ch_0_0 ch_0_1 ch_0_2 x1]) mi w0
def fa2_.f (x1:List Int):Option (List Int):=if ((([]:List Int)).length+(x1).length)*1≤140737488355328 then (some (([]:List Int)++x1)) else none
theorem fa2_.ok:fa2_.Ctr (fa2_.f):=by
 intro x1 ch_0_0 ch_0_1 ch_0_2 r h0 mi w0 ok hm
 delta fa2_.f at h0
 refine c_enterZ (n:=8) ok hm func27 rfl rfl rfl fun b0 hb a S=>c_region (s_as1 S rfl fun a S=>c_end (wp_seq (c_region (s_mv1 S rfl fun a S=>s_eqnil S (b:=(ch_0_0).isNone) (d:=(.s ch_0_0 ch_0_1 ch_0_2)) rfl rfl underlying36 rfl rfl rfl fun a S=>c_end ?_))))
 cases hc:(ch_0_0).isNone
 ·refine c_condF S rfl hc (wp_skip (x_thenN (c_region (s_bldSl S (ty':=yb) (ds:=[]) (z:=0) (c0:=()) (ys:=([]:List Int)) (cs:=[]) rfl underlying36 J5 Z5 rfl ⟨rfl,tv⟩ rfl rfl rfl rfl rfl rfl fun g1 a w S=>s_mv1 S rfl fun a S=>?_))))
  obtain ⟨c1,h1⟩:=chk_of h0; clear h0
  refine s_app S (k2:=ch_0_1) (ys:=x1) rfl (fun _ _=> .h) rfl rfl (S.holds _ (Pull.mem .h1).1).1 (Res.row.src (S.holds _ (Pull.mem .h1).1)) underlying36 J5 c1 rfl fun A1 cp1 a w S=>s_as1 S rfl fun a S=>c_end (wp_ret ?_)
  obtain rfl:=sI h1
  exact b_ret1 (d:=(.s A1 (0+ch_0_1) cp1)) S rfl rfl fun ok=>S.retX (Hx:=[]) hb _ _ ((A1,0+ch_0_1,cp1):(Option Addr)×Nat×Nat) (.c0 (.c0 .n)) ok
 ·have hxs:x1=[]:=row_nil hc (S.holds _ (Pull.mem .h).1)
  have h1:(some ([]:List Int))=some r:=by simpa [hxs] using h0
  clear h0
  refine c_condT S rfl hc (c_region (s_as1 S rfl fun a S=>c_end (wp_ret (x_thenR ?_))))
  replace S:=S.nilrow yb 5
  replace S:=S.slot (u:=2) (d':=(.s none 0 0)) rfl rfl (S.get 2 (.s none 0 0) rfl).2
  obtain rfl:=sI h1
  exact b_ret1 (d:=(.s none 0 0)) S rfl rfl fun ok=>S.retX (Hx:=[]) hb _ _ ((none,0,0):(Option Addr)×Nat×Nat) (.c0 (.c0 .n)) ok
abbrev fb_.Ty:Type:=W2→(List Int)→(List Int)→Option W9
def fb_.Ctr (s:fb_.Ty):Prop:=∀ {x1:W2} {x2:List Int} {x3:List Int} {ch_0:W3} {ch_2_0:Option Addr} {ch_2_1:Nat} {ch_2_2:Nat} {r:W9} (h0:s x1 x2 x3=some r) {mi:Mem} {w0:World},CtrB Try.prog 13 [(.v (.pointer (some ⟨ch_0.1,0,none⟩))),(.agg [.b20 x2]),(.s ch_2_0 ch_2_1 ch_2_2)] (MS1 x1 ch_0++[Res.row yb 5 ch_2_0 ch_2_1 ch_2_2 x3]) (fun (ch:W7)=>((.tup []):D)) (fun (ch:W7)=>(MS1 (x1.1,r.2.1,x1.e3,r.e4,r.e5,r.t5) (ch_0.1,ch_0.2.1,ch_0.e3,ch.1,ch.2.1,ch.e3,ch.e4,ch.e5,ch.e6,ch.e7,ch.e8,ch.e9,ch.e10,ch.e11,ch.e12,ch.t12)++[Res.row yb 5 ch_2_0 ch_2_1 ch_2_2 x3])) mi w0
def fb_.f (k:Nat)(x1:W2)(x2:List Int)(x3:List Int):Option W9:=(fe4_.f k x1 x2).bind fun t1=>(if t1.1.isSome=true then ((fb1_.f (x1.1,t1.2.2.1,x1.2.2.1,t1.2.2.2.2.1,t1.2.2.2.2.2.1,t1.2.2.2.2.2.2) (Clo.c30 (((atE t1.2.2.1.2.1 (t1.1.getD 0)).2.1).2.2.2.1) t1.1)).bind fun t2=>((fa2_.f x3).bind fun t3=>(some ((),(t1.2.2.1.1,t1.2.2.1.2.1.set (t1.1.getD 0) ((atE t1.2.2.1.2.1 (t1.1.getD 0)).1,(((atE t1.2.2.1.2.1 (t1.1.getD 0)).2.1).1,((atE t1.2.2.1.2.1 (t1.1.getD 0)).2.1).2.1,((atE t1.2.2.1.2.1 (t1.1.getD 0)).2.1).2.2.1,t3,((atE t1.2.2.1.2.1 (t1.1.getD 0)).2.1).2.2.2.2),(atE t1.2.2.1.2.1 (t1.1.getD 0)).2.2.1,(atE t1.2.2.1.2.1 (t1.1.getD 0)).2.2.2.1,(atE t1.2.2.1.2.1 (t1.1.getD 0)).2.2.2.2.1,(atE t1.2.2.1.2.1 (t1.1.getD 0)).2.2.2.2.2.1,(atE t1.2.2.1.2.1 (t1.1.getD 0)).2.2.2.2.2.2),t1.2.2.1.2.2.1,t1.2.2.1.2.2.2),(),t1.2.2.2.2.1,t2.2.2.2.2.1,t1.2.2.2.2.2.2)))) else none)
theorem fb_.ok (k:Nat):fb_.Ctr (fb_.f k):=by
 intro x1 x2 x3 ch_0 ch_2_0 ch_2_1 ch_2_2 r h0 mi w0 ok hm
 delta fb_.f at h0
 refine c_enterZ (n:=27) ok hm func13 rfl rfl rfl fun b0 hb a S=>c_region (s_box S rfl rfl rfl fun g1 a w S=>c_end (wp_seq (c_region (s_mv1 S rfl fun a S=>s_eqp S (b:=false) rfl rfl underlying26 rfl rfl fun a S=>c_end (c_condF S rfl rfl (wp_skip (x_thenN (c_region (s_mv1 S rfl fun a S=>s_loada S rfl .h T31 (s':=[.b20 x2]) rfl rfl fun a S=>bindX h0 fun t1 et1 h1=>s_callK S (fe4_.ok k (ch_0:=ch_0) et1) N26 rfl (.sk .pre) (fun _=> .c8) rfl fun ch1 m le1 a w S=>s_alloc S Z77 rfl rfl rfl fun g2 a w S=>s_storeJ S 0 rfl rfl rfl rfl .h T77 rfl rfl fun w S=>c_end (c_region (s_loadM S rfl .h T77 (v:=(ptrV ch1.2.1 t1.1)) rfl rfl fun a S=>?_)))))))))))
 obtain ⟨c1,h2⟩:=chk_of h1; clear h1
 have hl1:=S.slotPlt (u:=13) c1 rfl
 replace S:=S.slotP (u:=13) c1 rfl
 refine s_nilchk S rfl rfl fun a S=>s_fieldAddr S rfl I76_1 T39 (by decide) rfl rfl fun a S=>s_fieldAddr S rfl I39_3 T36 (by decide) rfl rfl fun a S=>?_
 replace S:=S.famOpen (i:=(t1.1.getD 0)) hl1 .h3
 have hS:=S.structOpen (T:=(YE76 ch1.e3 ch1.e4)) (fun _=> .h) (((),(),(),(none,0),(none,0)),((),(),(),(none,0),(none,0)),(),(),(),(),())
 clear S; obtain ⟨ch2,S⟩:=hS
 refine s_loadSl S rfl .h T36 (A:=ch2.2.1.e4.1) (len:=(((atE t1.e3.2.1 (t1.1.getD 0)).2.1).e4).length) (cap:=ch2.2.1.e4.2) rfl rfl fun a S=>?_
 replace S:=S.structClose (T:=(YE76 ch1.e3 ch1.e4)) (e:=atE t1.e3.2.1 (t1.1.getD 0)) (ch2:((YE76 ch1.e3 ch1.e4)).Ch) rfl .h
 replace S:=S.famShut hl1 .h .h3
 refine s_alloc S Z36 rfl rfl rfl fun g3 a w S=>s_storeJ S 0 rfl rfl rfl rfl .h T36 rfl rfl fun w S=>c_end (c_region (s_mv1 S rfl fun a S=>?_))
 replace S:=S.freeze .h
 obtain ⟨m,le1,S⟩:=S
 replace S:=S.freeze .h1
 obtain ⟨m,le1,S⟩:=S
 replace S:=S.slotAt (u:=7) (g:=g3) (t:=36) (T:=(Ty.slice yb)) (x:=((atE t1.e3.2.1 (t1.1.getD 0)).2.1).e4) (c:=(ch2.2.1.e4:((Ty.slice yb)).Ch)) .h rfl rfl
 replace S:=S.slotAt (u:=6) (g:=g2) (t:=77) (T:=(Ty.pid ch1.2.1)) (x:=t1.1) (c:=(():((Ty.pid ch1.2.1)).Ch)) .h1 rfl rfl
 refine s_mkFn S (ds:=[(.pt ⟨g3,0,none⟩ (At (Ty.slice yb) ⟨g3,0,none⟩ (((atE t1.e3.2.1 (t1.1.getD 0)).2.1).e4))),(.pt ⟨g2,0,none⟩ (At (Ty.pid ch1.2.1) ⟨g2,0,none⟩ t1.1))]) rfl rfl fun a S=>?_
 replace S:=S.slotFn (u:=19) (V:=cloV) (R:=cloR ch_0.1 ch1.2.1 ch1.e3 ch1.e4) (Clo.c30 (((atE t1.e3.2.1 (t1.1.getD 0)).2.1).e4) t1.1) ([⟨g3,0,none⟩,⟨g2,0,none⟩]:List Addr) rfl (fun h=>⟨h.1.1,h.2.1.1,tv⟩) (cloM _ _ _ _ _ _) rfl
 replace S:=S.slot (u:=7) (d':= .v (.pointer (ad g3))) rfl rfl rfl
 replace S:=S.slot (u:=6) (d':= .v (.pointer (ad g2))) rfl rfl rfl
 refine bindX h2 fun t2 et2 h3=>s_callK S (fb1_.ok (ch_0:=(ch_0.1,ch_0.2.1,ch_0.e3,ch1.1,ch1.2.1,ch1.e3,ch1.e4,ch1.e5,ch1.e6,ch1.e7,ch1.e8,ch1.e9,ch1.e10,ch1.e11,ch1.e12,ch1.t12)) et2) N29 rfl (.sk (.sk .pre)) (fun _=> .c8) rfl fun ch3 m le1 a w S=>c_end ?_
 have hl1:=S.slotPlt (u:=12) c1 rfl
 replace S:=S.slotP (u:=12) c1 rfl
 replace S:=S.froP (s1:=[]) (s2:=[]) c1 .h9
 replace S:=S.famOpen (i:=(t1.1.getD 0)) hl1 .h2
 have hS:=S.structOpen (T:=(YE76 ch1.e3 ch1.e4)) (fun _=> .h) (((),(),(),(none,0),(none,0)),((),(),(),(none,0),(none,0)),(),(),(),(),())
 clear S; obtain ⟨ch4,S⟩:=hS
 refine c_hS S (.take 0 (.take 1 (.alts (.run 2 true (.tk 3 3 (.alts (.run 6 false .done .nil))) .nil)))) 6 (.c10 .n) ⟨Res.stay_fro,tv⟩ [(6,(.p g2)),(2,(.s ch_2_0 ch_2_1 ch_2_2))] rfl (by kernel_rfl) fun w S CL hw le=>?_
 refine h_load1F S CL hw le (subR rfl) rfl .h T77 (v:=(.pointer (some ⟨(bAt ch1.2.1 (t1.1.getD 0)),0,none⟩))) rfl rfl rfl tv fun a S CL=>h_mv1 S CL hw le rfl tv fun a S CL=>h_run' S rfl tv (bindX h3 fun t3 et3 h4=>s_callK S (fa2_.ok et3) N27 rfl (.sk (.sk (.sk (.sk (.sk (.sk (.sk (.sk (.sk (.sk (.sk (.sk .pre)))))))))))) (fun _=> .c2) rfl fun ch5 m le1 a w S=>?_)
 replace le:=le.trans le1
 refine CL.bk hw S (.c12 .n) le fun hw=>h_nilchk S CL hw le (subR rfl) rfl rfl rfl rfl tv fun a S CL=>h_fieldAddr S CL hw le (subR rfl) rfl I76_1 T39 (by decide) rfl rfl rfl tv fun a S CL=>h_fieldAddr S CL hw le (subR rfl) rfl I39_3 T36 (by decide) rfl rfl rfl tv fun a S CL=>h_run' S rfl tv (s_storeJ S 8 rfl rfl rfl rfl .h2 T36 rfl rfl fun w S=>?_)
 refine h_back ⟨fun h=>(nomatch h),?_⟩
 refine h_done ?_; clear CL hw le
 replace S:=S.rowfro .h
 obtain ⟨m,le1,S,hro⟩:=S
 replace S:=S.slotro (u:=23) rfl hro
 replace S:=S.cellF 8 .h1 rfl hro
 replace S:=S.structClose (T:=(YE76 ch1.e3 ch1.e4)) (e:=((atE t1.e3.2.1 (t1.1.getD 0)).1,(((atE t1.e3.2.1 (t1.1.getD 0)).2.1).1,((atE t1.e3.2.1 (t1.1.getD 0)).2.1).2.1,((atE t1.e3.2.1 (t1.1.getD 0)).2.1).e3,t3,((atE t1.e3.2.1 (t1.1.getD 0)).2.1).t4),(atE t1.e3.2.1 (t1.1.getD 0)).e3,(atE t1.e3.2.1 (t1.1.getD 0)).e4,(atE t1.e3.2.1 (t1.1.getD 0)).e5,(atE t1.e3.2.1 (t1.1.getD 0)).e6,(atE t1.e3.2.1 (t1.1.getD 0)).t6)) ((ch4.1,((),(),(),(ch5.1,ch5.t2),ch4.2.1.t4),(),(),(),(),()):((YE76 ch1.e3 ch1.e4)).Ch) rfl .h1
 replace S:=S.famClose hl1 .h1 .h3
 replace S:=S.slotPx (u:=24) c1 hl1 rfl
 replace S:=S.slotPx (u:=21) c1 hl1 rfl
 replace S:=S.slotPx (u:=12) c1 hl1 rfl
 replace S:=S.slotPx (u:=14) c1 hl1 rfl
 replace S:=S.slotPx (u:=13) c1 hl1 rfl
 replace S:=S.froPB (x:=t1.1) (G:=ch1.2.1) (s1:=[]) (s2:=[]) c1 hl1 .h10
 refine b_end ?_
 obtain rfl:=sI h4
 exact b_ret0 S rfl (S.retX (Hx:=[]) hb _ _ ((ch1.1,ch1.2.1,ch1.e3,ch1.e4,ch1.e5,ch1.e6,ch1.e7,ch3.1,ch3.2.1,ch3.t2,ch1.e11,ch1.e12,ch1.t12):W7) (.c1 (.c1 (.c1 (.c1 (.c1 (.c1 (.c1 (.c1 (.c0 .n))))))))) tv)
abbrev fe2_.Ty:Type:=(List (List Int))→Option (List (List Int))
def fe2_.Ctr (s:fe2_.Ty):Prop:=∀ {x1:List (List Int)} {ch_0_0:Option Addr} {ch_0_1:Nat} {ch_0_2:Nat} {r:List (List Int)} (h0:s x1=some r) {mi:Mem} {w0:World},CtrB Try.prog 41 [(.s ch_0_0 ch_0_1 ch_0_2)] [Res.row (Ty.arr .u64 4) 35 ch_0_0 ch_0_1 ch_0_2 x1] (fun (ch:(Option Addr)×Nat×Nat)=>((.s ch.1 ch.2.1 ch.t2):D)) (fun (ch:(Option Addr)×Nat×Nat)=>[Res.row (Ty.arr .u64 4) 35 ch.1 ch.2.1 ch.t2 r,Res.row (Ty.arr .u64 4) 35 ch_0_0 ch_0_1 ch_0_2 x1]) mi w0
def fe2_.f (x1:List (List Int)):Option (List (List Int)):=if ((([]:List (List Int))).length+(x1).length)*32≤140737488355328 then (some (([]:List (List Int))++x1)) else none
theorem fe2_.ok:fe2_.Ctr (fe2_.f):=by
 intro x1 ch_0_0 ch_0_1 ch_0_2 r h0 mi w0 ok hm
 delta fe2_.f at h0
 refine c_enterZ (n:=8) ok hm func41 rfl rfl rfl fun b0 hb a S=>c_region (s_as1 S rfl fun a S=>c_end (wp_seq (c_region (s_mv1 S rfl fun a S=>s_eqnil S (b:=(ch_0_0).isNone) (d:=(.s ch_0_0 ch_0_1 ch_0_2)) rfl rfl underlying49 rfl rfl rfl fun a S=>c_end ?_))))
 cases hc:(ch_0_0).isNone
 ·refine c_condF S rfl hc (wp_skip (x_thenN (c_region (s_bldSl S (ty':=(Ty.arr .u64 4)) (ds:=[]) (z:=[0,0,0,0]) (c0:=()) (ys:=([]:List (List Int))) (cs:=[]) rfl underlying49 J35 Z35 rfl ⟨rfl,tv⟩ rfl rfl rfl rfl rfl rfl fun g1 a w S=>s_mv1 S rfl fun a S=>?_))))
  obtain ⟨c1,h1⟩:=chk_of h0; clear h0
  refine s_app S (k2:=ch_0_1) (ys:=x1) rfl (fun _ _=> .h) rfl rfl (S.holds _ (Pull.mem .h1).1).1 (Res.row.src (S.holds _ (Pull.mem .h1).1)) underlying49 J35 c1 rfl fun A1 cp1 a w S=>s_as1 S rfl fun a S=>c_end (wp_ret ?_)
  obtain rfl:=sI h1
  exact b_ret1 (d:=(.s A1 (0+ch_0_1) cp1)) S rfl rfl fun ok=>S.retX (Hx:=[]) hb _ _ ((A1,0+ch_0_1,cp1):(Option Addr)×Nat×Nat) (.c0 (.c0 .n)) ok
 ·have hxs:x1=[]:=row_nil hc (S.holds _ (Pull.mem .h).1)
  have h1:(some ([]:List (List Int)))=some r:=by simpa [hxs] using h0
  clear h0
  refine c_condT S rfl hc (c_region (s_as1 S rfl fun a S=>c_end (wp_ret (x_thenR ?_))))
  replace S:=S.nilrow (Ty.arr .u64 4) 35
  replace S:=S.slot (u:=2) (d':=(.s none 0 0)) rfl rfl (S.get 2 (.s none 0 0) rfl).2
  obtain rfl:=sI h1
  exact b_ret1 (d:=(.s none 0 0)) S rfl rfl fun ok=>S.retX (Hx:=[]) hb _ _ ((none,0,0):(Option Addr)×Nat×Nat) (.c0 (.c0 .n)) ok
abbrev fe8_.Ty:Type:=W19→Option W19
def fe8_.Ctr (s:fe8_.Ty):Prop:=∀ {x1:W19} {ch_0_0:Option Addr} {ch_0_1:Nat} {ch_0_2:Nat} {ch_0_3:Option Addr} {ch_0_4:Nat} {ch_0_5:Nat} {r:W19} (h0:s x1=some r) {mi:Mem} {w0:World},CtrB Try.prog 32 [(.agg [.b20 x1.1, .s ch_0_0 ch_0_1 ch_0_2, .s ch_0_3 ch_0_4 ch_0_5])] [Res.row (Ty.arr .u64 4) 35 ch_0_0 ch_0_1 ch_0_2 x1.2.1,Res.row yb 5 ch_0_3 ch_0_4 ch_0_5 x1.t2] (fun (ch:W20)=>((.agg [.b20 r.1, .s ch.1 ch.2.1 ch.e3, .s ch.e4 ch.e5 ch.t5]):D)) (fun (ch:W20)=>[Res.row (Ty.arr .u64 4) 35 ch.1 ch.2.1 ch.e3 r.2.1,Res.row yb 5 ch.e4 ch.e5 ch.t5 r.t2,Res.row (Ty.arr .u64 4) 35 ch_0_0 ch_0_1 ch_0_2 x1.2.1,Res.row yb 5 ch_0_3 ch_0_4 ch_0_5 x1.t2]) mi w0
def fe8_.f (x1:W19):Option W19:=(fe2_.f x1.2.1).bind fun t1=>((fa2_.f x1.2.2).bind fun t2=>(some (x1.1,t1,t2)))
theorem fe8_.ok:fe8_.Ctr (fe8_.f):=by
 intro x1 ch_0_0 ch_0_1 ch_0_2 ch_0_3 ch_0_4 ch_0_5 r h0 mi w0 ok hm
 delta fe8_.f at h0
 refine c_enterZ (n:=12) ok hm func32 rfl rfl rfl fun b0 hb a S=>c_region (s_box S rfl rfl rfl fun g1 a w S=>s_alloc S Z51 rfl ⟨rfl,rfl,rfl,tv⟩ rfl fun g2 a w S=>c_end (c_region (s_fieldAddr S rfl I51_1 T49 (by decide) rfl rfl fun a S=>s_load1 S rfl .h1 T49 (v:=(.slice ch_0_0 ch_0_1 ch_0_2)) rfl rfl fun a S=>bindX h0 fun t1 et1 h1=>s_callK S (fe2_.ok et1) N41 rfl (.sk (.sk .pre)) (fun _=> .c2) rfl fun ch1 m le1 a w S=>s_fieldAddr S rfl I51_1 T49 (by decide) rfl rfl fun a S=>s_storeJ S 1 rfl rfl rfl rfl .h3 T49 rfl rfl fun w S=>c_end (c_region (s_fieldAddr S rfl I51_2 T36 (by decide) rfl rfl fun a S=>s_load1 S rfl .h3 T36 (v:=(.slice ch_0_3 ch_0_4 ch_0_5)) rfl rfl fun a S=>bindX h1 fun t2 et2 h2=>s_callK S (fa2_.ok et2) N27 rfl (.sk (.sk (.sk (.sk .pre)))) (fun _=> .c2) rfl fun ch2 m le1 a w S=>s_fieldAddr S rfl I51_2 T36 (by decide) rfl rfl fun a S=>s_storeJ S 2 rfl rfl rfl rfl .h5 T36 rfl rfl fun w S=>c_end (c_region (s_loada S rfl .h5 T51 (s':=[.b20 x1.1, .s ch1.1 ch1.2.1 ch1.t2, .s ch2.1 ch2.2.1 ch2.t2]) rfl rfl fun a S=>s_store S rfl rfl rfl (s':=[.b20 x1.1, .s ch1.1 ch1.2.1 ch1.t2, .s ch2.1 ch2.2.1 ch2.t2]) .h4 T51 rfl rfl fun w S=>c_end (wp_ret ?_))))))))
 obtain rfl:=sI h2
 exact b_ret1 (d:=(.agg [.b20 x1.1, .s ch1.1 ch1.2.1 ch1.t2, .s ch2.1 ch2.2.1 ch2.t2])) S rfl (resD_cell rfl .h4 T51 rfl rfl) fun ok=>S.retX (Hx:=[]) hb _ _ ((ch1.1,ch1.2.1,ch1.t2,ch2.1,ch2.2.1,ch2.t2):W20) (.c2 (.c0 (.c1 (.c0 .n)))) ok
abbrev fb9_.Ty:Type:=W2→W19→Option W21
def fb9_.Ctr (s:fb9_.Ty):Prop:=∀ {x1:W2} {x2:W19} {ch_0:W3} {ch_1_0:Option Addr} {ch_1_1:Nat} {ch_1_2:Nat} {ch_1_3:Option Addr} {ch_1_4:Nat} {ch_1_5:Nat} {r:W21} (h0:s x1 x2=some r) {mi:Mem} {w0:World},CtrB Try.prog 14 [(.v (.pointer (some ⟨ch_0.1,0,none⟩))),(.agg [.b20 x2.1, .s ch_1_0 ch_1_1 ch_1_2, .s ch_1_3 ch_1_4 ch_1_5])] (MS1 x1 ch_0++[Res.row (Ty.arr .u64 4) 35 ch_1_0 ch_1_1 ch_1_2 x2.2.1,Res.row yb 5 ch_1_3 ch_1_4 ch_1_5 x2.t2]) (fun (ch:W20)=>((.tup []):D)) (fun (ch:W20)=>(MS1 (x1.1,x1.2.1,x1.e3,r.e4,r.e5,x1.t5) (ch_0.1,ch_0.2.1,ch_0.e3,ch_0.e4,ch_0.e5,ch_0.e6,ch_0.e7,ch.1,ch.2.1,ch.e3,ch.e4,ch.e5,ch.t5,ch_0.e14,ch_0.e15,ch_0.t15)++[Res.row (Ty.arr .u64 4) 35 ch_1_0 ch_1_1 ch_1_2 x2.2.1,Res.row yb 5 ch_1_3 ch_1_4 ch_1_5 x2.t2])) mi w0
def fb9_.f (x1:W2)(x2:W19):Option W21:=(fb1_.f x1 (Clo.c31 () ((x1.2.2.2.1).length:Int))).bind fun t1=>((fe8_.f x2).bind fun t2=>(if ((x1.2.2.2.1).length+([t2]).length)*72≤140737488355328 then (some ((),(),(),x1.2.2.2.1++[t2],t1.2.2.2.2.1,())) else none))
theorem fb9_.ok:fb9_.Ctr (fb9_.f):=by
 intro x1 x2 ch_0 ch_1_0 ch_1_1 ch_1_2 ch_1_3 ch_1_4 ch_1_5 r h0 mi w0 ok hm
 delta fb9_.f at h0
 refine c_enterZ (n:=26) ok hm func14 rfl rfl rfl fun b0 hb a S=>c_region (s_box S rfl rfl rfl fun g1 a w S=>s_box S rfl rfl rfl fun g2 a w S=>c_end (wp_seq (c_region (s_load1 S rfl .h1 T26 (v:=(.pointer (some ⟨ch_0.1,0,none⟩))) rfl rfl fun a S=>s_eqp S (b:=false) rfl rfl underlying26 rfl rfl fun a S=>c_end (c_condF S rfl rfl (wp_skip (x_thenN (c_region (s_load1 S rfl .h1 T26 (v:=(.pointer (some ⟨ch_0.1,0,none⟩))) rfl rfl fun a S=>s_nilchk S rfl rfl fun a S=>s_fieldAddr S rfl I72_3 T56 (by decide) rfl rfl fun a S=>s_load1 S rfl .h2 T56 (v:=(.slice ch_0.e8 ch_0.e9 ch_0.e10)) rfl rfl fun a S=>s_lenO S rfl .h7 underlying56 rfl fun a S=>s_alloc S Z3 rfl rfl rfl fun g3 a w S=>s_storeJ S 0 rfl rfl rfl rfl .h T3 rfl rfl fun w S=>c_end (c_region (s_load1 S rfl .h2 T26 (v:=(.pointer (some ⟨ch_0.1,0,none⟩))) rfl rfl fun a S=>?_)))))))))))
 replace S:=S.freeze .h2
 obtain ⟨m,le1,S⟩:=S
 replace S:=S.freeze .h
 obtain ⟨m,le1,S⟩:=S
 replace S:=S.slotAt (u:=2) (g:=g1) (t:=26) (T:=(Ty.own ch_0.1)) (x:=()) (c:=(():((Ty.own ch_0.1)).Ch)) .h2 rfl rfl
 replace S:=S.slotAt (u:=4) (g:=g3) (t:=3) (T:=yi) (x:=((x1.e4).length:Int)) (c:=(():(yi).Ch)) .h rfl rfl
 refine s_mkFn S (ds:=[(.pt ⟨g1,0,none⟩ (At (Ty.own ch_0.1) ⟨g1,0,none⟩ ())),(.pt ⟨g3,0,none⟩ (At yi ⟨g3,0,none⟩ ((x1.e4).length:Int)))]) rfl rfl fun a S=>?_
 replace S:=S.slotFn (u:=13) (V:=cloV) (R:=cloR ch_0.1 ch_0.e5 ch_0.e6 ch_0.e7) (Clo.c31 () ((x1.e4).length:Int)) ([⟨g1,0,none⟩,⟨g3,0,none⟩]:List Addr) rfl (fun h=>⟨h.1.1,h.2.1.1,tv⟩) (cloM _ _ _ _ _ _) rfl
 replace S:=S.slot (u:=2) (d':= .v (.pointer (ad g1))) rfl rfl rfl
 replace S:=S.slot (u:=4) (d':= .v (.pointer (ad g3))) rfl rfl rfl
 refine bindX h0 fun t1 et1 h1=>s_callK S (fb1_.ok (ch_0:=ch_0) et1) N29 rfl (.sk (.sk (.sk .pre))) (fun _=> .c8) rfl fun ch1 m le1 a w S=>c_end (c_hS S (.tk 0 6 (.alts (.run 6 true (.alts (.run 7 true (.alts (.run 8 true (.take 9 (.take 10 (.alts (.run 11 false .done .nil)))) .nil)) .nil)) .nil))) 11 (.c0 (.c8 (.c8 .n))) ⟨Res.stay_cells,Res.stay_cells,Res.stay_fro,tv⟩ [(3,(.p g2)),(2,(.p g1))] rfl (by kernel_rfl) fun w S CL hw le=>?_)
 refine h_load1F S CL hw le (subR rfl) rfl .h2 T26 (v:=(.pointer (some ⟨ch_0.1,0,none⟩))) rfl rfl rfl tv fun a S CL=>h_load1F S CL hw le (subR rfl) rfl .h2 T26 (v:=(.pointer (some ⟨ch_0.1,0,none⟩))) rfl rfl rfl tv fun a S CL=>h_nilchk S CL hw le (subR rfl) rfl rfl rfl rfl tv fun a S CL=>h_fieldAddr S CL hw le (subR rfl) rfl I72_3 T56 (by decide) rfl rfl rfl tv fun a S CL=>h_load1 S CL hw le (subR rfl) rfl .h T56 (v:=(.slice ch_0.e8 ch_0.e9 ch_0.e10)) rfl rfl rfl tv fun a S CL=>h_loada S CL hw le (subR rfl) rfl .h1 T51 (s':=[.b20 x2.1, .s ch_1_0 ch_1_1 ch_1_2, .s ch_1_3 ch_1_4 ch_1_5]) rfl rfl rfl tv fun a S CL=>h_run' S rfl tv (bindX h1 fun t2 et2 h2=>s_callK S (fe8_.ok et2) N32 rfl (.sk (.sk (.sk (.sk (.sk (.sk (.sk (.sk (.sk (.sk (.sk .pre))))))))))) (fun _=> .c4) rfl fun ch2 m le1 a w S=>?_)
 replace le:=le.trans le1
 refine CL.bk hw S (.c4 (.c12 (.c12 .n))) le fun hw=>h_run' S rfl tv ?_
 replace S:=S.rowfro .h
 obtain ⟨m,le1,S,hro⟩:=S
 replace le:=le.trans le1
 replace S:=S.slotF 21 1 rfl rfl hro
 replace S:=S.rowfro .h
 obtain ⟨m,le1,S,hro⟩:=S
 replace le:=le.trans le1
 replace S:=S.slotF 21 2 rfl rfl hro
 refine s_bldSl S (ty':=Y51) (ds:=[(0,(.agg (Y51.segs t2 ((),(ch2.1,ch2.e3),(ch2.e4,ch2.t5)))))]) (z:=(z20,([]:List (List Int)),([]:List Int))) (c0:=((),(none,0),(none,0))) (ys:=[t2]) (cs:=[((),(ch2.1,ch2.e3),(ch2.e4,ch2.t5))]) rfl underlying56 J51 Z51 rfl ⟨rfl,⟨Nat.le_refl _,Nat.zero_le _,RdS.nil _ _ _,RdS.mono _ _ _⟩,⟨Nat.le_refl _,Nat.zero_le _,RdS.nil _ _ _,RdS.mono _ _ _⟩,tv⟩ rfl rfl rfl rfl rfl rfl fun g4 a w S=>CL.bk hw S (.c3 (.c11 (.c11 .n))) le fun hw=>h_run' S rfl tv ?_
 obtain ⟨c1,h3⟩:=chk_of h2; clear h2
 refine s_app S (k2:=1) (ys:=[t2]) rfl (fun _ _=> .h8) rfl rfl (S.holds _ (Pull.mem .h).1).1 (Res.row.src (S.holds _ (Pull.mem .h).1)) underlying56 J51 c1 rfl fun A1 cp1 a w S=>CL.bk hw S (.c3 (.c11 (.c11 .n))) le fun hw=>h_nilchk S CL hw le (subR rfl) rfl rfl rfl rfl tv fun a S CL=>h_fieldAddr S CL hw le (subR rfl) rfl I72_3 T56 (by decide) rfl rfl rfl tv fun a S CL=>h_run' S rfl tv (s_storeJ S 3 rfl rfl rfl rfl .h3 T56 rfl rfl fun w S=>?_)
 refine h_back ⟨fun h=>(nomatch h),?_⟩
 refine h_done ?_; clear CL hw le
 refine b_end ?_
 obtain rfl:=sI h3
 exact b_ret0 S rfl (S.retX (Hx:=[]) hb _ _ ((A1,ch_0.e9+1,cp1,ch1.1,ch1.2.1,ch1.t2):W20) (.c3 (.c3 (.c3 (.c3 (.c3 (.c3 (.c3 (.c3 (.c1 (.c1 .n)))))))))) tv)
abbrev fd9_.Ty:Type:=W2→(List Int)→Option W18
def fd9_.Ctr (s:fd9_.Ty):Prop:=∀ {x1:W2} {x2:List Int} {ch_0:W3} {r:W18} (h0:s x1 x2=some r) {mi:Mem} {w0:World},CtrB Try.prog 16 [(.v (.pointer (some ⟨ch_0.1,0,none⟩))),(.agg [.b20 x2])] (MS1 x1 ch_0) (fun (ch:W22)=>((.s ch.1 ch.2.1 ch.e3):D)) (fun (ch:W22)=>([Res.row yb 5 ch.1 ch.2.1 ch.e3 r.1]++MS1 (x1.1,r.e3,x1.e3,r.e5,r.e6,r.t6) (ch_0.1,ch_0.2.1,ch_0.e3,ch.e4,ch.e5,ch.e6,ch.e7,ch.e8,ch.e9,ch.e10,ch.e11,ch.e12,ch.e13,ch.e14,ch.e15,ch.t15))) mi w0
def fd9_.f (k:Nat)(x1:W2)(x2:List Int):Option W18:=(fe4_.f k x1 x2).bind fun t1=>(if t1.1.isSome=true then ((fa9_.f (((atE t1.2.2.1.2.1 (t1.1.getD 0)).2.1).2.2.2.1)).bind fun t2=>(some (t2,((),t1.2.2.1,(),t1.2.2.2.2.1,t1.2.2.2.2.2.1,t1.2.2.2.2.2.2)))) else none)
theorem fd9_.ok (k:Nat):fd9_.Ctr (fd9_.f k):=by
 intro x1 x2 ch_0 r h0 mi w0 ok hm
 delta fd9_.f at h0
 refine c_enterZ (n:=15) ok hm func16 rfl rfl rfl fun b0 hb a S=>c_region (s_box S rfl rfl rfl fun g1 a w S=>s_as1 S rfl fun a S=>c_end (wp_seq (c_region (s_mv1 S rfl fun a S=>s_eqp S (b:=false) rfl rfl underlying26 rfl rfl fun a S=>c_end (c_condF S rfl rfl (wp_skip (x_thenN (c_region (s_mv1 S rfl fun a S=>s_loada S rfl .h T31 (s':=[.b20 x2]) rfl rfl fun a S=>bindX h0 fun t1 et1 h1=>s_callK S (fe4_.ok k (ch_0:=ch_0) et1) N26 rfl (.sk .pre) (fun _=> .c8) rfl fun ch1 m le1 a w S=>?_)))))))))
 obtain ⟨c1,h2⟩:=chk_of h1; clear h1
 have hl1:=S.slotPlt (u:=9) c1 rfl
 replace S:=S.slotP (u:=9) c1 rfl
 refine s_nilchk S rfl rfl fun a S=>s_fieldAddr S rfl I76_1 T39 (by decide) rfl rfl fun a S=>s_fieldAddr S rfl I39_3 T36 (by decide) rfl rfl fun a S=>?_
 replace S:=S.famOpen (i:=(t1.1.getD 0)) hl1 .h2
 have hS:=S.structOpen (T:=(YE76 ch1.e3 ch1.e4)) (fun _=> .h) (((),(),(),(none,0),(none,0)),((),(),(),(none,0),(none,0)),(),(),(),(),())
 clear S; obtain ⟨ch2,S⟩:=hS
 refine s_loadSl S rfl .h T36 (A:=ch2.2.1.e4.1) (len:=(((atE t1.e3.2.1 (t1.1.getD 0)).2.1).e4).length) (cap:=ch2.2.1.e4.2) rfl rfl fun a S=>?_
 replace S:=S.structClose (T:=(YE76 ch1.e3 ch1.e4)) (e:=atE t1.e3.2.1 (t1.1.getD 0)) (ch2:((YE76 ch1.e3 ch1.e4)).Ch) rfl .h
 replace S:=S.famShut hl1 .h .h2
 refine bindX h2 fun t2 et2 h3=>s_callK S (fa9_.ok et2) N27 rfl .pre (fun _=> .c1) rfl fun ch3 m le1 a w S=>s_as1 S rfl fun a S=>c_end (wp_ret ?_)
 obtain rfl:=sI h3
 exact b_ret1 (d:=(.s ch3.1 ch3.2.1 ch3.t2)) S rfl rfl fun ok=>S.retX (Hx:=[]) hb _ _ ((ch3.1,ch3.2.1,ch3.t2,ch1.1,ch1.2.1,ch1.e3,ch1.e4,ch1.e5,ch1.e6,ch1.e7,ch1.e8,ch1.e9,ch1.e10,ch1.e11,ch1.e12,ch1.t12):W22) (.c0 (.c0 (.c0 (.c0 (.c0 (.c0 (.c0 (.c0 (.c0 .n))))))))) ok
abbrev ff3_.Ty:Type:=(List (List Int))→Option (List (List Int))
def ff3_.Ctr (s:ff3_.Ty):Prop:=∀ {x1:List (List Int)} {ch_0_0:Option Addr} {ch_0_1:Nat} {r:List (List Int)} (h0:s x1=some r) {mi:Mem} {w0:World},CtrB Try.prog 41 [(.q (Ty.arr .u64 4) ch_0_0 ch_0_1 x1)] [] (fun (ch:(Option Addr)×Nat×Nat)=>((.s ch.1 ch.2.1 ch.t2):D)) (fun (ch:(Option Addr)×Nat×Nat)=>[Res.row (Ty.arr .u64 4) 35 ch.1 ch.2.1 ch.t2 r]) mi w0
def ff3_.f (x1:List (List Int)):Option (List (List Int)):=if ((([]:List (List Int))).length+(x1).length)*32≤140737488355328 then (some (([]:List (List Int))++x1)) else none
theorem ff3_.ok:ff3_.Ctr (ff3_.f):=by
 intro x1 ch_0_0 ch_0_1 r h0 mi w0 ok hm
 delta ff3_.f at h0
 refine c_enterZ (n:=8) ok hm func41 rfl rfl rfl fun b0 hb a S=>c_region (s_as1 S rfl fun a S=>c_end (wp_seq (c_region (s_mv1 S rfl fun a S=>s_eqnil S (b:=(ch_0_0).isNone) (d:=(.q (Ty.arr .u64 4) ch_0_0 ch_0_1 x1)) rfl rfl underlying49 rfl rfl rfl fun a S=>c_end ?_))))
 cases hc:(ch_0_0).isNone
 ·refine c_condF S rfl hc (wp_skip (x_thenN (c_region (s_bldSl S (ty':=(Ty.arr .u64 4)) (ds:=[]) (z:=[0,0,0,0]) (c0:=()) (ys:=([]:List (List Int))) (cs:=[]) rfl underlying49 J35 Z35 rfl ⟨rfl,tv⟩ rfl rfl rfl rfl rfl rfl fun g1 a w S=>s_mv1 S rfl fun a S=>?_))))
  obtain ⟨c1,h1⟩:=chk_of h0; clear h0
  refine s_app S (k2:=((x1).length)) (ys:=x1) rfl (fun _ _=> .h) rfl rfl rfl (RdS.src (S.get 6 (.q (Ty.arr .u64 4) ch_0_0 ch_0_1 x1) rfl).2.2.2.1 (by decide) S.frz) underlying49 J35 c1 rfl fun A1 cp1 a w S=>s_as1 S rfl fun a S=>c_end (wp_ret ?_)
  obtain rfl:=sI h1
  exact b_ret1 (d:=(.s A1 (0+((x1).length)) cp1)) S rfl rfl fun ok=>S.retX (Hx:=[]) hb _ _ ((A1,0+((x1).length),cp1):(Option Addr)×Nat×Nat) (.c0 .n) ok
 ·have hxs:x1=[]:=rd_nil hc (S.get 3 (.q (Ty.arr .u64 4) ch_0_0 ch_0_1 x1) rfl).2.2.2.1
  have h1:(some ([]:List (List Int)))=some r:=by simpa [hxs] using h0
  clear h0
  refine c_condT S rfl hc (c_region (s_as1 S rfl fun a S=>c_end (wp_ret (x_thenR ?_))))
  replace S:=S.nilrow (Ty.arr .u64 4) 35
  replace S:=S.slot (u:=2) (d':=(.s none 0 0)) rfl rfl (S.get 2 (.s none 0 0) rfl).2
  obtain rfl:=sI h1
  exact b_ret1 (d:=(.s none 0 0)) S rfl rfl fun ok=>S.retX (Hx:=[]) hb _ _ ((none,0,0):(Option Addr)×Nat×Nat) (.c0 .n) ok
abbrev ff9_.Ty:Type:=W19→Option W19
def ff9_.Ctr (s:ff9_.Ty):Prop:=∀ {x1:W19} {ch_0_0:Option Addr} {ch_0_1:Nat} {ch_0_2:Option Addr} {ch_0_3:Nat} {r:W19} (h0:s x1=some r) {mi:Mem} {w0:World},CtrB Try.prog 32 [(.agg (Y51.segs x1 ((),(ch_0_0,ch_0_1),(ch_0_2,ch_0_3))))] [] (fun (ch:W20)=>((.agg [.b20 r.1, .s ch.1 ch.2.1 ch.e3, .s ch.e4 ch.e5 ch.t5]):D)) (fun (ch:W20)=>[Res.row (Ty.arr .u64 4) 35 ch.1 ch.2.1 ch.e3 r.2.1,Res.row yb 5 ch.e4 ch.e5 ch.t5 r.t2]) mi w0
def ff9_.f (x1:W19):Option W19:=(ff3_.f x1.2.1).bind fun t1=>((fa9_.f x1.2.2).bind fun t2=>(some (x1.1,t1,t2)))
theorem ff9_.ok:ff9_.Ctr (ff9_.f):=by
 intro x1 ch_0_0 ch_0_1 ch_0_2 ch_0_3 r h0 mi w0 ok hm
 delta ff9_.f at h0
 refine c_enterZ (n:=12) ok hm func32 rfl rfl rfl fun b0 hb a S=>c_region (s_box S rfl rfl rfl fun g1 a w S=>s_alloc S Z51 rfl ⟨rfl,rfl,rfl,tv⟩ rfl fun g2 a w S=>c_end (c_region (s_fieldAddr S rfl I51_1 T49 (by decide) rfl rfl fun a S=>s_loadSl S rfl .h1 T49 (A:=ch_0_0) (len:=(x1.2.1).length) (cap:=ch_0_1) rfl rfl fun a S=>bindX h0 fun t1 et1 h1=>s_callK S (ff3_.ok et1) N41 rfl .pre (fun _=> .c1) rfl fun ch1 m le1 a w S=>s_fieldAddr S rfl I51_1 T49 (by decide) rfl rfl fun a S=>s_storeJ S 1 rfl rfl rfl rfl .h2 T49 rfl rfl fun w S=>c_end (c_region (s_fieldAddr S rfl I51_2 T36 (by decide) rfl rfl fun a S=>s_loadSl S rfl .h2 T36 (A:=ch_0_2) (len:=(x1.t2).length) (cap:=ch_0_3) rfl rfl fun a S=>bindX h1 fun t2 et2 h2=>s_callK S (fa9_.ok et2) N27 rfl .pre (fun _=> .c1) rfl fun ch2 m le1 a w S=>s_fieldAddr S rfl I51_2 T36 (by decide) rfl rfl fun a S=>s_storeJ S 2 rfl rfl rfl rfl .h3 T36 rfl rfl fun w S=>c_end (c_region (s_loada S rfl .h3 T51 (s':=[.b20 x1.1, .s ch1.1 ch1.2.1 ch1.t2, .s ch2.1 ch2.2.1 ch2.t2]) rfl rfl fun a S=>s_store S rfl rfl rfl (s':=[.b20 x1.1, .s ch1.1 ch1.2.1 ch1.t2, .s ch2.1 ch2.2.1 ch2.t2]) .h2 T51 rfl rfl fun w S=>c_end (wp_ret ?_))))))))
 obtain rfl:=sI h2
 exact b_ret1 (d:=(.agg [.b20 x1.1, .s ch1.1 ch1.2.1 ch1.t2, .s ch2.1 ch2.2.1 ch2.t2])) S rfl (resD_cell rfl .h2 T51 rfl rfl) fun ok=>S.retX (Hx:=[]) hb _ _ ((ch1.1,ch1.2.1,ch1.t2,ch2.1,ch2.2.1,ch2.t2):W20) (.c1 (.c0 .n)) ok
abbrev fd4_.Ty:Type:=W2→Option (List L51)
def fd4_.Ctr (s:fd4_.Ty):Prop:=∀ {x1:W2} {ch_0:W3} {r:List L51} (h0:s x1=some r) {mi:Mem} {w0:World},CtrB Try.prog 17 [(.v (.pointer (some ⟨ch_0.1,0,none⟩)))] (MS1 x1 ch_0) (fun (ch:W23)=>((.s ch.1 ch.2.1 ch.e3):D)) (fun (ch:W23)=>([Res.row (Ty.atZ ch.t3 Y51) 51 ch.1 ch.2.1 ch.e3 r,Res.priv ch.t3]++MS1 x1 ch_0)) mi w0
def fd4_.j1 (y1:List L51):Option (List L51):=some y1
def fd4_.b1 (x1:W2)(rec1:(List L51)→Int→Option (List L51))(y4:List L51)(y5:Int):Option (List L51):=if (decide (y5<((x1.2.2.2.1).length:Int)))=true then (if (0:Int)≤y5∧y5<((x1.2.2.2.1).length:Int) then ((ff9_.f (gt x1.2.2.2.1 y5)).bind fun t1=>(if ((y4).length+([t1]).length)*72≤140737488355328 then (rec1 (y4++[t1]) (wr .i64 (y5+1))) else none)) else none) else (fd4_.j1 y4)
def fd4_.l1 (x1:W2):Nat→(List L51)→Int→Option (List L51)
  | 0,_,_=>none
  | q+1,y4,y5=>fd4_.b1 x1 (fd4_.l1 x1 q) y4 y5
def fd4_.f (k:Nat)(x1:W2):Option (List L51):=fd4_.l1 x1 k ([]:List L51) 0
theorem fd4_.ok (k:Nat):fd4_.Ctr (fd4_.f k):=by
 intro x1 ch_0 r h0 mi w0 ok hm
 delta fd4_.f at h0
 refine c_enterZ (n:=25) ok hm func17 rfl rfl rfl fun b0 hb a S=>c_region (s_as1 S rfl fun a S=>c_end (c_region (s_as1 S rfl fun a S=>c_end (wp_seq (c_region (s_mv1 S rfl fun a S=>s_eqp S (b:=false) rfl rfl underlying26 rfl rfl fun a S=>c_end (c_condF S rfl rfl (wp_skip (x_thenN (wp_seq_k fun K1 hK1=>?_))))))))))
 have j1:∀ m A1 nn1 cp1 y1 mz1 a w,St 25 m b0 [(3,(.s A1 nn1 cp1))] ([Res.row (Ty.atZ mz1 Y51) 51 A1 nn1 cp1 y1,Res.priv mz1]++MS1 x1 ch_0) a w→fd4_.j1 y1=some r→K1 a w:=by
  intro m A1 nn1 cp1 y1 mz1 a w S h0
  delta fd4_.j1 at h0
  refine hK1 a w (c_region (s_mv1 S rfl fun a S=>s_as1 S rfl fun a S=>c_end (wp_ret ?_)))
  obtain rfl:=sI h0
  exact b_ret1 (d:=(.s A1 nn1 cp1)) S rfl rfl fun ok=>S.retX (Hx:=[]) hb _ _ ((A1,nn1,cp1,mz1):W23) (.c0 (.c0 (.c0 (.c0 (.c0 (.c0 (.c0 (.c0 (.c0 (.c0 .n)))))))))) ok
 refine c_region (s_mv1 S rfl fun a S=>s_nilchk S rfl rfl fun a S=>s_fieldAddr S rfl I72_3 T56 (by decide) rfl rfl fun a S=>s_load1 S rfl .h T56 (v:=(.slice ch_0.e8 ch_0.e9 ch_0.e10)) rfl rfl fun a S=>s_lenO S rfl .h5 underlying56 rfl fun a S=>s_mv1 S rfl fun a S=>c_end (wp_block ?_))
 replace S:=S.privnew
 replace S:=S.nilrow (Ty.atZ GW.m0 Y51) 51
 refine c_loop (fun q1 a w=>∃ m A2 nn3 cp5 y4 mz9 y5,St 25 m b0 [(3,(.s A2 nn3 cp5)),(14,(.i y5)),(13,(.i ((x1.e4).length:Int))),(12,(.s ch_0.e8 ch_0.e9 ch_0.e10))] ([Res.row (Ty.atZ mz9 Y51) 51 A2 nn3 cp5 y4,Res.priv mz9]++MS1 x1 ch_0) a w∧fd4_.l1 x1 q1 y4 y5=some r) ?_ ?_ (k:=k) ⟨_,none,0,0,([]:List L51),GW.m0,0,(S.sb rfl (.c0 (.c0 (.c0 (.c0 (.c0 (.c0 (.c0 (.c0 (.c0 (.c0 .n))))))))))),h0⟩
 ·rintro a w ⟨m,A2,nn3,cp5,y4,mz9,y5,S,h0⟩
  exact (nomatch (show (none:Option (List L51))=some r from h0))
 ·clear S h0
  rintro q1 a w ⟨m,A2,nn3,cp5,y4,mz9,y5,S,h0⟩
  replace h0:fd4_.b1 x1 (fd4_.l1 x1 q1) y4 y5=some r:=h0
  delta fd4_.b1 at h0
  refine c_region (s_bi S rfl fun a S=>c_end (wp_seq ?_))
  rcases ite_of h0 with ⟨c1,h1⟩ | ⟨c1,h1⟩
  ·refine c_condT S rfl c1 (wp_skip (x_thenN (wp_seq (wp_block (c_region ?_)))))
   obtain ⟨c2,h2⟩:=chk_of h1; clear h1
   refine s_iaddrO S (ty':=Y51) rfl .h7 rfl underlying56 T51 c2.1 c2.2 rfl fun g1 a hA1 S=>s_ldRW S (i:=y5) rfl hA1 .h7 T51 c2.1 c2.2 rfl rfl fun ch1 a S=>s_alloc S Z51 rfl ⟨rfl,rfl,rfl,tv⟩ rfl fun g2 a w S=>s_store S rfl rfl rfl (s':=(Y51.segs (gt x1.e4 y5) ch1)) .h T51 rfl rfl fun w S=>c_end (c_region' (s_mv1 S rfl fun a S=>s_loada S rfl .h T51 (s':=(Y51.segs (gt x1.e4 y5) ch1)) rfl rfl fun a S=>bindX h2 fun t1 et1 h3=>s_callK S (ff9_.ok et1) N32 rfl .pre (fun _=> .c2) rfl fun ch2 m le1 a w S=>?_))
   replace S:=S.privnew
   replace S:=S.privrow flatT_arr .h1 (fun _=> .h)
   obtain ⟨mz10,le2,S,hro⟩:=S
   replace S:=S.slot (u:=20) (d':=(.agg [.b20 t1.1, .sl ch2.1 (t1.2.1).length ch2.e3 (atR mz10 (RdS (Ty.arr .u64 4) ch2.1 t1.2.1)), .s ch2.e4 ch2.e5 ch2.t5])) rfl (by simp [D.val,pd,cellsOf,Seg.cells,hro.2.1]) (by have h:=(S.get 20 (.agg [.b20 t1.1, .s ch2.1 ch2.2.1 ch2.e3, .s ch2.e4 ch2.e5 ch2.t5]) rfl).2; exact ⟨h.1,(okz_of hro _),h.2.2.1,tv⟩)
   replace S:=S.privrow flatT_int .h1 (fun _=> .h)
   obtain ⟨mz11,le2,S,hro⟩:=S
   replace S:=S.slot (u:=20) (d':=(.agg [.b20 t1.1, .sl ch2.1 (t1.2.1).length ch2.e3 (atR mz11 (RdS (Ty.arr .u64 4) ch2.1 t1.2.1)), .s ch2.e4 ch2.e5 ch2.t5])) rfl rfl (by have h:=(S.get 20 (.agg [.b20 t1.1, .sl ch2.1 (t1.2.1).length ch2.e3 (atR mz10 (RdS (Ty.arr .u64 4) ch2.1 t1.2.1)), .s ch2.e4 ch2.e5 ch2.t5]) rfl).2; exact ⟨h.1,(okz_up le2 h.2.1),h.2.2.1,tv⟩)
   replace S:=S.slot (u:=20) (d':=(.agg [.b20 t1.1, .sl ch2.1 (t1.2.1).length ch2.e3 (atR mz11 (RdS (Ty.arr .u64 4) ch2.1 t1.2.1)), .sl ch2.e4 (t1.t2).length ch2.t5 (atR mz11 (RdS yb ch2.e4 t1.t2))])) rfl (by simp [D.val,pd,cellsOf,Seg.cells,hro.2.1]) (by have h:=(S.get 20 (.agg [.b20 t1.1, .sl ch2.1 (t1.2.1).length ch2.e3 (atR mz11 (RdS (Ty.arr .u64 4) ch2.1 t1.2.1)), .s ch2.e4 ch2.e5 ch2.t5]) rfl).2; exact ⟨h.1,h.2.1,(okz_of hro _),tv⟩)
   refine s_bldSl S (ty':=(Ty.atZ mz11 Y51)) (ds:=[(0,(.agg ((Ty.atZ mz11 Y51).segs t1 ((),(ch2.1,ch2.e3),(ch2.e4,ch2.t5)))))]) (z:=(z20,([]:List (List Int)),([]:List Int))) (c0:=((),(none,0),(none,0))) (ys:=[t1]) (cs:=[((),(ch2.1,ch2.e3),(ch2.e4,ch2.t5))]) rfl underlying56 J51 Z51 rfl ⟨rfl,okz_nil,okz_nil,tv⟩ rfl rfl rfl rfl rfl rfl fun g3 a w S=>?_
   replace S:=S.zmerge .h1 (fun _=> .h3)
   obtain ⟨mz12,le2,le3,S⟩:=S
   replace S:=S.zup (Z':=mz12) .h2 le2
   replace S:=S.zup (Z':=mz12) .h le3
   replace S:=S.slot (u:=20) (d':=(.agg ((Ty.atZ mz12 Y51).segs t1 ((),(ch2.1,ch2.e3),(ch2.e4,ch2.t5))))) rfl rfl (by have h:=(S.get 20 (.agg ((Ty.atZ mz11 Y51).segs t1 ((),(ch2.1,ch2.e3),(ch2.e4,ch2.t5)))) rfl).2; exact ⟨h.1,(okz_up le3 h.2.1),(okz_up le3 h.2.2.1),tv⟩)
   obtain ⟨c3,h4⟩:=chk_of h3; clear h3
   refine s_app S (k2:=1) (ys:=[t1]) rfl (fun _ _=> .h2) rfl rfl (S.holds _ (Pull.mem .h).1).1 (Res.row.src (S.holds _ (Pull.mem .h).1)) underlying56 J51 c3 rfl fun A3 cp6 a w S=>s_as1 S rfl fun a S=>c_end' (x_blockN (x_thenN (c_region' (s_bi S rfl fun a S=>s_mv1 S rfl fun a S=>c_end' (x_thenN ?_)))))
   exact ⟨_,A3,(nn3+1),cp6,(y4++[t1]),mz12,(wr .i64 (y5+1)),(S.sb rfl (.c2 (.c2 (.c2 (.c2 (.c2 (.c2 (.c2 (.c2 (.c2 (.c2 .n))))))))))),h4⟩
  ·refine c_condF S rfl c1 (wp_exit (x_thenX (x_thenX (x_blockX (x_thenN ?_)))))
   exact j1 _ A2 nn3 cp5 y4 mz9 a w (S.sub ⟨rfl,tv⟩ (.c0 (.c0 (.c0 (.c0 (.c0 (.c0 (.c0 (.c0 (.c0 (.c0 .n))))))))))) h1
abbrev fb2_.Ty:Type:=((List Int)×(List Int))→((List Int)×(List Int))→Option Int
def fb2_.Ctr (s:fb2_.Ty):Prop:=∀ {x1:(List Int)×(List Int)} {x2:(List Int)×(List Int)} {r:Int} (h0:s x1 x2=some r) {mi:Mem} {w0:World},CtrB Try.prog 43 [(.agg [.w4 x1.1, .w4 x1.2]),(.agg [.w4 x2.1, .w4 x2.2])] [] (fun (ch:Unit)=>((.i r):D)) (fun (ch:Unit)=>[]) mi w0
def fb2_.f (k:Nat)(x1:(List Int)×(List Int))(x2:(List Int)×(List Int)):Option Int:=(ff_.f k x1.1 x2.1).bind fun t1=>(some t1)
theorem fb2_.ok (k:Nat):fb2_.Ctr (fb2_.f k):=by
 intro x1 x2 r h0 mi w0 ok hm
 delta fb2_.f at h0
 refine c_enterZ (n:=10) ok hm func43 rfl rfl rfl fun b0 hb a S=>c_region (s_box S rfl rfl rfl fun g1 a w S=>s_box S rfl rfl rfl fun g2 a w S=>s_as1 S rfl fun a S=>c_end (c_region (s_fieldAddr S rfl I82_0 T35 (by decide) rfl rfl fun a S=>s_loada S rfl .h1 T35 (s':=[.w4 x1.1]) rfl rfl fun a S=>s_fieldAddr S rfl I82_0 T35 (by decide) rfl rfl fun a S=>s_loada S rfl .h T35 (s':=[.w4 x2.1]) rfl rfl fun a S=>bindX h0 fun t1 et1 h1=>s_callK S (ff_.ok k et1) N44 rfl .pre (fun _=> .n) rfl fun ch1 m le1 a w S=>s_as1 S rfl fun a S=>c_end (wp_ret ?_))))
 obtain rfl:=sI h1
 exact b_ret1 (d:=(.i t1)) S rfl rfl (S.rt hb)
structure SortG where
  α:Type
  inh:Inhabited α
  T:Ty α
  e:TypeId
  s:TypeId
  c:TypeId
  φ:FuncId→FuncId
  fc:FuncId
  cmp:Nat→α→α→Option Int
instance (g:SortG):Inhabited g.α:=g.inh
def SortG.σ (g:SortG):Rn:=⟨fun t=>bif Nat.beq t 82 then g.e else bif Nat.beq t 37 then g.s else bif Nat.beq t 95 then g.c else t,fun f=>bif Nat.beq f 67||Nat.beq f 80||Nat.beq f 68||Nat.beq f 69||Nat.beq f 84||Nat.beq f 82||Nat.beq f 81||Nat.beq f 70||Nat.beq f 71||Nat.beq f 72||Nat.beq f 73||Nat.beq f 74||Nat.beq f 53||Nat.beq f 42 then g.φ f else f⟩
structure SortG.Ok (g:SortG):Prop where
  hT:tyI Try.prog g.e=some (true,g.T.size)
  hU:Try.prog.underlying g.s=some (.slice g.e)
  hcmp:∀ {k:Nat} {x y:g.α} {cx cy:g.T.Ch} {r:Int},g.cmp k x y=some r→∀ {mi:Mem} {w0:World},CtrB (Ch:=Unit) Try.prog g.fc [.agg (g.T.segs x cx), .agg (g.T.segs y cy)] [] (fun _=>(.v (.int .i64 r):D)) (fun _=>[]) mi w0
  nc:Fn_ Try.prog g.fc
  n67:FnIs Try.prog (g.φ 67) (g.σ.code (bdy Try.f67)) Try.f67
  n80:FnIs Try.prog (g.φ 80) (g.σ.code (bdy Try.f80)) Try.f80
  n68:FnIs Try.prog (g.φ 68) (g.σ.code (bdy Try.f68)) Try.f68
  n69:FnIs Try.prog (g.φ 69) (g.σ.code (bdy Try.f69)) Try.f69
  n84:FnIs Try.prog (g.φ 84) (g.σ.code (bdy Try.f84)) Try.f84
  n82:FnIs Try.prog (g.φ 82) (g.σ.code (bdy Try.f82)) Try.f82
  n81:FnIs Try.prog (g.φ 81) (g.σ.code (bdy Try.f81)) Try.f81
  n70:FnIs Try.prog (g.φ 70) (g.σ.code (bdy Try.f70)) Try.f70
  n71:FnIs Try.prog (g.φ 71) (g.σ.code (bdy Try.f71)) Try.f71
  n72:FnIs Try.prog (g.φ 72) (g.σ.code (bdy Try.f72)) Try.f72
  n73:FnIs Try.prog (g.φ 73) (g.σ.code (bdy Try.f73)) Try.f73
  n74:FnIs Try.prog (g.φ 74) (g.σ.code (bdy Try.f74)) Try.f74
  n53:FnIs Try.prog (g.φ 53) (g.σ.code (bdy Try.f53)) Try.f53
  n42:FnIs Try.prog (g.φ 42) (g.σ.code (bdy Try.f42)) Try.f42
abbrev ff7_.Ty:Type:=Int→Option Int
def ff7_.Ctr (s:ff7_.Ty):Prop:=∀ {x1:Int} {r:Int} (h0:s x1=some r) {mi:Mem} {w0:World},CtrB Try.prog 63 [(.w x1)] [] (fun (ch:Unit)=>((.i r):D)) (fun (ch:Unit)=>[]) mi w0
def ff7_.j3 (y5:Int)(y6:Int):Option Int:=if (0:Int)≤(wr .u8 y6)∧(wr .u8 y6)<(txt0.size:Int) then (some (wr .i64 (y5+(wr .i64 (bt txt0 (wr .u8 y6)))))) else none
def ff7_.j2 (y3:Int)(y4:Int):Option Int:=if (decide (256≤y4))=true then (ff7_.j3 (wr .i64 (y3+8)) (shr y4 8)) else (ff7_.j3 y3 y4)
def ff7_.j1 (y1:Int)(y2:Int):Option Int:=if (decide (65536≤y2))=true then (ff7_.j2 (wr .i64 (y1+16)) (shr y2 16)) else (ff7_.j2 y1 y2)
def ff7_.f (x1:Int):Option Int:=if (decide (4294967296≤x1))=true then (ff7_.j1 32 (shr x1 32)) else (ff7_.j1 0 x1)
theorem ff7_.ok:ff7_.Ctr (ff7_.f):=by
 intro x1 r h0 mi w0 ok hm
 delta ff7_.f at h0
 refine c_enterZ (n:=25) ok hm func63 rfl rfl rfl fun b0 hb a S=>c_region (s_as1 S rfl fun a S=>c_end (wp_seq_k fun K1 hK1=>?_))
 have j1:∀ m y1 y2 a w,St 25 m b0 [(2,(.i y1)),(0,(.w y2))] [] a w→ff7_.j1 y1 y2=some r→K1 a w:=by
  intro m y1 y2 a w S h0
  delta ff7_.j1 at h0
  refine hK1 a w (wp_seq_k fun K2 hK2=>?_)
  have j2:∀ m y3 y4 a w,St 25 m b0 [(2,(.i y3)),(0,(.w y4))] [] a w→ff7_.j2 y3 y4=some r→K2 a w:=by
   intro m y3 y4 a w S h0
   delta ff7_.j2 at h0
   refine hK2 a w (wp_seq_k fun K3 hK3=>?_)
   have j3:∀ m y5 y6 a w,St 25 m b0 [(2,(.i y5)),(0,(.w y6))] [] a w→ff7_.j3 y5 y6=some r→K3 a w:=by
    intro m y5 y6 a w S h0
    delta ff7_.j3 at h0
    refine hK3 a w (c_region (s_mv2 S rfl fun a S=>s_conv S rfl rfl underlying5 rfl fun a S=>?_))
    obtain ⟨c1,h1⟩:=chk_of h0; clear h0
    refine s_indexT S rfl rfl underlying9 c1.1 c1.2 rfl fun a S=>s_conv S rfl rfl underlying3 rfl fun a S=>s_bi S rfl fun a S=>s_as1 S rfl fun a S=>c_end (wp_ret ?_)
    obtain rfl:=sI h1
    exact b_ret1 (d:=(.i (wr .i64 (y5+(wr .i64 (bt txt0 (wr .u8 y6))))))) S rfl rfl (S.rt hb)
   refine c_region (s_mv1 S rfl fun a S=>s_bi S rfl fun a S=>c_end ?_)
   rcases ite_of h0 with ⟨c2,h1⟩ | ⟨c2,h1⟩
   ·refine c_condT S rfl c2 (c_region (s_mv1 S rfl fun a S=>s_shr S (e:=8) rfl rfl (by decide) rfl rfl fun a S=>s_as1 S rfl fun a S=>c_end (c_region' (s_mv1 S rfl fun a S=>s_bi S rfl fun a S=>s_as1 S rfl fun a S=>c_end' (x_thenN ?_)))))
    exact j3 _ (wr .i64 (y3+8)) (shr y4 8) a w (S.sb rfl .nil) h1
   ·refine c_condF S rfl c2 (wp_skip (x_thenN ?_))
    exact j3 _ y3 y4 a w (S.sb rfl .nil) h1
  refine c_region (s_mv1 S rfl fun a S=>s_bi S rfl fun a S=>c_end ?_)
  rcases ite_of h0 with ⟨c3,h1⟩ | ⟨c3,h1⟩
  ·refine c_condT S rfl c3 (c_region (s_mv1 S rfl fun a S=>s_shr S (e:=16) rfl rfl (by decide) rfl rfl fun a S=>s_as1 S rfl fun a S=>c_end (c_region' (s_mv1 S rfl fun a S=>s_bi S rfl fun a S=>s_as1 S rfl fun a S=>c_end' (x_thenN ?_)))))
   exact j2 _ (wr .i64 (y1+16)) (shr y2 16) a w (S.sb rfl .nil) h1
  ·refine c_condF S rfl c3 (wp_skip (x_thenN ?_))
   exact j2 _ y1 y2 a w (S.sb rfl .nil) h1
 refine c_region (s_mv1 S rfl fun a S=>s_bi S rfl fun a S=>c_end ?_)
 rcases ite_of h0 with ⟨c4,h1⟩ | ⟨c4,h1⟩
 ·refine c_condT S rfl c4 (c_region (s_mv1 S rfl fun a S=>s_shr S (e:=32) rfl rfl (by decide) rfl rfl fun a S=>s_as1 S rfl fun a S=>c_end (c_region' (s_as1 S rfl fun a S=>c_end' (x_thenN ?_)))))
  exact j1 _ 32 (shr x1 32) a w0 (S.sb rfl .nil) h1
 ·refine c_condF S rfl c4 (wp_skip (x_thenN ?_))
  exact j1 _ 0 x1 a w0 (S.sb rfl .nil) h1
abbrev fg0_.Ty:Type:=Int→Option Int
def fg0_.Ctr (s:fg0_.Ty):Prop:=∀ {x1:Int} {r:Int} (h0:s x1=some r) {mi:Mem} {w0:World},CtrB Try.prog 48 [(.w x1)] [] (fun (ch:Unit)=>((.i r):D)) (fun (ch:Unit)=>[]) mi w0
def fg0_.f (x1:Int):Option Int:=(ff7_.f x1).bind fun t1=>(some t1)
theorem fg0_.ok:fg0_.Ctr (fg0_.f):=by
 intro x1 r h0 mi w0 ok hm
 delta fg0_.f at h0
 refine c_enterZ (n:=8) ok hm func48 rfl rfl rfl fun b0 hb a S=>c_region (s_as1 S rfl fun a S=>c_end (wp_seq (c_condF S rfl rfl (wp_skip (x_thenN (c_region (s_mv1 S rfl fun a S=>bindX h0 fun t1 et1 h1=>s_callK S (ff7_.ok et1) N63 rfl .pre (fun _=> .n) rfl fun ch1 m le1 a w S=>s_as1 S rfl fun a S=>c_end (wp_ret ?_))))))))
 obtain rfl:=sI h1
 exact b_ret1 (d:=(.i t1)) S rfl rfl (S.rt hb)
abbrev fa5_.Ty (g:SortG):Type:=(List g.α)→Int→Int→Option (List g.α)
def fa5_.Ctr (g:SortG)(s:fa5_.Ty g):Prop:=∀ {x1:List g.α} {x2:Int} {x3:Int} {ch_0_0:Option Addr} {ch_0_1:Nat} {ch_0_2:Nat} {r:List g.α} (h0:s x1 x2 x3=some r) {mi:Mem} {w0:World},CtrB Try.prog (g.φ 67) [(.s ch_0_0 ch_0_1 ch_0_2),(.i x2),(.i x3),(.v (.func (.func g.fc) #[] #[]))] [Res.row g.T g.e ch_0_0 ch_0_1 ch_0_2 x1] (fun (ch:Unit)=>((.tup []):D)) (fun (ch:Unit)=>[Res.row g.T g.e ch_0_0 ch_0_1 ch_0_2 r]) mi w0
def fa5_.j1 (g:SortG)(y2:Int)(rec1:(List g.α)→Int→Option (List g.α))(y10:List g.α):Option (List g.α):=rec1 y10 (wr .i64 (y2+1))
def fa5_.j2 (g:SortG)(y2:Int)(rec1:(List g.α)→Int→Option (List g.α))(y15:List g.α)(y16:Int)(rec2:(List g.α)→Int→Option (List g.α))(y17:Bool):Option (List g.α):=if y17=true then (if (0:Int)≤(wr .i64 (y16 - 1))∧(wr .i64 (y16 - 1))<((y15).length:Int) then (if (0:Int)≤y16∧y16<((y15).length:Int) then (if (0:Int)≤(wr .i64 (y16 - 1))∧(wr .i64 (y16 - 1))<((y15.set (Int.toNat y16) (gt y15 (wr .i64 (y16 - 1)))).length:Int) then (rec2 ((y15.set (Int.toNat y16) (gt y15 (wr .i64 (y16 - 1)))).set (Int.toNat (wr .i64 (y16 - 1))) (gt y15 y16)) (wr .i64 (y16 - 1))) else none) else none) else none) else (fa5_.j1 g y2 rec1 y15)
def fa5_.b2 (g:SortG)(k:Nat)(x2:Int)(y2:Int)(rec1:(List g.α)→Int→Option (List g.α))(rec2:(List g.α)→Int→Option (List g.α))(y15:List g.α)(y16:Int):Option (List g.α):=if (decide (x2<y16))=true then (if (0:Int)≤y16∧y16<((y15).length:Int) then (if (0:Int)≤(wr .i64 (y16 - 1))∧(wr .i64 (y16 - 1))<((y15).length:Int) then ((g.cmp k (gt y15 y16) (gt y15 (wr .i64 (y16 - 1)))).bind fun t1=>(fa5_.j2 g y2 rec1 y15 y16 rec2 (decide (t1<0)))) else none) else none) else (fa5_.j2 g y2 rec1 y15 y16 rec2 false)
def fa5_.l2 (g:SortG)(k:Nat)(x2:Int)(y2:Int)(rec1:(List g.α)→Int→Option (List g.α)):Nat→(List g.α)→Int→Option (List g.α)
  | 0,_,_=>none
  | q+1,y15,y16=>fa5_.b2 g k x2 y2 rec1 (fa5_.l2 g k x2 y2 rec1 q) y15 y16
def fa5_.b1 (g:SortG)(k:Nat)(x2:Int)(x3:Int)(rec1:(List g.α)→Int→Option (List g.α))(y1:List g.α)(y2:Int):Option (List g.α):=if (decide (y2<x3))=true then (fa5_.l2 g k x2 y2 rec1 k y1 y2) else (some y1)
def fa5_.l1 (g:SortG)(k:Nat)(x2:Int)(x3:Int):Nat→(List g.α)→Int→Option (List g.α)
  | 0,_,_=>none
  | q+1,y1,y2=>fa5_.b1 g k x2 x3 (fa5_.l1 g k x2 x3 q) y1 y2
def fa5_.f (g:SortG)(k:Nat)(x1:List g.α)(x2:Int)(x3:Int):Option (List g.α):=fa5_.l1 g k x2 x3 k x1 (wr .i64 (x2+1))
theorem fa5_.ok (g:SortG)(h:SortG.Ok g)(k:Nat):fa5_.Ctr g (fa5_.f g k):=by
 intro x1 x2 x3 ch_0_0 ch_0_1 ch_0_2 r h0 mi w0 ok hm
 delta fa5_.f at h0
 refine c_enterG (n:=53) [(.s ch_0_0 ch_0_1 ch_0_2),(.i x2),(.i x3),(.v (.func (.func g.fc) #[] #[]))] (l:=[(0,(.s ch_0_0 ch_0_1 ch_0_2)),(1,(.i x2)),(2,(.i x3)),(3,(.v (.func (.func g.fc) #[] #[])))]) h.n67 rfl rfl rfl ok hm ?_
 clear ok hm
 intro b0 hb a S
 refine c_region (s_mv1 S rfl fun a S=>s_bi S rfl fun a S=>s_as1 S rfl fun a S=>c_end (wp_block ?_))
 refine c_loop (fun q1 a w=>∃ m y1 y2,St 53 m b0 [(8,(.i y2)),(0,(.s ch_0_0 ch_0_1 ch_0_2)),(1,(.i x2)),(2,(.i x3)),(3,(.v (.func (.func g.fc) #[] #[])))] [Res.row g.T g.e ch_0_0 ch_0_1 ch_0_2 y1] a w∧fa5_.l1 g k x2 x3 q1 y1 y2=some r) ?_ ?_ (k:=k) ⟨_,x1,(wr .i64 (x2+1)),(S.sb rfl (.c0 .n)),h0⟩
 ·rintro a w ⟨m,y1,y2,S,h0⟩
  exact (nomatch (show (none:Option (List g.α))=some r from h0))
 ·clear S h0
  rintro q1 a w ⟨m,y1,y2,S,h0⟩
  replace h0:fa5_.b1 g k x2 x3 (fa5_.l1 g k x2 x3 q1) y1 y2=some r:=h0
  delta fa5_.b1 at h0
  refine wp_seq (c_region (s_mv2 S rfl fun a S=>s_bi S rfl fun a S=>c_end ?_))
  rcases ite_of h0 with ⟨c1,h1⟩ | ⟨c1,h1⟩
  ·refine c_condT S rfl c1 (wp_skip (x_thenN (wp_seq_k fun K1 hK1=>?_)))
   have j1:∀ m y10 a w,St 53 m b0 [(8,(.i y2)),(0,(.s ch_0_0 ch_0_1 ch_0_2)),(1,(.i x2)),(2,(.i x3)),(3,(.v (.func (.func g.fc) #[] #[])))] [Res.row g.T g.e ch_0_0 ch_0_1 ch_0_2 y10] a w→fa5_.j1 g y2 (fa5_.l1 g k x2 x3 q1) y10=some r→K1 a w:=by
    intro m y10 a w S h0
    delta fa5_.j1 at h0
    refine hK1 a w (c_region' (s_mv1 S rfl fun a S=>s_bi S rfl fun a S=>s_as1 S rfl fun a S=>c_end' (x_thenN ?_)))
    exact ⟨_,y10,(wr .i64 (y2+1)),(S.sb rfl (.c0 .n)),h0⟩
   refine wp_block (c_region (s_mv1 S rfl fun a S=>s_as1 S rfl fun a S=>c_end (wp_block ?_)))
   refine c_loop (fun q2 a w=>∃ m y15 y16,St 53 m b0 [(9,(.i y16)),(8,(.i y2)),(0,(.s ch_0_0 ch_0_1 ch_0_2)),(1,(.i x2)),(2,(.i x3)),(3,(.v (.func (.func g.fc) #[] #[])))] [Res.row g.T g.e ch_0_0 ch_0_1 ch_0_2 y15] a w∧fa5_.l2 g k x2 y2 (fa5_.l1 g k x2 x3 q1) q2 y15 y16=some r) ?_ ?_ (k:=k) ⟨_,y1,y2,(S.sb rfl (.c0 .n)),h1⟩
   ·rintro a w ⟨m,y15,y16,S,h0⟩
    exact (nomatch (show (none:Option (List g.α))=some r from h0))
   ·clear S h1
    rintro q2 a w ⟨m,y15,y16,S,h0⟩
    replace h0:fa5_.b2 g k x2 y2 (fa5_.l1 g k x2 x3 q1) (fa5_.l2 g k x2 y2 (fa5_.l1 g k x2 x3 q1) q2) y15 y16=some r:=h0
    delta fa5_.b2 at h0
    refine wp_seq (wp_seq_k fun K2 hK2=>?_)
    have j2:∀ m y17 a w,St 53 m b0 [(34,(.b y17)),(9,(.i y16)),(8,(.i y2)),(0,(.s ch_0_0 ch_0_1 ch_0_2)),(1,(.i x2)),(2,(.i x3)),(3,(.v (.func (.func g.fc) #[] #[])))] [Res.row g.T g.e ch_0_0 ch_0_1 ch_0_2 y15] a w→fa5_.j2 g y2 (fa5_.l1 g k x2 x3 q1) y15 y16 (fa5_.l2 g k x2 y2 (fa5_.l1 g k x2 x3 q1) q2) y17=some r→K2 a w:=by
     intro m y17 a w S h0
     delta fa5_.j2 at h0
     refine hK2 a w ?_
     rcases ite_of h0 with ⟨c2,h1⟩ | ⟨c2,h1⟩
     ·refine c_condT S rfl c2 (wp_skip (x_thenN (wp_seq (wp_block ?_))))
      have hS:=S.rowx (fun _=> .h)
      clear S; obtain ⟨cs1,S⟩:=hS
      refine c_hS S (.take 0 (.take 1 (.tk 5 10 (.pure 2 (.pure 3 (.pure 4 (.alts (.run 15 false (.alts (.run 16 false (.alts (.run 17 false .done .nil)) .nil)) .nil)))))))) 15 (.c0 .n) ⟨Res.stay_rowx,tv⟩ [(9,(.i y16)),(0,(.s ch_0_0 ch_0_1 ch_0_2))] rfl (by kernel_rfl) fun w S CL hw le=>?_
      refine h_mv4 S CL hw le rfl tv tv tv tv fun a S CL=>h_bin S CL hw le (subR rfl) rfl rfl rfl rfl rfl tv fun a S CL=>?_
      obtain ⟨c3,h2⟩:=chk_of h1; clear h1
      refine h_iaddrX S CL hw le (subR rfl) (ty':=g.T) rfl .h rfl h.hU h.hT c3.1 c3.2 rfl rfl tv fun g1 a hA1 S CL=>h_ldXW S CL hw le (subR rfl) (i:=(wr .i64 (y16 - 1))) rfl hA1 .h h.hT c3.1 c3.2 rfl rfl rfl tv fun ch1 a S CL=>h_mv2 S CL hw le rfl tv tv fun a S CL=>?_
      obtain ⟨c4,h3⟩:=chk_of h2; clear h2
      refine h_iaddrX S CL hw le (subR rfl) (ty':=g.T) rfl .h rfl h.hU h.hT c4.1 c4.2 rfl rfl tv fun g2 a hA2 S CL=>h_ldXW S CL hw le (subR rfl) (i:=y16) rfl hA2 .h h.hT c4.1 c4.2 rfl rfl rfl tv fun ch2 a S CL=>h_iaddrX S CL hw le (subR rfl) (ty':=g.T) rfl .h rfl h.hU h.hT c4.1 c4.2 rfl rfl tv fun g3 a hA3 S CL=>p_move S rfl rfl rfl tv fun a S=>p_move S rfl rfl rfl tv fun a S=>p_bin S rfl rfl rfl rfl rfl tv fun a S=>h_run' S rfl tv ?_
      replace S:=S.rowu .h
      refine s_stRW S (i:=y16) (u:=gt y15 (wr .i64 (y16 - 1))) (cu:=ch1) rfl rfl hA3 .h h.hT c4.1 c4.2 rfl fun w S=>?_
      refine h_back ⟨fun h=>(nomatch h),?_⟩
      refine h_run' S rfl tv ?_
      obtain ⟨c5,h4⟩:=chk_of h3; clear h3
      refine s_iaddrO S (ty':=g.T) rfl .h rfl h.hU h.hT c5.1 c5.2 rfl fun g4 a hA4 S=>?_
      refine h_back ⟨fun h=>(nomatch h),?_⟩
      refine h_run' S rfl tv (s_stRW S (i:=(wr .i64 (y16 - 1))) (u:=gt y15 y16) (cu:=ch2) rfl rfl hA4 .h h.hT c5.1 c5.2 rfl fun w S=>?_)
      refine h_back ⟨fun h=>(nomatch h),?_⟩
      refine h_done ?_; clear CL hw le
      refine x_blockN (x_thenN (c_region' (s_mv1 S rfl fun a S=>s_bi S rfl fun a S=>s_as1 S rfl fun a S=>c_end' (x_thenN ?_))))
      exact ⟨_,((y15.set (Int.toNat y16) (gt y15 (wr .i64 (y16 - 1)))).set (Int.toNat (wr .i64 (y16 - 1))) (gt y15 y16)),(wr .i64 (y16 - 1)),(S.sb rfl (.c0 .n)),h4⟩
     ·refine c_condF S rfl c2 (wp_exit (x_thenX (x_thenX (x_blockX (x_blockN (x_thenN ?_))))))
      exact j1 _ y15 a w (S.sb rfl (.c0 .n)) h1
    have hS:=S.rowx (fun _=> .h)
    clear S; obtain ⟨cs2,S⟩:=hS
    refine c_hS S (.tk 0 14 (.alts (.run 14 true (.take 15 (.take 16 .done)) .nil))) 17 (.c0 .n) ⟨Res.stay_rowx,tv⟩ [(9,(.i y16)),(0,(.s ch_0_0 ch_0_1 ch_0_2)),(1,(.i x2)),(3,(.v (.func (.func g.fc) #[] #[])))] rfl (by kernel_rfl) fun w S CL hw le=>?_
    refine h_mv2 S CL hw le rfl tv tv fun a S CL=>h_bin S CL hw le (subR rfl) rfl rfl rfl rfl rfl tv fun a S CL=>h_mv1 S CL hw le rfl tv fun a S CL=>?_
    rcases ite_of h0 with ⟨c6,h1⟩ | ⟨c6,h1⟩
    ·refine h_mv3 S CL hw le rfl ⟨_,_,rfl,rfl,c6⟩ ⟨_,_,rfl,rfl,c6⟩ ⟨_,_,rfl,rfl,c6⟩ fun a S CL=>?_
     obtain ⟨c7,h2⟩:=chk_of h1; clear h1
     refine h_iaddrX S CL hw le (subR rfl) (ty':=g.T) rfl .h rfl h.hU h.hT c7.1 c7.2 rfl rfl ⟨_,_,rfl,rfl,c6⟩ fun g5 a hA5 S CL=>h_ldXW S CL hw le (subR rfl) (i:=y16) rfl hA5 .h h.hT c7.1 c7.2 rfl rfl rfl ⟨_,_,rfl,rfl,c6⟩ fun ch3 a S CL=>h_mv2 S CL hw le rfl ⟨_,_,rfl,rfl,c6⟩ ⟨_,_,rfl,rfl,c6⟩ fun a S CL=>h_bin S CL hw le (subR rfl) rfl rfl rfl rfl rfl ⟨_,_,rfl,rfl,c6⟩ fun a S CL=>?_
     obtain ⟨c8,h3⟩:=chk_of h2; clear h2
     refine h_iaddrX S CL hw le (subR rfl) (ty':=g.T) rfl .h rfl h.hU h.hT c8.1 c8.2 rfl rfl ⟨_,_,rfl,rfl,c6⟩ fun g6 a hA6 S CL=>h_ldXW S CL hw le (subR rfl) (i:=(wr .i64 (y16 - 1))) rfl hA6 .h h.hT c8.1 c8.2 rfl rfl rfl ⟨_,_,rfl,rfl,c6⟩ fun ch4 a S CL=>h_run' S rfl ⟨_,_,rfl,rfl,c6⟩ (bindX h3 fun t1 et1 h4=>s_callK S (h.hcmp et1) h.nc rfl .pre (fun _=> .n) rfl fun ch5 m le1 a w S=>?_)
     replace le:=le.trans le1
     refine CL.bk hw S (.c0 .n) le fun hw=>?_
     replace CL:=CL.add (t:=32) (d:=(.i t1)) S rfl rfl
     refine h_bin S CL hw le (subR rfl) rfl rfl rfl rfl rfl ⟨_,_,rfl,rfl,c6⟩ fun a S CL=>h_pick S CL hw le (subR rfl) (b:=true) (hc_of rfl c6) rfl rfl rfl tv fun a S CL=>?_
     refine h_done ?_; clear CL hw le
     replace S:=S.rowu .h
     refine x_thenN ?_
     exact j2 _ (decide (t1<0)) a w (S.sb rfl (.c0 .n)) h4
    ·refine h_sk8 S CL rfl (ne_bool c6) fun a S CL=>h_sk2 S CL rfl (ne_bool c6) fun a S CL=>h_skipRt S rfl rfl rfl (ne_bool c6) rfl fun a S=>CL.bk hw S (.c0 .n) le fun hw=>?_
     replace CL:=CL.add (t:=32) (d:= .u) S rfl rfl
     refine h_sk1 S CL rfl (ne_bool c6) fun a S CL=>h_pick S CL hw le (subR rfl) (b:=false) (hc_of rfl c6) rfl rfl rfl tv fun a S CL=>?_
     refine h_done ?_; clear CL hw le
     replace S:=S.rowu .h
     refine x_thenN ?_
     exact j2 _ false a w (S.sb rfl (.c0 .n)) h1
  ·refine c_condF S rfl c1 (wp_exit (x_thenX (x_thenX (x_blockX (b_end ?_)))))
   obtain rfl:=sI h1
   exact b_ret0 S rfl (S.retX (Hx:=[]) hb _ _ (():Unit) (.c0 .n) tv)
abbrev fc0_.Ty (g:SortG):Type:=(List g.α)→Int→Int→Int→Option (List g.α)
def fc0_.Ctr (g:SortG)(s:fc0_.Ty g):Prop:=∀ {x1:List g.α} {x2:Int} {x3:Int} {x4:Int} {ch_0_0:Option Addr} {ch_0_1:Nat} {ch_0_2:Nat} {r:List g.α} (h0:s x1 x2 x3 x4=some r) {mi:Mem} {w0:World},CtrB Try.prog (g.φ 80) [(.s ch_0_0 ch_0_1 ch_0_2),(.i x2),(.i x3),(.i x4),(.v (.func (.func g.fc) #[] #[]))] [Res.row g.T g.e ch_0_0 ch_0_1 ch_0_2 x1] (fun (ch:Unit)=>((.tup []):D)) (fun (ch:Unit)=>[Res.row g.T g.e ch_0_0 ch_0_1 ch_0_2 r]) mi w0
def fc0_.j1 (g:SortG)(k:Nat)(x4:Int)(y1:List g.α)(y2:Int)(rec1:(List g.α)→Int→Option (List g.α))(y4:Int):Option (List g.α):=if (0:Int)≤(wr .i64 (x4+y2))∧(wr .i64 (x4+y2))<((y1).length:Int) then (if (0:Int)≤(wr .i64 (x4+y4))∧(wr .i64 (x4+y4))<((y1).length:Int) then ((g.cmp k (gt y1 (wr .i64 (x4+y2))) (gt y1 (wr .i64 (x4+y4)))).bind fun t1=>(if (!(decide (t1<0)))=true then (some y1) else (if (0:Int)≤(wr .i64 (x4+y4))∧(wr .i64 (x4+y4))<((y1.set (Int.toNat (wr .i64 (x4+y2))) (gt y1 (wr .i64 (x4+y4)))).length:Int) then (rec1 ((y1.set (Int.toNat (wr .i64 (x4+y2))) (gt y1 (wr .i64 (x4+y4)))).set (Int.toNat (wr .i64 (x4+y4))) (gt y1 (wr .i64 (x4+y2)))) y4) else none))) else none) else none
def fc0_.j2 (g:SortG)(k:Nat)(x4:Int)(y1:List g.α)(y2:Int)(rec1:(List g.α)→Int→Option (List g.α))(y5:Bool):Option (List g.α):=if y5=true then (fc0_.j1 g k x4 y1 y2 rec1 (wr .i64 ((wr .i64 ((wr .i64 (2*y2))+1))+1))) else (fc0_.j1 g k x4 y1 y2 rec1 (wr .i64 ((wr .i64 (2*y2))+1)))
def fc0_.b1 (g:SortG)(k:Nat)(x3:Int)(x4:Int)(rec1:(List g.α)→Int→Option (List g.α))(y1:List g.α)(y2:Int):Option (List g.α):=if (decide (x3≤(wr .i64 ((wr .i64 (2*y2))+1))))=true then (some y1) else (if (decide ((wr .i64 ((wr .i64 ((wr .i64 (2*y2))+1))+1))<x3))=true then (if (0:Int)≤(wr .i64 (x4+(wr .i64 ((wr .i64 (2*y2))+1))))∧(wr .i64 (x4+(wr .i64 ((wr .i64 (2*y2))+1))))<((y1).length:Int) then (if (0:Int)≤(wr .i64 ((wr .i64 (x4+(wr .i64 ((wr .i64 (2*y2))+1))))+1))∧(wr .i64 ((wr .i64 (x4+(wr .i64 ((wr .i64 (2*y2))+1))))+1))<((y1).length:Int) then ((g.cmp k (gt y1 (wr .i64 (x4+(wr .i64 ((wr .i64 (2*y2))+1))))) (gt y1 (wr .i64 ((wr .i64 (x4+(wr .i64 ((wr .i64 (2*y2))+1))))+1)))).bind fun t3=>(fc0_.j2 g k x4 y1 y2 rec1 (decide (t3<0)))) else none) else none) else (fc0_.j2 g k x4 y1 y2 rec1 false))
def fc0_.l1 (g:SortG)(k:Nat)(x3:Int)(x4:Int):Nat→(List g.α)→Int→Option (List g.α)
  | 0,_,_=>none
  | q+1,y1,y2=>fc0_.b1 g k x3 x4 (fc0_.l1 g k x3 x4 q) y1 y2
def fc0_.f (g:SortG)(k:Nat)(x1:List g.α)(x2:Int)(x3:Int)(x4:Int):Option (List g.α):=fc0_.l1 g k x3 x4 k x1 x2
theorem fc0_.ok (g:SortG)(h:SortG.Ok g)(k:Nat):fc0_.Ctr g (fc0_.f g k):=by
 intro x1 x2 x3 x4 ch_0_0 ch_0_1 ch_0_2 r h0 mi w0 ok hm
 delta fc0_.f at h0
 refine c_enterG (n:=82) [(.s ch_0_0 ch_0_1 ch_0_2),(.i x2),(.i x3),(.i x4),(.v (.func (.func g.fc) #[] #[]))] (l:=[(0,(.s ch_0_0 ch_0_1 ch_0_2)),(1,(.i x2)),(2,(.i x3)),(3,(.i x4)),(4,(.v (.func (.func g.fc) #[] #[])))]) h.n80 rfl rfl rfl ok hm ?_
 clear ok hm
 intro b0 hb a S
 refine c_region (s_mv1 S rfl fun a S=>s_as1 S rfl fun a S=>c_end (wp_block ?_))
 refine c_loop (fun q1 a w=>∃ m y1 y2,St 82 m b0 [(10,(.i y2)),(0,(.s ch_0_0 ch_0_1 ch_0_2)),(2,(.i x3)),(3,(.i x4)),(4,(.v (.func (.func g.fc) #[] #[])))] [Res.row g.T g.e ch_0_0 ch_0_1 ch_0_2 y1] a w∧fc0_.l1 g k x3 x4 q1 y1 y2=some r) ?_ ?_ (k:=k) ⟨_,x1,x2,(S.sb rfl (.c0 .n)),h0⟩
 ·rintro a w ⟨m,y1,y2,S,h0⟩
  exact (nomatch (show (none:Option (List g.α))=some r from h0))
 ·clear S h0
  rintro q1 a w ⟨m,y1,y2,S,h0⟩
  replace h0:fc0_.b1 g k x3 x4 (fc0_.l1 g k x3 x4 q1) y1 y2=some r:=h0
  delta fc0_.b1 at h0
  refine wp_block (c_region (s_mv1 S rfl fun a S=>s_bi S rfl fun a S=>s_bi S rfl fun a S=>s_as1 S rfl fun a S=>c_end (wp_seq (c_region (s_mv2 S rfl fun a S=>s_bi S rfl fun a S=>c_end ?_)))))
  rcases ite_of h0 with ⟨c1,h1⟩ | ⟨c1,h1⟩
  ·refine c_condT S rfl c1 (wp_exit (x_thenX (x_blockO (by decide) (x_thenX (x_blockX (b_end ?_))))))
   obtain rfl:=sI h1
   exact b_ret0 S rfl (S.retX (Hx:=[]) hb _ _ (():Unit) (.c0 .n) tv)
  ·refine c_condF S rfl c1 (wp_skip (x_thenN (wp_seq_k fun K1 hK1=>?_)))
   have j1:∀ m y4 a w,St 82 m b0 [(11,(.i y4)),(10,(.i y2)),(0,(.s ch_0_0 ch_0_1 ch_0_2)),(2,(.i x3)),(3,(.i x4)),(4,(.v (.func (.func g.fc) #[] #[])))] [Res.row g.T g.e ch_0_0 ch_0_1 ch_0_2 y1] a w→fc0_.j1 g k x4 y1 y2 (fc0_.l1 g k x3 x4 q1) y4=some r→K1 a w:=by
    intro m y4 a w S h0
    delta fc0_.j1 at h0
    refine hK1 a w (wp_seq ?_)
    have hS:=S.rowx (fun _=> .h)
    clear S; obtain ⟨cs1,S⟩:=hS
    refine wp_seq (c_hS S (.tk 0 13 (.alts (.run 13 true (.take 14 (.take 15 .done)) .nil))) 16 (.c0 .n) ⟨Res.stay_rowx,tv⟩ [(11,(.i y4)),(10,(.i y2)),(0,(.s ch_0_0 ch_0_1 ch_0_2)),(3,(.i x4)),(4,(.v (.func (.func g.fc) #[] #[])))] rfl (by kernel_rfl) ?_); clear S; intro w S CL hw le
    refine h_mv4 S CL hw le rfl tv tv tv tv fun a S CL=>h_bin S CL hw le (subR rfl) rfl rfl rfl rfl rfl tv fun a S CL=>?_
    obtain ⟨c2,h1⟩:=chk_of h0; clear h0
    refine h_iaddrX S CL hw le (subR rfl) (ty':=g.T) rfl .h rfl h.hU h.hT c2.1 c2.2 rfl rfl tv fun g1 a hA1 S CL=>h_ldXW S CL hw le (subR rfl) (i:=(wr .i64 (x4+y2))) rfl hA1 .h h.hT c2.1 c2.2 rfl rfl rfl tv fun ch1 a S CL=>h_mv3 S CL hw le rfl tv tv tv fun a S CL=>h_bin S CL hw le (subR rfl) rfl rfl rfl rfl rfl tv fun a S CL=>?_
    obtain ⟨c3,h2⟩:=chk_of h1; clear h1
    refine h_iaddrX S CL hw le (subR rfl) (ty':=g.T) rfl .h rfl h.hU h.hT c3.1 c3.2 rfl rfl tv fun g2 a hA2 S CL=>h_ldXW S CL hw le (subR rfl) (i:=(wr .i64 (x4+y4))) rfl hA2 .h h.hT c3.1 c3.2 rfl rfl rfl tv fun ch2 a S CL=>h_run' S rfl tv (bindX h2 fun t1 et1 h3=>s_callK S (h.hcmp et1) h.nc rfl .pre (fun _=> .n) rfl fun ch3 m le1 a w S=>?_)
    replace le:=le.trans le1
    refine CL.bk hw S (.c0 .n) le fun hw=>?_
    replace CL:=CL.add (t:=56) (d:=(.i t1)) S rfl rfl
    refine h_bin S CL hw le (subR rfl) rfl rfl rfl rfl rfl tv fun a S CL=>h_not S CL hw le (subR rfl) rfl rfl rfl tv fun a S CL=>?_
    refine h_done ?_; clear CL hw le
    replace S:=S.rowu .h
    refine x_thenN ?_
    rcases ite_of h3 with ⟨c4,h4⟩ | ⟨c4,h4⟩
    ·refine c_condT S rfl c4 (wp_ret (x_thenR (x_blockR (x_thenR (x_blockR ?_)))))
     obtain rfl:=sI h4
     exact b_ret0 S rfl (S.retX (Hx:=[]) hb _ _ (():Unit) (.c0 .n) tv)
    ·refine c_condF S rfl c4 (wp_skip (x_thenN ?_))
     have hS:=S.rowx (fun _=> .h)
     clear S; obtain ⟨cs2,S⟩:=hS
     refine wp_seq (c_hS S (.tk 0 4 (.tk 8 13 (.pure 4 (.pure 5 (.pure 6 (.pure 7 (.alts (.run 21 false (.alts (.run 22 false (.alts (.run 23 false .done .nil)) .nil)) .nil)))))))) 21 (.c0 .n) ⟨Res.stay_rowx,tv⟩ [(11,(.i y4)),(10,(.i y2)),(0,(.s ch_0_0 ch_0_1 ch_0_2)),(3,(.i x4))] rfl (by kernel_rfl) ?_); clear S; intro w S CL hw le
     refine h_mv3 S CL hw le rfl tv tv tv fun a S CL=>h_bin S CL hw le (subR rfl) rfl rfl rfl rfl rfl tv fun a S CL=>h_mv3 S CL hw le rfl tv tv tv fun a S CL=>h_bin S CL hw le (subR rfl) rfl rfl rfl rfl rfl tv fun a S CL=>h_iaddrX S CL hw le (subR rfl) (ty':=g.T) rfl .h rfl h.hU h.hT c3.1 c3.2 rfl rfl tv fun g3 a hA3 S CL=>h_ldXW S CL hw le (subR rfl) (i:=(wr .i64 (x4+y4))) rfl hA3 .h h.hT c3.1 c3.2 rfl rfl rfl tv fun ch4 a S CL=>h_mv3 S CL hw le rfl tv tv tv fun a S CL=>h_bin S CL hw le (subR rfl) rfl rfl rfl rfl rfl tv fun a S CL=>h_iaddrX S CL hw le (subR rfl) (ty':=g.T) rfl .h rfl h.hU h.hT c2.1 c2.2 rfl rfl tv fun g4 a hA4 S CL=>h_ldXW S CL hw le (subR rfl) (i:=(wr .i64 (x4+y2))) rfl hA4 .h h.hT c2.1 c2.2 rfl rfl rfl tv fun ch5 a S CL=>h_iaddrX S CL hw le (subR rfl) (ty':=g.T) rfl .h rfl h.hU h.hT c2.1 c2.2 rfl rfl tv fun g5 a hA5 S CL=>p_move S rfl rfl rfl tv fun a S=>p_move S rfl rfl rfl tv fun a S=>p_move S rfl rfl rfl tv fun a S=>p_bin S rfl rfl rfl rfl rfl tv fun a S=>h_run' S rfl tv ?_
     replace S:=S.rowu .h
     refine s_stRW S (i:=(wr .i64 (x4+y2))) (u:=gt y1 (wr .i64 (x4+y4))) (cu:=ch4) rfl rfl hA5 .h h.hT c2.1 c2.2 rfl fun w S=>?_
     refine h_back ⟨fun h=>(nomatch h),?_⟩
     refine h_run' S rfl tv ?_
     obtain ⟨c5,h5⟩:=chk_of h4; clear h4
     refine s_iaddrO S (ty':=g.T) rfl .h rfl h.hU h.hT c5.1 c5.2 rfl fun g6 a hA6 S=>?_
     refine h_back ⟨fun h=>(nomatch h),?_⟩
     refine h_run' S rfl tv (s_stRW S (i:=(wr .i64 (x4+y4))) (u:=gt y1 (wr .i64 (x4+y2))) (cu:=ch5) rfl rfl hA6 .h h.hT c5.1 c5.2 rfl fun w S=>?_)
     refine h_back ⟨fun h=>(nomatch h),?_⟩
     refine h_done ?_; clear CL hw le
     refine x_thenN (c_region' (s_mv1 S rfl fun a S=>s_as1 S rfl fun a S=>c_end' (x_blockN (x_thenN ?_))))
     exact ⟨_,((y1.set (Int.toNat (wr .i64 (x4+y2))) (gt y1 (wr .i64 (x4+y4)))).set (Int.toNat (wr .i64 (x4+y4))) (gt y1 (wr .i64 (x4+y2)))),y4,(S.sb rfl (.c0 .n)),h5⟩
   refine wp_seq_k fun K2 hK2=>?_
   have j2:∀ m y5 a w,St 82 m b0 [(40,(.b y5)),(11,(.i (wr .i64 ((wr .i64 (2*y2))+1)))),(10,(.i y2)),(0,(.s ch_0_0 ch_0_1 ch_0_2)),(2,(.i x3)),(3,(.i x4)),(4,(.v (.func (.func g.fc) #[] #[])))] [Res.row g.T g.e ch_0_0 ch_0_1 ch_0_2 y1] a w→fc0_.j2 g k x4 y1 y2 (fc0_.l1 g k x3 x4 q1) y5=some r→K2 a w:=by
    intro m y5 a w S h0
    delta fc0_.j2 at h0
    refine hK2 a w ?_
    rcases ite_of h0 with ⟨c6,h1⟩ | ⟨c6,h1⟩
    ·refine c_condT S rfl c6 (c_region' (s_mv1 S rfl fun a S=>s_bi S rfl fun a S=>s_as1 S rfl fun a S=>c_end' (x_thenN ?_)))
     exact j1 _ (wr .i64 ((wr .i64 ((wr .i64 (2*y2))+1))+1)) a w (S.sb rfl (.c0 .n)) h1
    ·refine c_condF S rfl c6 (wp_skip (x_thenN ?_))
     exact j1 _ (wr .i64 ((wr .i64 (2*y2))+1)) a w (S.sb rfl (.c0 .n)) h1
   have hS:=S.rowx (fun _=> .h)
   clear S; obtain ⟨cs3,S⟩:=hS
   refine c_hS S (.tk 0 19 (.alts (.run 19 true (.take 20 (.take 21 .done)) .nil))) 22 (.c0 .n) ⟨Res.stay_rowx,tv⟩ [(11,(.i (wr .i64 ((wr .i64 (2*y2))+1)))),(0,(.s ch_0_0 ch_0_1 ch_0_2)),(2,(.i x3)),(3,(.i x4)),(4,(.v (.func (.func g.fc) #[] #[])))] rfl (by kernel_rfl) fun w S CL hw le=>?_
   refine h_mv1 S CL hw le rfl tv fun a S CL=>h_bin S CL hw le (subR rfl) rfl rfl rfl rfl rfl tv fun a S CL=>h_mv1 S CL hw le rfl tv fun a S CL=>h_bin S CL hw le (subR rfl) rfl rfl rfl rfl rfl tv fun a S CL=>h_mv1 S CL hw le rfl tv fun a S CL=>?_
   rcases ite_of h1 with ⟨c7,h2⟩ | ⟨c7,h2⟩
   ·refine h_mv4 S CL hw le rfl ⟨_,_,rfl,rfl,c7⟩ ⟨_,_,rfl,rfl,c7⟩ ⟨_,_,rfl,rfl,c7⟩ ⟨_,_,rfl,rfl,c7⟩ fun a S CL=>h_bin S CL hw le (subR rfl) rfl rfl rfl rfl rfl ⟨_,_,rfl,rfl,c7⟩ fun a S CL=>?_
    obtain ⟨c8,h3⟩:=chk_of h2; clear h2
    refine h_iaddrX S CL hw le (subR rfl) (ty':=g.T) rfl .h rfl h.hU h.hT c8.1 c8.2 rfl rfl ⟨_,_,rfl,rfl,c7⟩ fun g9 a hA7 S CL=>h_ldXW S CL hw le (subR rfl) (i:=(wr .i64 (x4+(wr .i64 ((wr .i64 (2*y2))+1))))) rfl hA7 .h h.hT c8.1 c8.2 rfl rfl rfl ⟨_,_,rfl,rfl,c7⟩ fun ch8 a S CL=>h_mv3 S CL hw le rfl ⟨_,_,rfl,rfl,c7⟩ ⟨_,_,rfl,rfl,c7⟩ ⟨_,_,rfl,rfl,c7⟩ fun a S CL=>h_bin S CL hw le (subR rfl) rfl rfl rfl rfl rfl ⟨_,_,rfl,rfl,c7⟩ fun a S CL=>h_bin S CL hw le (subR rfl) rfl rfl rfl rfl rfl ⟨_,_,rfl,rfl,c7⟩ fun a S CL=>?_
    obtain ⟨c9,h4⟩:=chk_of h3; clear h3
    refine h_iaddrX S CL hw le (subR rfl) (ty':=g.T) rfl .h rfl h.hU h.hT c9.1 c9.2 rfl rfl ⟨_,_,rfl,rfl,c7⟩ fun g10 a hA8 S CL=>h_ldXW S CL hw le (subR rfl) (i:=(wr .i64 ((wr .i64 (x4+(wr .i64 ((wr .i64 (2*y2))+1))))+1))) rfl hA8 .h h.hT c9.1 c9.2 rfl rfl rfl ⟨_,_,rfl,rfl,c7⟩ fun ch9 a S CL=>h_run' S rfl ⟨_,_,rfl,rfl,c7⟩ (bindX h4 fun t3 et3 h5=>s_callK S (h.hcmp et3) h.nc rfl .pre (fun _=> .n) rfl fun ch10 m le1 a w S=>?_)
    replace le:=le.trans le1
    refine CL.bk hw S (.c0 .n) le fun hw=>?_
    replace CL:=CL.add (t:=38) (d:=(.i t3)) S rfl rfl
    refine h_bin S CL hw le (subR rfl) rfl rfl rfl rfl rfl ⟨_,_,rfl,rfl,c7⟩ fun a S CL=>h_pick S CL hw le (subR rfl) (b:=true) (hc_of rfl c7) rfl rfl rfl tv fun a S CL=>?_
    refine h_done ?_; clear CL hw le
    replace S:=S.rowu .h
    refine x_thenN ?_
    exact j2 _ (decide (t3<0)) a w (S.sb rfl (.c0 .n)) h5
   ·refine h_sk8 S CL rfl (ne_bool c7) fun a S CL=>h_sk4 S CL rfl (ne_bool c7) fun a S CL=>h_sk2 S CL rfl (ne_bool c7) fun a S CL=>h_skipRt S rfl rfl rfl (ne_bool c7) rfl fun a S=>CL.bk hw S (.c0 .n) le fun hw=>?_
    replace CL:=CL.add (t:=38) (d:= .u) S rfl rfl
    refine h_sk1 S CL rfl (ne_bool c7) fun a S CL=>h_pick S CL hw le (subR rfl) (b:=false) (hc_of rfl c7) rfl rfl rfl tv fun a S CL=>?_
    refine h_done ?_; clear CL hw le
    replace S:=S.rowu .h
    refine x_thenN ?_
    exact j2 _ false a w (S.sb rfl (.c0 .n)) h2
abbrev fc1_.Ty (g:SortG):Type:=(List g.α)→Int→Int→Option (List g.α)
def fc1_.Ctr (g:SortG)(s:fc1_.Ty g):Prop:=∀ {x1:List g.α} {x2:Int} {x3:Int} {ch_0_0:Option Addr} {ch_0_1:Nat} {ch_0_2:Nat} {r:List g.α} (h0:s x1 x2 x3=some r) {mi:Mem} {w0:World},CtrB Try.prog (g.φ 68) [(.s ch_0_0 ch_0_1 ch_0_2),(.i x2),(.i x3),(.v (.func (.func g.fc) #[] #[]))] [Res.row g.T g.e ch_0_0 ch_0_1 ch_0_2 x1] (fun (ch:Unit)=>((.tup []):D)) (fun (ch:Unit)=>[Res.row g.T g.e ch_0_0 ch_0_1 ch_0_2 r]) mi w0
def fc1_.b1 (g:SortG)(k:Nat)(x2:Int)(rec1:(List g.α)→Int→Option (List g.α))(y4:List g.α)(y5:Int):Option (List g.α):=if (decide (0≤y5))=true then (if (0:Int)≤(wr .i64 (x2+y5))∧(wr .i64 (x2+y5))<((y4).length:Int) then (if (0:Int)≤x2∧x2<((y4).length:Int) then (if (0:Int)≤(wr .i64 (x2+y5))∧(wr .i64 (x2+y5))<((y4.set (Int.toNat x2) (gt y4 (wr .i64 (x2+y5)))).length:Int) then ((fc0_.f g k ((y4.set (Int.toNat x2) (gt y4 (wr .i64 (x2+y5)))).set (Int.toNat (wr .i64 (x2+y5))) (gt y4 x2)) 0 y5 x2).bind fun t1=>(rec1 t1 (wr .i64 (y5 - 1)))) else none) else none) else none) else (some y4)
def fc1_.l1 (g:SortG)(k:Nat)(x2:Int):Nat→(List g.α)→Int→Option (List g.α)
  | 0,_,_=>none
  | q+1,y4,y5=>fc1_.b1 g k x2 (fc1_.l1 g k x2 q) y4 y5
def fc1_.j1 (g:SortG)(k:Nat)(x2:Int)(x3:Int)(y1:List g.α):Option (List g.α):=fc1_.l1 g k x2 k y1 (wr .i64 ((wr .i64 (x3 - x2)) - 1))
def fc1_.b2 (g:SortG)(k:Nat)(x2:Int)(x3:Int)(rec2:(List g.α)→Int→Option (List g.α))(y8:List g.α)(y9:Int):Option (List g.α):=if (decide (0≤y9))=true then ((fc0_.f g k y8 y9 (wr .i64 (x3 - x2)) x2).bind fun t4=>(rec2 t4 (wr .i64 (y9 - 1)))) else (fc1_.j1 g k x2 x3 y8)
def fc1_.l2 (g:SortG)(k:Nat)(x2:Int)(x3:Int):Nat→(List g.α)→Int→Option (List g.α)
  | 0,_,_=>none
  | q+1,y8,y9=>fc1_.b2 g k x2 x3 (fc1_.l2 g k x2 x3 q) y8 y9
def fc1_.f (g:SortG)(k:Nat)(x1:List g.α)(x2:Int)(x3:Int):Option (List g.α):=fc1_.l2 g k x2 x3 k x1 (wr .i64 (Int.tdiv (wr .i64 ((wr .i64 (x3 - x2)) - 1)) 2))
theorem fc1_.ok (g:SortG)(h:SortG.Ok g)(k:Nat):fc1_.Ctr g (fc1_.f g k):=by
 intro x1 x2 x3 ch_0_0 ch_0_1 ch_0_2 r h0 mi w0 ok hm
 delta fc1_.f at h0
 refine c_enterG (n:=60) [(.s ch_0_0 ch_0_1 ch_0_2),(.i x2),(.i x3),(.v (.func (.func g.fc) #[] #[]))] (l:=[(0,(.s ch_0_0 ch_0_1 ch_0_2)),(1,(.i x2)),(2,(.i x3)),(3,(.v (.func (.func g.fc) #[] #[])))]) h.n68 rfl rfl rfl ok hm ?_
 clear ok hm
 intro b0 hb a S
 refine c_region (s_mv1 S rfl fun a S=>s_as1 S rfl fun a S=>c_end (c_region (s_as1 S rfl fun a S=>c_end (c_region (s_mv2 S rfl fun a S=>s_bi S rfl fun a S=>s_as1 S rfl fun a S=>c_end (wp_seq_k fun K1 hK1=>?_))))))
 have j1:∀ m y1 a w,St 60 m b0 [(10,(.i (wr .i64 (x3 - x2)))),(9,(.i 0)),(8,(.i x2)),(0,(.s ch_0_0 ch_0_1 ch_0_2)),(3,(.v (.func (.func g.fc) #[] #[])))] [Res.row g.T g.e ch_0_0 ch_0_1 ch_0_2 y1] a w→fc1_.j1 g k x2 x3 y1=some r→K1 a w:=by
  intro m y1 a w S h0
  delta fc1_.j1 at h0
  refine hK1 a w (c_region (s_mv1 S rfl fun a S=>s_bi S rfl fun a S=>s_as1 S rfl fun a S=>c_end (wp_block ?_)))
  refine c_loop (fun q1 a w=>∃ m y4 y5,St 60 m b0 [(12,(.i y5)),(9,(.i 0)),(8,(.i x2)),(0,(.s ch_0_0 ch_0_1 ch_0_2)),(3,(.v (.func (.func g.fc) #[] #[])))] [Res.row g.T g.e ch_0_0 ch_0_1 ch_0_2 y4] a w∧fc1_.l1 g k x2 q1 y4 y5=some r) ?_ ?_ (k:=k) ⟨_,y1,(wr .i64 ((wr .i64 (x3 - x2)) - 1)),(S.sb rfl (.c0 .n)),h0⟩
  ·rintro a w ⟨m,y4,y5,S,h0⟩
   exact (nomatch (show (none:Option (List g.α))=some r from h0))
  ·clear S h0
   rintro q1 a w ⟨m,y4,y5,S,h0⟩
   replace h0:fc1_.b1 g k x2 (fc1_.l1 g k x2 q1) y4 y5=some r:=h0
   delta fc1_.b1 at h0
   refine wp_seq (c_region (s_mv1 S rfl fun a S=>s_bi S rfl fun a S=>c_end ?_))
   rcases ite_of h0 with ⟨c1,h1⟩ | ⟨c1,h1⟩
   ·refine c_condT S rfl c1 (wp_skip (x_thenN (wp_seq (wp_block ?_))))
    have hS:=S.rowx (fun _=> .h)
    clear S; obtain ⟨cs1,S⟩:=hS
    refine wp_seq (c_hS S (.take 0 (.take 1 (.tk 6 11 (.pure 2 (.pure 3 (.pure 4 (.pure 5 (.alts (.run 17 false (.alts (.run 18 false (.alts (.run 19 false .done .nil)) .nil)) .nil))))))))) 17 (.c0 .n) ⟨Res.stay_rowx,tv⟩ [(12,(.i y5)),(8,(.i x2)),(0,(.s ch_0_0 ch_0_1 ch_0_2))] rfl (by kernel_rfl) ?_); clear S; intro w S CL hw le
    refine h_mv4 S CL hw le rfl tv tv tv tv fun a S CL=>h_mv1 S CL hw le rfl tv fun a S CL=>h_bin S CL hw le (subR rfl) rfl rfl rfl rfl rfl tv fun a S CL=>?_
    obtain ⟨c2,h2⟩:=chk_of h1; clear h1
    refine h_iaddrX S CL hw le (subR rfl) (ty':=g.T) rfl .h rfl h.hU h.hT c2.1 c2.2 rfl rfl tv fun g1 a hA1 S CL=>h_ldXW S CL hw le (subR rfl) (i:=(wr .i64 (x2+y5))) rfl hA1 .h h.hT c2.1 c2.2 rfl rfl rfl tv fun ch1 a S CL=>h_mv2 S CL hw le rfl tv tv fun a S CL=>?_
    obtain ⟨c3,h3⟩:=chk_of h2; clear h2
    refine h_iaddrX S CL hw le (subR rfl) (ty':=g.T) rfl .h rfl h.hU h.hT c3.1 c3.2 rfl rfl tv fun g2 a hA2 S CL=>h_ldXW S CL hw le (subR rfl) (i:=x2) rfl hA2 .h h.hT c3.1 c3.2 rfl rfl rfl tv fun ch2 a S CL=>h_iaddrX S CL hw le (subR rfl) (ty':=g.T) rfl .h rfl h.hU h.hT c3.1 c3.2 rfl rfl tv fun g3 a hA3 S CL=>p_move S rfl rfl rfl tv fun a S=>p_move S rfl rfl rfl tv fun a S=>p_move S rfl rfl rfl tv fun a S=>p_bin S rfl rfl rfl rfl rfl tv fun a S=>h_run' S rfl tv ?_
    replace S:=S.rowu .h
    refine s_stRW S (i:=x2) (u:=gt y4 (wr .i64 (x2+y5))) (cu:=ch1) rfl rfl hA3 .h h.hT c3.1 c3.2 rfl fun w S=>?_
    refine h_back ⟨fun h=>(nomatch h),?_⟩
    refine h_run' S rfl tv ?_
    obtain ⟨c4,h4⟩:=chk_of h3; clear h3
    refine s_iaddrO S (ty':=g.T) rfl .h rfl h.hU h.hT c4.1 c4.2 rfl fun g4 a hA4 S=>?_
    refine h_back ⟨fun h=>(nomatch h),?_⟩
    refine h_run' S rfl tv (s_stRW S (i:=(wr .i64 (x2+y5))) (u:=gt y4 x2) (cu:=ch2) rfl rfl hA4 .h h.hT c4.1 c4.2 rfl fun w S=>?_)
    refine h_back ⟨fun h=>(nomatch h),?_⟩
    refine h_done ?_; clear CL hw le
    refine x_thenN (c_region' (s_mv5 S rfl fun a S=>bindX h4 fun t1 et1 h5=>s_callK S (fc0_.ok g h k et1) h.n80.fn rfl .pre (fun _=> .c1) rfl fun ch3 m le1 a w S=>c_end' (x_blockN (x_thenN (c_region' (s_mv1 S rfl fun a S=>s_bi S rfl fun a S=>s_as1 S rfl fun a S=>c_end' (x_thenN ?_)))))))
    exact ⟨_,t1,(wr .i64 (y5 - 1)),(S.sb rfl (.c0 .n)),h5⟩
   ·refine c_condF S rfl c1 (wp_exit (x_thenX (x_thenX (x_blockX (b_end ?_)))))
    obtain rfl:=sI h1
    exact b_ret0 S rfl (S.retX (Hx:=[]) hb _ _ (():Unit) (.c0 .n) tv)
 refine c_region (s_mv1 S rfl fun a S=>s_bi S rfl fun a S=>s_quo S rfl rfl (by decide) rfl fun a S=>s_as1 S rfl fun a S=>c_end (wp_block ?_))
 refine c_loop (fun q2 a w=>∃ m y8 y9,St 60 m b0 [(11,(.i y9)),(10,(.i (wr .i64 (x3 - x2)))),(9,(.i 0)),(8,(.i x2)),(0,(.s ch_0_0 ch_0_1 ch_0_2)),(3,(.v (.func (.func g.fc) #[] #[])))] [Res.row g.T g.e ch_0_0 ch_0_1 ch_0_2 y8] a w∧fc1_.l2 g k x2 x3 q2 y8 y9=some r) ?_ ?_ (k:=k) ⟨_,x1,(wr .i64 (Int.tdiv (wr .i64 ((wr .i64 (x3 - x2)) - 1)) 2)),(S.sb rfl (.c0 .n)),h0⟩
 ·rintro a w ⟨m,y8,y9,S,h0⟩
  exact (nomatch (show (none:Option (List g.α))=some r from h0))
 ·clear S h0
  rintro q2 a w ⟨m,y8,y9,S,h0⟩
  replace h0:fc1_.b2 g k x2 x3 (fc1_.l2 g k x2 x3 q2) y8 y9=some r:=h0
  delta fc1_.b2 at h0
  refine wp_seq (c_region (s_mv1 S rfl fun a S=>s_bi S rfl fun a S=>c_end ?_))
  rcases ite_of h0 with ⟨c5,h1⟩ | ⟨c5,h1⟩
  ·refine c_condT S rfl c5 (wp_skip (x_thenN (wp_seq (wp_block (c_region' (s_mv5 S rfl fun a S=>bindX h1 fun t4 et4 h2=>s_callK S (fc0_.ok g h k et4) h.n80.fn rfl .pre (fun _=> .c1) rfl fun ch4 m le1 a w S=>c_end' (x_blockN (x_thenN (c_region' (s_mv1 S rfl fun a S=>s_bi S rfl fun a S=>s_as1 S rfl fun a S=>c_end' (x_thenN ?_)))))))))))
   exact ⟨_,t4,(wr .i64 (y9 - 1)),(S.sb rfl (.c0 .n)),h2⟩
  ·refine c_condF S rfl c5 (wp_exit (x_thenX (x_thenX (x_blockX (x_thenN ?_)))))
   exact j1 _ y8 a w (S.sb rfl (.c0 .n)) h1
abbrev fd0_.Ty (g:SortG):Type:=(List g.α)→Int→Int→Int→Option (Int×Int×Int)
def fd0_.Ctr (g:SortG)(s:fd0_.Ty g):Prop:=∀ {x1:List g.α} {x2:Int} {x3:Int} {x4:Int} {ch_0_0:Option Addr} {ch_0_1:Nat} {ch_0_2:Nat} {ch_3_0:Nat} {r:Int×Int×Int} (h0:s x1 x2 x3 x4=some r) {mi:Mem} {w0:World},CtrB Try.prog (g.φ 84) [(.s ch_0_0 ch_0_1 ch_0_2),(.i x2),(.i x3),(.p ch_3_0),(.v (.func (.func g.fc) #[] #[]))] [Res.row g.T g.e ch_0_0 ch_0_1 ch_0_2 x1,Res.cells ch_3_0 3 [.i x4]] (fun (ch:Unit)=>((.tup [(false,[.i r.1]),(false,[.i r.2.1])]):D)) (fun (ch:Unit)=>[Res.row g.T g.e ch_0_0 ch_0_1 ch_0_2 x1,Res.cells ch_3_0 3 [.i r.t2]]) mi w0
def fd0_.f (g:SortG)(k:Nat)(x1:List g.α)(x2:Int)(x3:Int)(x4:Int):Option (Int×Int×Int):=if (0:Int)≤x3∧x3<((x1).length:Int) then (if (0:Int)≤x2∧x2<((x1).length:Int) then ((g.cmp k (gt x1 x3) (gt x1 x2)).bind fun t1=>(if (decide (t1<0))=true then (some (x3,x2,wr .i64 (x4+1))) else (some (x2,x3,x4)))) else none) else none
theorem fd0_.ok (g:SortG)(h:SortG.Ok g)(k:Nat):fd0_.Ctr g (fd0_.f g k):=by
 intro x1 x2 x3 x4 ch_0_0 ch_0_1 ch_0_2 ch_3_0 r h0 mi w0 ok hm
 delta fd0_.f at h0
 refine c_enterG (n:=32) [(.s ch_0_0 ch_0_1 ch_0_2),(.i x2),(.i x3),(.p ch_3_0),(.v (.func (.func g.fc) #[] #[]))] (l:=[(0,(.s ch_0_0 ch_0_1 ch_0_2)),(1,(.i x2)),(2,(.i x3)),(3,(.p ch_3_0)),(4,(.v (.func (.func g.fc) #[] #[])))]) h.n84 rfl rfl rfl ok hm ?_
 clear ok hm
 intro b0 hb a S
 refine c_region (s_as2 S rfl fun a S=>c_end (wp_seq ?_))
 have hS:=S.rowx (fun _=> .h)
 clear S; obtain ⟨cs1,S⟩:=hS
 refine wp_seq (c_hS S (.tk 0 9 (.alts (.run 9 true (.take 10 .done) .nil))) 11 (.c0 .n) ⟨Res.stay_rowx,tv⟩ [(0,(.s ch_0_0 ch_0_1 ch_0_2)),(1,(.i x2)),(2,(.i x3)),(4,(.v (.func (.func g.fc) #[] #[])))] rfl (by kernel_rfl) ?_); clear S; intro w S CL hw le
 refine h_mv3 S CL hw le rfl tv tv tv fun a S CL=>?_
 obtain ⟨c1,h1⟩:=chk_of h0; clear h0
 refine h_iaddrX S CL hw le (subR rfl) (ty':=g.T) rfl .h rfl h.hU h.hT c1.1 c1.2 rfl rfl tv fun g1 a hA1 S CL=>h_ldXW S CL hw le (subR rfl) (i:=x3) rfl hA1 .h h.hT c1.1 c1.2 rfl rfl rfl tv fun ch1 a S CL=>h_mv2 S CL hw le rfl tv tv fun a S CL=>?_
 obtain ⟨c2,h2⟩:=chk_of h1; clear h1
 refine h_iaddrX S CL hw le (subR rfl) (ty':=g.T) rfl .h rfl h.hU h.hT c2.1 c2.2 rfl rfl tv fun g2 a hA2 S CL=>h_ldXW S CL hw le (subR rfl) (i:=x2) rfl hA2 .h h.hT c2.1 c2.2 rfl rfl rfl tv fun ch2 a S CL=>h_run' S rfl tv (bindX h2 fun t1 et1 h3=>s_callK S (h.hcmp et1) h.nc rfl .pre (fun _=> .n) rfl fun ch3 m le1 a w S=>?_)
 replace le:=le.trans le1
 refine CL.bk hw S (.c0 .n) le fun hw=>?_
 replace CL:=CL.add (t:=21) (d:=(.i t1)) S rfl rfl
 refine h_bin S CL hw le (subR rfl) rfl rfl rfl rfl rfl tv fun a S CL=>?_
 refine h_done ?_; clear CL hw le
 replace S:=S.rowu .h
 refine x_thenN ?_
 rcases ite_of h3 with ⟨c3,h4⟩ | ⟨c3,h4⟩
 ·refine c_condT S rfl c3 (c_region (s_mv1 S rfl fun a S=>s_nilchk S rfl rfl fun a S=>s_load1 S rfl .h1 T3 (v:=(.int .i64 x4)) rfl rfl fun a S=>s_bi S rfl fun a S=>s_nilchk S rfl rfl fun a S=>s_storeJ S 0 rfl rfl rfl rfl .h1 T3 rfl rfl fun w S=>c_end (c_region (s_mv2 S rfl fun a S=>s_as2 S rfl fun a S=>c_end (wp_ret (x_thenR ?_))))))
  obtain rfl:=sI h4
  exact b_ret2 (d1:=(.i x3)) (d2:=(.i x2)) S rfl rfl rfl fun ok1 ok2=>S.retX (Hx:=[]) hb _ _ (():Unit) (.c0 (.c0 .n)) ⟨⟨ok1,tv⟩,⟨ok2,tv⟩,tv⟩
 ·refine c_condF S rfl c3 (wp_skip (x_thenN (c_region (s_mv2 S rfl fun a S=>s_as2 S rfl fun a S=>c_end (wp_ret ?_)))))
  obtain rfl:=sI h4
  exact b_ret2 (d1:=(.i x2)) (d2:=(.i x3)) S rfl rfl rfl fun ok1 ok2=>S.retX (Hx:=[]) hb _ _ (():Unit) (.c0 (.c0 .n)) ⟨⟨ok1,tv⟩,⟨ok2,tv⟩,tv⟩
abbrev fd2_.Ty (g:SortG):Type:=(List g.α)→Int→Int→Int→Int→Option (Int×Int)
def fd2_.Ctr (g:SortG)(s:fd2_.Ty g):Prop:=∀ {x1:List g.α} {x2:Int} {x3:Int} {x4:Int} {x5:Int} {ch_0_0:Option Addr} {ch_0_1:Nat} {ch_0_2:Nat} {ch_4_0:Nat} {r:Int×Int} (h0:s x1 x2 x3 x4 x5=some r) {mi:Mem} {w0:World},CtrB Try.prog (g.φ 82) [(.s ch_0_0 ch_0_1 ch_0_2),(.i x2),(.i x3),(.i x4),(.p ch_4_0),(.v (.func (.func g.fc) #[] #[]))] [Res.row g.T g.e ch_0_0 ch_0_1 ch_0_2 x1,Res.cells ch_4_0 3 [.i x5]] (fun (ch:Unit)=>((.i r.1):D)) (fun (ch:Unit)=>[Res.row g.T g.e ch_0_0 ch_0_1 ch_0_2 x1,Res.cells ch_4_0 3 [.i r.2]]) mi w0
def fd2_.f (g:SortG)(k:Nat)(x1:List g.α)(x2:Int)(x3:Int)(x4:Int)(x5:Int):Option (Int×Int):=(fd0_.f g k x1 x2 x3 x5).bind fun t1=>((fd0_.f g k x1 t1.2.1 x4 t1.2.2).bind fun t2=>((fd0_.f g k x1 t1.1 t2.1 t2.2.2).bind fun t3=>(some (t3.2.1,t3.2.2))))
theorem fd2_.ok (g:SortG)(h:SortG.Ok g)(k:Nat):fd2_.Ctr g (fd2_.f g k):=by
 intro x1 x2 x3 x4 x5 ch_0_0 ch_0_1 ch_0_2 ch_4_0 r h0 mi w0 ok hm
 delta fd2_.f at h0
 refine c_enterG (n:=41) [(.s ch_0_0 ch_0_1 ch_0_2),(.i x2),(.i x3),(.i x4),(.p ch_4_0),(.v (.func (.func g.fc) #[] #[]))] (l:=[(0,(.s ch_0_0 ch_0_1 ch_0_2)),(1,(.i x2)),(2,(.i x3)),(3,(.i x4)),(4,(.p ch_4_0)),(5,(.v (.func (.func g.fc) #[] #[])))]) h.n82 rfl rfl rfl ok hm ?_
 clear ok hm
 intro b0 hb a S
 refine c_region (s_as1 S rfl fun a S=>c_end (c_region (s_mv5 S rfl fun a S=>bindX h0 fun t1 et1 h1=>s_callK S (fd0_.ok g h k et1) h.n84.fn rfl .pre (fun _=> .c2) rfl fun ch1 m le1 a w S=>s_mv1 S rfl fun a S=>s_extract S rfl rfl rfl rfl fun a S=>s_extract S rfl rfl rfl rfl fun a S=>s_as2 S rfl fun a S=>c_end (c_region (s_mv5 S rfl fun a S=>bindX h1 fun t2 et2 h2=>s_callK S (fd0_.ok g h k et2) h.n84.fn rfl .pre (fun _=> .c2) rfl fun ch2 m le1 a w S=>s_mv1 S rfl fun a S=>s_extract S rfl rfl rfl rfl fun a S=>s_extract S rfl rfl rfl rfl fun a S=>s_as2 S rfl fun a S=>c_end (c_region (s_mv5 S rfl fun a S=>bindX h2 fun t3 et3 h3=>s_callK S (fd0_.ok g h k et3) h.n84.fn rfl .pre (fun _=> .c2) rfl fun ch3 m le1 a w S=>s_mv1 S rfl fun a S=>s_extract S rfl rfl rfl rfl fun a S=>s_extract S rfl rfl rfl rfl fun a S=>s_as2 S rfl fun a S=>c_end (c_region (s_mv1 S rfl fun a S=>s_as1 S rfl fun a S=>c_end (wp_ret ?_))))))))))
 obtain rfl:=sI h3
 exact b_ret1 (d:=(.i t3.2.1)) S rfl rfl fun ok=>S.retX (Hx:=[]) hb _ _ (():Unit) (.c0 (.c0 .n)) ok
abbrev fa1_.Ty (g:SortG):Type:=(List g.α)→Int→Int→Option (Int×Int)
def fa1_.Ctr (g:SortG)(s:fa1_.Ty g):Prop:=∀ {x1:List g.α} {x2:Int} {x3:Int} {ch_0_0:Option Addr} {ch_0_1:Nat} {ch_0_2:Nat} {ch_2_0:Nat} {r:Int×Int} (h0:s x1 x2 x3=some r) {mi:Mem} {w0:World},CtrB Try.prog (g.φ 81) [(.s ch_0_0 ch_0_1 ch_0_2),(.i x2),(.p ch_2_0),(.v (.func (.func g.fc) #[] #[]))] [Res.row g.T g.e ch_0_0 ch_0_1 ch_0_2 x1,Res.cells ch_2_0 3 [.i x3]] (fun (ch:Unit)=>((.i r.1):D)) (fun (ch:Unit)=>[Res.row g.T g.e ch_0_0 ch_0_1 ch_0_2 x1,Res.cells ch_2_0 3 [.i r.2]]) mi w0
def fa1_.f (g:SortG)(k:Nat)(x1:List g.α)(x2:Int)(x3:Int):Option (Int×Int):=(fd2_.f g k x1 (wr .i64 (x2 - 1)) x2 (wr .i64 (x2+1)) x3).bind fun t1=>(some (t1.1,t1.2))
theorem fa1_.ok (g:SortG)(h:SortG.Ok g)(k:Nat):fa1_.Ctr g (fa1_.f g k):=by
 intro x1 x2 x3 ch_0_0 ch_0_1 ch_0_2 ch_2_0 r h0 mi w0 ok hm
 delta fa1_.f at h0
 refine c_enterG (n:=18) [(.s ch_0_0 ch_0_1 ch_0_2),(.i x2),(.p ch_2_0),(.v (.func (.func g.fc) #[] #[]))] (l:=[(0,(.s ch_0_0 ch_0_1 ch_0_2)),(1,(.i x2)),(2,(.p ch_2_0)),(3,(.v (.func (.func g.fc) #[] #[])))]) h.n81 rfl rfl rfl ok hm ?_
 clear ok hm
 intro b0 hb a S
 refine c_region (s_as1 S rfl fun a S=>c_end (c_region (s_mv2 S rfl fun a S=>s_bi S rfl fun a S=>s_mv2 S rfl fun a S=>s_bi S rfl fun a S=>s_mv2 S rfl fun a S=>bindX h0 fun t1 et1 h1=>s_callK S (fd2_.ok g h k et1) h.n82.fn rfl .pre (fun _=> .c2) rfl fun ch1 m le1 a w S=>s_as1 S rfl fun a S=>c_end (wp_ret ?_))))
 obtain rfl:=sI h1
 exact b_ret1 (d:=(.i t1.1)) S rfl rfl fun ok=>S.retX (Hx:=[]) hb _ _ (():Unit) (.c0 (.c0 .n)) ok
abbrev fa7_.Ty (g:SortG):Type:=(List g.α)→Int→Int→Option (Int×Int)
def fa7_.Ctr (g:SortG)(s:fa7_.Ty g):Prop:=∀ {x1:List g.α} {x2:Int} {x3:Int} {ch_0_0:Option Addr} {ch_0_1:Nat} {ch_0_2:Nat} {r:Int×Int} (h0:s x1 x2 x3=some r) {mi:Mem} {w0:World},CtrB Try.prog (g.φ 70) [(.s ch_0_0 ch_0_1 ch_0_2),(.i x2),(.i x3),(.v (.func (.func g.fc) #[] #[]))] [Res.row g.T g.e ch_0_0 ch_0_1 ch_0_2 x1] (fun (ch:Unit)=>((.tup [(false,[.i r.1]),(false,[.i r.2])]):D)) (fun (ch:Unit)=>[Res.row g.T g.e ch_0_0 ch_0_1 ch_0_2 x1]) mi w0
def fa7_.j1 (g:SortG)(y1:Int)(y2:Int):Option (Int×Int):=if (y2==0)=true then (some (y1,1)) else (if (y2==12)=true then (some (y1,2)) else (some (y1,0)))
def fa7_.j2 (g:SortG)(k:Nat)(x1:List g.α)(y3:Int)(y4:Int)(y5:Int)(y6:Int):Option (Int×Int):=(fd2_.f g k x1 y5 y4 y3 y6).bind fun t1=>(fa7_.j1 g t1.1 t1.2)
def fa7_.f (g:SortG)(k:Nat)(x1:List g.α)(x2:Int)(x3:Int):Option (Int×Int):=if (decide (8≤(wr .i64 (x3 - x2))))=true then (if (decide (50≤(wr .i64 (x3 - x2))))=true then ((fa1_.f g k x1 (wr .i64 (x2+(wr .i64 ((wr .i64 (Int.tdiv (wr .i64 (x3 - x2)) 4))*1)))) 0).bind fun t2=>((fa1_.f g k x1 (wr .i64 (x2+(wr .i64 ((wr .i64 (Int.tdiv (wr .i64 (x3 - x2)) 4))*2)))) t2.2).bind fun t3=>((fa1_.f g k x1 (wr .i64 (x2+(wr .i64 ((wr .i64 (Int.tdiv (wr .i64 (x3 - x2)) 4))*3)))) t3.2).bind fun t4=>(fa7_.j2 g k x1 t4.1 t3.1 t2.1 t4.2)))) else (fa7_.j2 g k x1 (wr .i64 (x2+(wr .i64 ((wr .i64 (Int.tdiv (wr .i64 (x3 - x2)) 4))*3)))) (wr .i64 (x2+(wr .i64 ((wr .i64 (Int.tdiv (wr .i64 (x3 - x2)) 4))*2)))) (wr .i64 (x2+(wr .i64 ((wr .i64 (Int.tdiv (wr .i64 (x3 - x2)) 4))*1)))) 0)) else (fa7_.j1 g (wr .i64 (x2+(wr .i64 ((wr .i64 (Int.tdiv (wr .i64 (x3 - x2)) 4))*2)))) 0)
theorem fa7_.ok (g:SortG)(h:SortG.Ok g)(k:Nat):fa7_.Ctr g (fa7_.f g k):=by
 intro x1 x2 x3 ch_0_0 ch_0_1 ch_0_2 r h0 mi w0 ok hm
 delta fa7_.f at h0
 refine c_enterG (n:=63) [(.s ch_0_0 ch_0_1 ch_0_2),(.i x2),(.i x3),(.v (.func (.func g.fc) #[] #[]))] (l:=[(0,(.s ch_0_0 ch_0_1 ch_0_2)),(1,(.i x2)),(2,(.i x3)),(3,(.v (.func (.func g.fc) #[] #[])))]) h.n70 rfl rfl rfl ok hm ?_
 clear ok hm
 intro b0 hb a S
 refine c_region (s_as2 S rfl fun a S=>c_end (c_region (s_mv2 S rfl fun a S=>s_bi S rfl fun a S=>s_as1 S rfl fun a S=>c_end (c_region (s_alloc S Z3 rfl rfl rfl fun g1 a w S=>c_end (c_region (s_mv2 S rfl fun a S=>s_quo S rfl rfl (by decide) rfl fun a S=>s_bi S rfl fun a S=>s_bi S rfl fun a S=>s_as1 S rfl fun a S=>c_end (c_region (s_mv2 S rfl fun a S=>s_quo S rfl rfl (by decide) rfl fun a S=>s_bi S rfl fun a S=>s_bi S rfl fun a S=>s_as1 S rfl fun a S=>c_end (c_region (s_mv2 S rfl fun a S=>s_quo S rfl rfl (by decide) rfl fun a S=>s_bi S rfl fun a S=>s_bi S rfl fun a S=>s_as1 S rfl fun a S=>c_end (wp_seq_k fun K1 hK1=>?_))))))))))))
 have j1:∀ m y1 g3 y2 a w,St 63 m b0 [(13,(.i y1)),(11,(.p g3))] [Res.row g.T g.e ch_0_0 ch_0_1 ch_0_2 x1,Res.cells g3 3 [.i y2]] a w→fa7_.j1 g y1 y2=some r→K1 a w:=by
  intro m y1 g3 y2 a w S h0
  delta fa7_.j1 at h0
  refine hK1 a w (c_region (s_load1 S rfl .h1 T3 (v:=(.int .i64 y2)) rfl rfl fun a S=>c_end (wp_block (c_region (s_bi S rfl fun a S=>s_as1 S rfl fun a S=>c_end ?_)))))
  rcases ite_of h0 with ⟨c1,h1⟩ | ⟨c1,h1⟩
  ·refine c_condT S rfl c1 (c_region (s_mv1 S rfl fun a S=>s_as2 S rfl fun a S=>c_end (wp_ret (x_blockR ?_))))
   obtain rfl:=sI h1
   exact b_ret2 (d1:=(.i y1)) (d2:=(.i 1)) S rfl rfl rfl fun ok1 ok2=>S.retX (Hx:=[]) hb _ _ (():Unit) (.c0 .n) ⟨⟨ok1,tv⟩,⟨ok2,tv⟩,tv⟩
  ·refine c_condF S rfl c1 (c_region (s_bi S rfl fun a S=>s_as1 S rfl fun a S=>c_end ?_))
   rcases ite_of h1 with ⟨c2,h2⟩ | ⟨c2,h2⟩
   ·refine c_condT S rfl c2 (c_region (s_mv1 S rfl fun a S=>s_as2 S rfl fun a S=>c_end (wp_ret (x_blockR ?_))))
    obtain rfl:=sI h2
    exact b_ret2 (d1:=(.i y1)) (d2:=(.i 2)) S rfl rfl rfl fun ok1 ok2=>S.retX (Hx:=[]) hb _ _ (():Unit) (.c0 .n) ⟨⟨ok1,tv⟩,⟨ok2,tv⟩,tv⟩
   ·refine c_condF S rfl c2 (c_region (s_mv1 S rfl fun a S=>s_as2 S rfl fun a S=>c_end (wp_ret (x_blockR ?_))))
    obtain rfl:=sI h2
    exact b_ret2 (d1:=(.i y1)) (d2:=(.i 0)) S rfl rfl rfl fun ok1 ok2=>S.retX (Hx:=[]) hb _ _ (():Unit) (.c0 .n) ⟨⟨ok1,tv⟩,⟨ok2,tv⟩,tv⟩
 refine c_region (s_mv1 S rfl fun a S=>s_bi S rfl fun a S=>c_end ?_)
 rcases ite_of h0 with ⟨c3,h1⟩ | ⟨c3,h1⟩
 ·refine c_condT S rfl c3 (wp_seq_k fun K2 hK2=>?_)
  have j2:∀ m y3 y4 y5 g4 y6 a w,St 63 m b0 [(14,(.i y3)),(13,(.i y4)),(12,(.i y5)),(11,(.p g4)),(0,(.s ch_0_0 ch_0_1 ch_0_2)),(3,(.v (.func (.func g.fc) #[] #[])))] [Res.row g.T g.e ch_0_0 ch_0_1 ch_0_2 x1,Res.cells g4 3 [.i y6]] a w→fa7_.j2 g k x1 y3 y4 y5 y6=some r→K2 a w:=by
   intro m y3 y4 y5 g4 y6 a w S h0
   delta fa7_.j2 at h0
   refine hK2 a w (c_region' (s_mv5 S rfl fun a S=>bindX h0 fun t1 et1 h1=>s_callK S (fd2_.ok g h k et1) h.n82.fn rfl .pre (fun _=> .c2) rfl fun ch1 m le1 a w S=>s_as1 S rfl fun a S=>c_end' (x_thenN ?_)))
   exact j1 _ t1.1 g4 t1.2 a w (S.sb rfl (.c0 (.c0 .n))) h1
  refine c_region (s_mv1 S rfl fun a S=>s_bi S rfl fun a S=>c_end ?_)
  rcases ite_of h1 with ⟨c4,h2⟩ | ⟨c4,h2⟩
  ·refine c_condT S rfl c4 (c_region (s_mv3 S rfl fun a S=>bindX h2 fun t2 et2 h3=>s_callK S (fa1_.ok g h k et2) h.n81.fn rfl (.c1 (.c0 .n)) (fun _=> .c2) rfl fun ch2 m le1 a w S=>s_as1 S rfl fun a S=>c_end (c_region (s_mv3 S rfl fun a S=>bindX h3 fun t3 et3 h4=>s_callK S (fa1_.ok g h k et3) h.n81.fn rfl .pre (fun _=> .c2) rfl fun ch3 m le1 a w S=>s_as1 S rfl fun a S=>c_end (c_region' (s_mv3 S rfl fun a S=>bindX h4 fun t4 et4 h5=>s_callK S (fa1_.ok g h k et4) h.n81.fn rfl .pre (fun _=> .c2) rfl fun ch4 m le1 a w S=>s_as1 S rfl fun a S=>c_end' (x_thenN ?_)))))))
   exact j2 _ t4.1 t3.1 t2.1 g1 t4.2 a w (S.sb rfl (.c0 (.c0 .n))) h5
  ·refine c_condF S rfl c4 (wp_skip (x_thenN ?_))
   exact j2 _ (wr .i64 (x2+(wr .i64 ((wr .i64 (Int.tdiv (wr .i64 (x3 - x2)) 4))*3)))) (wr .i64 (x2+(wr .i64 ((wr .i64 (Int.tdiv (wr .i64 (x3 - x2)) 4))*2)))) (wr .i64 (x2+(wr .i64 ((wr .i64 (Int.tdiv (wr .i64 (x3 - x2)) 4))*1)))) g1 0 a w (S.sb rfl (.c1 (.c0 .n))) h2
 ·refine c_condF S rfl c3 (wp_skip (x_thenN ?_))
  exact j1 _ (wr .i64 (x2+(wr .i64 ((wr .i64 (Int.tdiv (wr .i64 (x3 - x2)) 4))*2)))) g1 0 a w (S.sb rfl (.c1 (.c0 .n))) h1
abbrev fa6_.Ty (g:SortG):Type:=(List g.α)→Int→Int→Option (List g.α)
def fa6_.Ctr (g:SortG)(s:fa6_.Ty g):Prop:=∀ {x1:List g.α} {x2:Int} {x3:Int} {ch_0_0:Option Addr} {ch_0_1:Nat} {ch_0_2:Nat} {r:List g.α} (h0:s x1 x2 x3=some r) {mi:Mem} {w0:World},CtrB Try.prog (g.φ 71) [(.s ch_0_0 ch_0_1 ch_0_2),(.i x2),(.i x3),(.v (.func (.func g.fc) #[] #[]))] [Res.row g.T g.e ch_0_0 ch_0_1 ch_0_2 x1] (fun (ch:Unit)=>((.tup []):D)) (fun (ch:Unit)=>[Res.row g.T g.e ch_0_0 ch_0_1 ch_0_2 r]) mi w0
def fa6_.b1 (g:SortG)(rec1:(List g.α)→Int→Int→Option (List g.α))(y1:List g.α)(y2:Int)(y3:Int):Option (List g.α):=if (decide (y3<y2))=true then (if (0:Int)≤y2∧y2<((y1).length:Int) then (if (0:Int)≤y3∧y3<((y1).length:Int) then (if (0:Int)≤y2∧y2<((y1.set (Int.toNat y3) (gt y1 y2)).length:Int) then (rec1 ((y1.set (Int.toNat y3) (gt y1 y2)).set (Int.toNat y2) (gt y1 y3)) (wr .i64 (y2 - 1)) (wr .i64 (y3+1))) else none) else none) else none) else (some y1)
def fa6_.l1 (g:SortG):Nat→(List g.α)→Int→Int→Option (List g.α)
  | 0,_,_,_=>none
  | q+1,y1,y2,y3=>fa6_.b1 g (fa6_.l1 g q) y1 y2 y3
def fa6_.f (g:SortG)(k:Nat)(x1:List g.α)(x2:Int)(x3:Int):Option (List g.α):=fa6_.l1 g k x1 (wr .i64 (x3 - 1)) x2
theorem fa6_.ok (g:SortG)(h:SortG.Ok g)(k:Nat):fa6_.Ctr g (fa6_.f g k):=by
 intro x1 x2 x3 ch_0_0 ch_0_1 ch_0_2 r h0 mi w0 ok hm
 delta fa6_.f at h0
 refine c_enterG (n:=34) [(.s ch_0_0 ch_0_1 ch_0_2),(.i x2),(.i x3),(.v (.func (.func g.fc) #[] #[]))] (l:=[(0,(.s ch_0_0 ch_0_1 ch_0_2)),(1,(.i x2)),(2,(.i x3)),(3,(.v (.func (.func g.fc) #[] #[])))]) h.n71 rfl rfl rfl ok hm ?_
 clear ok hm
 intro b0 hb a S
 refine c_region (s_mv1 S rfl fun a S=>s_as1 S rfl fun a S=>c_end (c_region (s_mv1 S rfl fun a S=>s_bi S rfl fun a S=>s_as1 S rfl fun a S=>c_end (wp_block ?_))))
 refine c_loop (fun q1 a w=>∃ m y1 y2 y3,St 34 m b0 [(9,(.i y2)),(8,(.i y3)),(0,(.s ch_0_0 ch_0_1 ch_0_2))] [Res.row g.T g.e ch_0_0 ch_0_1 ch_0_2 y1] a w∧fa6_.l1 g q1 y1 y2 y3=some r) ?_ ?_ (k:=k) ⟨_,x1,(wr .i64 (x3 - 1)),x2,(S.sb rfl (.c0 .n)),h0⟩
 ·rintro a w ⟨m,y1,y2,y3,S,h0⟩
  exact (nomatch (show (none:Option (List g.α))=some r from h0))
 ·clear S h0
  rintro q1 a w ⟨m,y1,y2,y3,S,h0⟩
  replace h0:fa6_.b1 g (fa6_.l1 g q1) y1 y2 y3=some r:=h0
  delta fa6_.b1 at h0
  refine wp_seq (c_region (s_mv2 S rfl fun a S=>s_bi S rfl fun a S=>c_end ?_))
  rcases ite_of h0 with ⟨c1,h1⟩ | ⟨c1,h1⟩
  ·refine c_condT S rfl c1 (wp_skip (x_thenN (wp_block ?_)))
   have hS:=S.rowx (fun _=> .h)
   clear S; obtain ⟨cs1,S⟩:=hS
   refine wp_seq (c_hS S (.take 0 (.take 1 (.tk 4 9 (.pure 2 (.pure 3 (.alts (.run 13 false (.alts (.run 14 false (.alts (.run 15 false .done .nil)) .nil)) .nil))))))) 13 (.c0 .n) ⟨Res.stay_rowx,tv⟩ [(9,(.i y2)),(8,(.i y3)),(0,(.s ch_0_0 ch_0_1 ch_0_2))] rfl (by kernel_rfl) ?_); clear S; intro w S CL hw le
   refine h_mv4 S CL hw le rfl tv tv tv tv fun a S CL=>?_
   obtain ⟨c2,h2⟩:=chk_of h1; clear h1
   refine h_iaddrX S CL hw le (subR rfl) (ty':=g.T) rfl .h rfl h.hU h.hT c2.1 c2.2 rfl rfl tv fun g1 a hA1 S CL=>h_ldXW S CL hw le (subR rfl) (i:=y2) rfl hA1 .h h.hT c2.1 c2.2 rfl rfl rfl tv fun ch1 a S CL=>h_mv2 S CL hw le rfl tv tv fun a S CL=>?_
   obtain ⟨c3,h3⟩:=chk_of h2; clear h2
   refine h_iaddrX S CL hw le (subR rfl) (ty':=g.T) rfl .h rfl h.hU h.hT c3.1 c3.2 rfl rfl tv fun g2 a hA2 S CL=>h_ldXW S CL hw le (subR rfl) (i:=y3) rfl hA2 .h h.hT c3.1 c3.2 rfl rfl rfl tv fun ch2 a S CL=>h_iaddrX S CL hw le (subR rfl) (ty':=g.T) rfl .h rfl h.hU h.hT c3.1 c3.2 rfl rfl tv fun g3 a hA3 S CL=>p_move S rfl rfl rfl tv fun a S=>p_move S rfl rfl rfl tv fun a S=>h_run' S rfl tv ?_
   replace S:=S.rowu .h
   refine s_stRW S (i:=y3) (u:=gt y1 y2) (cu:=ch1) rfl rfl hA3 .h h.hT c3.1 c3.2 rfl fun w S=>?_
   refine h_back ⟨fun h=>(nomatch h),?_⟩
   refine h_run' S rfl tv ?_
   obtain ⟨c4,h4⟩:=chk_of h3; clear h3
   refine s_iaddrO S (ty':=g.T) rfl .h rfl h.hU h.hT c4.1 c4.2 rfl fun g4 a hA4 S=>?_
   refine h_back ⟨fun h=>(nomatch h),?_⟩
   refine h_run' S rfl tv (s_stRW S (i:=y2) (u:=gt y1 y3) (cu:=ch2) rfl rfl hA4 .h h.hT c4.1 c4.2 rfl fun w S=>?_)
   refine h_back ⟨fun h=>(nomatch h),?_⟩
   refine h_done ?_; clear CL hw le
   refine x_thenN (c_region (s_mv1 S rfl fun a S=>s_bi S rfl fun a S=>s_as1 S rfl fun a S=>c_end (c_region' (s_mv1 S rfl fun a S=>s_bi S rfl fun a S=>s_as1 S rfl fun a S=>c_end' (x_blockN (x_thenN ?_))))))
   exact ⟨_,((y1.set (Int.toNat y3) (gt y1 y2)).set (Int.toNat y2) (gt y1 y3)),(wr .i64 (y2 - 1)),(wr .i64 (y3+1)),(S.sb rfl (.c0 .n)),h4⟩
  ·refine c_condF S rfl c1 (wp_exit (x_thenX (x_thenX (x_blockX (b_end ?_)))))
   obtain rfl:=sI h1
   exact b_ret0 S rfl (S.retX (Hx:=[]) hb _ _ (():Unit) (.c0 .n) tv)
end
end GW
