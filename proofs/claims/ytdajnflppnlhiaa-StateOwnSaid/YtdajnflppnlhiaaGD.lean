import Derived.Test.YtdajnflppnlhiaaProg
import Derived.Test.YtdajnflppnlhiaaGC
set_option linter.unusedVariables false
set_option linter.unusedSimpArgs false
set_option maxRecDepth 10000
set_option maxHeartbeats 4000000
namespace GW
open Go Go.RowKit Go.Proofs Go.Proofs.Try
noncomputable section
abbrev fc_.Ty:Type:=W24→Option W17
def fc_.Ctr (s:fc_.Ty):Prop:=∀ {x1:W24} {ch_0_0:Nat} {ch_0_1:Option Addr} {ch_0_2:Nat} {ch_0_3:Option Addr} {ch_0_4:Nat} {ch_0_5:Option Addr} {ch_0_6:Nat} {ch_0_7:Option Addr} {ch_0_8:Nat} {ch_0_9:Nat} {ch_0_10:Nat} {r:W17} (h0:s x1=some r) {mi:Mem} {w0:World},CtrB Try.prog 34 [(.p ch_0_0)] [Res.cells ch_0_0 76 [.b20 x1.1.1, .w x1.1.2.1, .w4 x1.1.e3, .q yb ch_0_1 ch_0_2 x1.1.e4, .q Y82 ch_0_3 ch_0_4 x1.1.t4, .b20 x1.2.1.1, .w x1.2.1.2.1, .w4 x1.2.1.e3, .q yb ch_0_5 ch_0_6 x1.2.1.e4, .q Y82 ch_0_7 ch_0_8 x1.2.1.t4, .b x1.e3, .one (.map (some ch_0_9)), .b x1.e5, .b x1.e6, .one (.map (some ch_0_10))],Res.map true (Ty.arr .u64 4) true (Ty.arr .u64 4) ch_0_9 x1.e4,Res.map true (Ty.arr .u64 4) false Ty.bool ch_0_10 x1.t6] (fun (ch:(Option Addr)×Nat×Nat)=>((.s ch.1 ch.2.1 ch.t2):D)) (fun (ch:(Option Addr)×Nat×Nat)=>[Res.row Y82 82 ch.1 ch.2.1 ch.t2 r,Res.cells ch_0_0 76 [.b20 x1.1.1, .w x1.1.2.1, .w4 x1.1.e3, .q yb ch_0_1 ch_0_2 x1.1.e4, .q Y82 ch_0_3 ch_0_4 x1.1.t4, .b20 x1.2.1.1, .w x1.2.1.2.1, .w4 x1.2.1.e3, .q yb ch_0_5 ch_0_6 x1.2.1.e4, .q Y82 ch_0_7 ch_0_8 x1.2.1.t4, .b x1.e3, .one (.map (some ch_0_9)), .b x1.e5, .b x1.e6, .one (.map (some ch_0_10))],Res.map true (Ty.arr .u64 4) true (Ty.arr .u64 4) ch_0_9 x1.e4,Res.map true (Ty.arr .u64 4) false Ty.bool ch_0_10 x1.t6]) mi w0
def fc_.j2 (k:Nat)(y6:W17):Option W17:=(ff5_.f G1 k y6).bind fun t1=>(some t1)
def fc_.b1 (k:Nat)(rec1:W17→W17→Option W17)(y9:W17)(y10:W17):Option W17:=rngL y9 (fc_.j2 k y10) fun e1=>if (!(decide (e1.2=[0,0,0,0])))=true then (if ((y10).length+([e1]).length)*64≤140737488355328 then (rec1 (adel y9 e1.1) (y10++[e1])) else none) else (rec1 (adel y9 e1.1) y10)
def fc_.l1 (k:Nat):Nat→W17→W17→Option W17
  | 0,_,_=>none
  | q+1,y9,y10=>fc_.b1 k (fc_.l1 k q) y9 y10
def fc_.j1 (k:Nat)(x1:W24)(y1:W17):Option W17:=fc_.l1 k k x1.2.2.2.1 y1
def fc_.j3 (y16:Int)(rec2:W17→Int→Option W17)(y17:W17):Option W17:=rec2 y17 (wr .i64 (y16+1))
def fc_.j4 (x1:W24)(y15:W17)(y16:Int)(rec2:W17→Int→Option W17):Option W17:=if (!((lk (aget x1.2.2.2.1 ((gt x1.1.2.2.2.2 y16).1)) [0,0,0,0]).2))=true then (if ((y15).length+([gt x1.1.2.2.2.2 y16]).length)*64≤140737488355328 then (fc_.j3 y16 rec2 (y15++[gt x1.1.2.2.2.2 y16])) else none) else (fc_.j3 y16 rec2 y15)
def fc_.b2 (k:Nat)(x1:W24)(rec2:W17→Int→Option W17)(y15:W17)(y16:Int):Option W17:=if (decide (y16<((x1.1.2.2.2.2).length:Int)))=true then (if (0:Int)≤y16∧y16<((x1.1.2.2.2.2).length:Int) then (fc_.j4 x1 y15 y16 rec2) else none) else (fc_.j1 k x1 y15)
def fc_.l2 (k:Nat)(x1:W24):Nat→W17→Int→Option W17
  | 0,_,_=>none
  | q+1,y15,y16=>fc_.b2 k x1 (fc_.l2 k x1 q) y15 y16
def fc_.f (k:Nat)(x1:W24):Option W17:=if (!x1.2.2.1)=true then (fc_.l2 k x1 k ([]:List ((List Int)×(List Int))) 0) else (fc_.j1 k x1 ([]:List ((List Int)×(List Int))))
theorem fc_.ok (k:Nat):fc_.Ctr (fc_.f k):=by
 intro x1 ch_0_0 ch_0_1 ch_0_2 ch_0_3 ch_0_4 ch_0_5 ch_0_6 ch_0_7 ch_0_8 ch_0_9 ch_0_10 r h0 mi w0 ok hm
 delta fc_.f at h0
 refine c_enterZ (n:=64) ok hm func34 rfl rfl rfl fun b0 hb a S=>c_region (s_as1 S rfl fun a S=>c_end (c_region (s_as1 S rfl fun a S=>c_end (wp_seq_k fun K1 hK1=>?_))))
 have j1:∀ m A1 nn1 cp1 y1 a w,St 64 m b0 [(3,(.s A1 nn1 cp1)),(0,(.p ch_0_0))] [Res.row Y82 82 A1 nn1 cp1 y1,Res.cells ch_0_0 76 [.b20 x1.1.1, .w x1.1.2.1, .w4 x1.1.e3, .q yb ch_0_1 ch_0_2 x1.1.e4, .q Y82 ch_0_3 ch_0_4 x1.1.t4, .b20 x1.2.1.1, .w x1.2.1.2.1, .w4 x1.2.1.e3, .q yb ch_0_5 ch_0_6 x1.2.1.e4, .q Y82 ch_0_7 ch_0_8 x1.2.1.t4, .b x1.e3, .one (.map (some ch_0_9)), .b x1.e5, .b x1.e6, .one (.map (some ch_0_10))],Res.map true (Ty.arr .u64 4) true (Ty.arr .u64 4) ch_0_9 x1.e4,Res.map true (Ty.arr .u64 4) false Ty.bool ch_0_10 x1.t6] a w→fc_.j1 k x1 y1=some r→K1 a w:=by
  intro m A1 nn1 cp1 y1 a w S h0
  delta fc_.j1 at h0
  refine hK1 a w (wp_seq_k fun K2 hK2=>?_)
  have j2:∀ m A2 nn4 cp6 y6 a w,St 64 m b0 [(3,(.s A2 nn4 cp6))] [Res.row Y82 82 A2 nn4 cp6 y6,Res.cells ch_0_0 76 [.b20 x1.1.1, .w x1.1.2.1, .w4 x1.1.e3, .q yb ch_0_1 ch_0_2 x1.1.e4, .q Y82 ch_0_3 ch_0_4 x1.1.t4, .b20 x1.2.1.1, .w x1.2.1.2.1, .w4 x1.2.1.e3, .q yb ch_0_5 ch_0_6 x1.2.1.e4, .q Y82 ch_0_7 ch_0_8 x1.2.1.t4, .b x1.e3, .one (.map (some ch_0_9)), .b x1.e5, .b x1.e6, .one (.map (some ch_0_10))],Res.map true (Ty.arr .u64 4) true (Ty.arr .u64 4) ch_0_9 x1.e4,Res.map true (Ty.arr .u64 4) false Ty.bool ch_0_10 x1.t6] a w→fc_.j2 k y6=some r→K2 a w:=by
   intro m A2 nn4 cp6 y6 a w S h0
   delta fc_.j2 at h0
   refine hK2 a w (c_region (s_mv1 S rfl fun a S=>bindX h0 fun t1 et1 h1=>s_callK S (ff5_.ok G1 H1 k et1) N42 rfl .pre (fun _=> .c1) rfl fun ch1 m le1 a w S=>c_end (c_region (s_mv1 S rfl fun a S=>s_as1 S rfl fun a S=>c_end (wp_ret ?_)))))
   obtain rfl:=sI h1
   exact b_ret1 (d:=(.s A2 nn4 cp6)) S rfl rfl fun ok=>S.retX (Hx:=[]) hb _ _ ((A2,nn4,cp6):(Option Addr)×Nat×Nat) (.c0 (.c0 (.c0 (.c0 .n)))) ok
  refine c_region (s_mv1 S rfl fun a S=>s_nilchk S rfl rfl fun a S=>s_fieldAddr S rfl I76_3 T73 (by decide) rfl rfl fun a S=>s_load1 S rfl .h1 T73 (v:=(.map (some ch_0_9))) rfl rfl fun a S=>s_rangeO S rfl (fun _ _=> .h2) underlying73 rfl fun g1 es1 ck1 a w S=>c_end (wp_block ?_))
  refine c_loop (fun q1 a w=>∃ m g10 y9 cu1 A3 nn6 cp10 y10,St 64 m b0 [(46,(.p g10)),(3,(.s A3 nn6 cp10))] [Res.iterx true (Ty.arr .u64 4) true (Ty.arr .u64 4) g10 ch_0_9 es1 ck1 x1.e4 y9 cu1,Res.row Y82 82 A3 nn6 cp10 y10,Res.cells ch_0_0 76 [.b20 x1.1.1, .w x1.1.2.1, .w4 x1.1.e3, .q yb ch_0_1 ch_0_2 x1.1.e4, .q Y82 ch_0_3 ch_0_4 x1.1.t4, .b20 x1.2.1.1, .w x1.2.1.2.1, .w4 x1.2.1.e3, .q yb ch_0_5 ch_0_6 x1.2.1.e4, .q Y82 ch_0_7 ch_0_8 x1.2.1.t4, .b x1.e3, .one (.map (some ch_0_9)), .b x1.e5, .b x1.e6, .one (.map (some ch_0_10))],Res.mapx true (Ty.arr .u64 4) true (Ty.arr .u64 4) ch_0_9 es1 ck1 x1.e4,Res.map true (Ty.arr .u64 4) false Ty.bool ch_0_10 x1.t6] a w∧fc_.l1 k q1 y9 y10=some r) ?_ ?_ (k:=k) ⟨_,g1,x1.e4,none,A1,nn1,cp1,y1,(S.sb rfl (.c0 (.c0 (.c0 (.c0 (.c0 .n)))))),h0⟩
  ·rintro a w ⟨m,g10,y9,cu1,A3,nn6,cp10,y10,S,h0⟩
   exact (nomatch (show (none:Option W17)=some r from h0))
  ·clear S h0
   rintro q1 a w ⟨m,g10,y9,cu1,A3,nn6,cp10,y10,S,h0⟩
   replace h0:fc_.b1 k (fc_.l1 k q1) y9 y10=some r:=h0
   delta fc_.b1 at h0
   refine c_region ?_
   refine s_nextO S rfl (fun _ _=> .h) .h3 rfl ?_ ?_
   ·clear S a; intro hR a S
    have h1:=(rng_of h0).1 hR; clear h0
    refine s_extract S rfl rfl rfl rfl fun a S=>c_end (wp_seq (c_condF S rfl rfl (wp_exit (x_thenX (x_thenX (x_blockX (x_thenN ?_)))))))
    exact j2 _ A3 nn6 cp10 y10 a w (S.sub ⟨rfl,tv⟩ (.c1 (.c1 (.c1 (.c1 .n))))) h1
   ·clear S a w; intro e1 hee1 ch2 ch3 a w S
    have h1:=(rng_of h0).2 e1 hee1; clear h0
    refine s_extract S rfl rfl rfl rfl fun a S=>c_end (wp_seq (c_condT S rfl rfl (wp_skip (x_thenN (wp_block (c_region (s_entryO S rfl .h .h3 rfl fun ch4 ch5 a S=>s_extract S rfl rfl rfl rfl fun a S=>s_extract S rfl rfl rfl rfl fun a S=>s_alloc S Z35 rfl ⟨rfl,tv⟩ rfl fun g11 a w S=>s_alloc S Z35 rfl ⟨rfl,tv⟩ rfl fun g12 a w S=>s_store S rfl rfl rfl (s':=[.w4 e1.1]) .h1 T35 rfl rfl fun w S=>s_store S rfl rfl rfl (s':=[.w4 e1.2]) .h T35 rfl rfl fun w S=>c_end (c_region (s_loada S rfl .h T35 (s':=[.w4 e1.2]) rfl rfl fun a S=>s_build S (ds:=[]) (dv:=(.a4 [0,0,0,0])) rfl (fun _=>by kernel_rfl) ⟨rfl,tv⟩ rfl fun a S=>s_nea S rfl rfl underlying35 underlying32 T32 Q35 rfl fun a S=>c_end ?_)))))))))
    rcases ite_of h1 with ⟨c1,h2⟩ | ⟨c1,h2⟩
    ·refine c_condT S rfl c1 (c_region' (s_mv1 S rfl fun a S=>s_loada S rfl .h1 T35 (s':=[.w4 e1.1]) rfl rfl fun a S=>s_loada S rfl .h T35 (s':=[.w4 e1.2]) rfl rfl fun a S=>s_bldS S (ds:=[(0,(.a4 e1.1)),(1,(.a4 e1.2))]) (zs:=[.w4 [0,0,0,0], .w4 [0,0,0,0]]) (s':=[.w4 e1.1, .w4 e1.2]) rfl underlying82 P82 Z82 ⟨rfl,rfl,tv⟩ rfl rfl fun a S=>s_bldSl S (ty':=Y82) (ds:=[(0,(.agg [.w4 e1.1, .w4 e1.2]))]) (z:=([0,0,0,0],[0,0,0,0])) (c0:=((),())) (ys:=[e1]) (cs:=[((),())]) rfl underlying37 J82 Z82 rfl ⟨rfl,rfl,tv⟩ rfl rfl rfl rfl rfl rfl fun g13 a w S=>?_))
     obtain ⟨c2,h3⟩:=chk_of h2; clear h2
     refine s_app S (k2:=1) (ys:=[e1]) rfl (fun _ _=> .h4) rfl rfl (S.holds _ (Pull.mem .h).1).1 (Res.row.src (S.holds _ (Pull.mem .h).1)) underlying37 J82 c2 rfl fun A4 cp11 a w S=>s_as1 S rfl fun a S=>c_end' (x_blockN (x_thenN ?_))
     exact ⟨_,g10,(adel y9 e1.1),(some e1),A4,(nn6+1),cp11,(y10++[e1]),(S.sb rfl (.c3 (.c3 (.c3 (.c3 (.c3 .n)))))),h3⟩
    ·refine c_condF S rfl c1 (wp_skip (x_blockN (x_thenN ?_)))
     exact ⟨_,g10,(adel y9 e1.1),(some e1),A3,nn6,cp10,y10,(S.sb rfl (.c2 (.c2 (.c2 (.c2 (.c2 .n)))))),h2⟩
 refine c_region (s_mv1 S rfl fun a S=>s_nilchk S rfl rfl fun a S=>s_fieldAddr S rfl I76_2 T4 (by decide) rfl rfl fun a S=>s_load1 S rfl .h T4 (v:=(.bool x1.e3)) rfl rfl fun a S=>s_not S rfl rfl fun a S=>c_end ?_)
 rcases ite_of h0 with ⟨c3,h1⟩ | ⟨c3,h1⟩
 ·refine c_condT S rfl c3 (c_region (s_mv1 S rfl fun a S=>s_nilchk S rfl rfl fun a S=>s_fieldAddr S rfl I76_0 T39 (by decide) rfl rfl fun a S=>s_fieldAddr S rfl I39_4 T37 (by decide) rfl rfl fun a S=>s_loadSl S rfl .h T37 (A:=ch_0_3) (len:=(x1.1.t4).length) (cap:=ch_0_4) rfl rfl fun a S=>s_lenS S rfl underlying37 rfl fun a S=>s_mv1 S rfl fun a S=>c_end (wp_block ?_)))
  replace S:=S.nilrow Y82 82
  refine c_loop (fun q2 a w=>∃ m A5 nn10 cp17 y15 y16,St 64 m b0 [(3,(.s A5 nn10 cp17)),(21,(.i y16)),(20,(.i ((x1.1.t4).length:Int))),(19,(.q Y82 ch_0_3 ch_0_4 x1.1.t4)),(0,(.p ch_0_0))] [Res.row Y82 82 A5 nn10 cp17 y15,Res.cells ch_0_0 76 [.b20 x1.1.1, .w x1.1.2.1, .w4 x1.1.e3, .q yb ch_0_1 ch_0_2 x1.1.e4, .q Y82 ch_0_3 ch_0_4 x1.1.t4, .b20 x1.2.1.1, .w x1.2.1.2.1, .w4 x1.2.1.e3, .q yb ch_0_5 ch_0_6 x1.2.1.e4, .q Y82 ch_0_7 ch_0_8 x1.2.1.t4, .b x1.e3, .one (.map (some ch_0_9)), .b x1.e5, .b x1.e6, .one (.map (some ch_0_10))],Res.map true (Ty.arr .u64 4) true (Ty.arr .u64 4) ch_0_9 x1.e4,Res.map true (Ty.arr .u64 4) false Ty.bool ch_0_10 x1.t6] a w∧fc_.l2 k x1 q2 y15 y16=some r) ?_ ?_ (k:=k) ⟨_,none,0,0,([]:List ((List Int)×(List Int))),0,(S.sb rfl (.c0 (.c0 (.c0 (.c0 .n))))),h1⟩
  ·rintro a w ⟨m,A5,nn10,cp17,y15,y16,S,h0⟩
   exact (nomatch (show (none:Option W17)=some r from h0))
  ·clear S h1
   rintro q2 a w ⟨m,A5,nn10,cp17,y15,y16,S,h0⟩
   replace h0:fc_.b2 k x1 (fc_.l2 k x1 q2) y15 y16=some r:=h0
   delta fc_.b2 at h0
   refine c_region (s_bi S rfl fun a S=>c_end (wp_seq ?_))
   rcases ite_of h0 with ⟨c4,h1⟩ | ⟨c4,h1⟩
   ·refine c_condT S rfl c4 (wp_skip (x_thenN (wp_seq_k fun K3 hK3=>?_)))
    have j3:∀ m A6 nn11 cp19 y17 a w,St 64 m b0 [(3,(.s A6 nn11 cp19)),(21,(.i y16)),(20,(.i ((x1.1.t4).length:Int))),(19,(.q Y82 ch_0_3 ch_0_4 x1.1.t4)),(0,(.p ch_0_0))] [Res.row Y82 82 A6 nn11 cp19 y17,Res.cells ch_0_0 76 [.b20 x1.1.1, .w x1.1.2.1, .w4 x1.1.e3, .q yb ch_0_1 ch_0_2 x1.1.e4, .q Y82 ch_0_3 ch_0_4 x1.1.t4, .b20 x1.2.1.1, .w x1.2.1.2.1, .w4 x1.2.1.e3, .q yb ch_0_5 ch_0_6 x1.2.1.e4, .q Y82 ch_0_7 ch_0_8 x1.2.1.t4, .b x1.e3, .one (.map (some ch_0_9)), .b x1.e5, .b x1.e6, .one (.map (some ch_0_10))],Res.map true (Ty.arr .u64 4) true (Ty.arr .u64 4) ch_0_9 x1.e4,Res.map true (Ty.arr .u64 4) false Ty.bool ch_0_10 x1.t6] a w→fc_.j3 y16 (fc_.l2 k x1 q2) y17=some r→K3 a w:=by
     intro m A6 nn11 cp19 y17 a w S h0
     delta fc_.j3 at h0
     refine hK3 a w (c_region' (s_bi S rfl fun a S=>s_mv1 S rfl fun a S=>c_end' (x_thenN ?_)))
     exact ⟨_,A6,nn11,cp19,y17,(wr .i64 (y16+1)),(S.sb rfl (.c0 (.c0 (.c0 (.c0 .n))))),h0⟩
    refine wp_block (c_region ?_)
    obtain ⟨c5,h2⟩:=chk_of h1; clear h1
    refine s_iaddrS S rfl rfl rfl underlying37 T82 c5.1 c5.2 rfl fun p1 a S=>s_ldA S (fun (c:Unit×Unit)=>[.w4 ((gt x1.1.t4 y16).1), .w4 ((gt x1.1.t4 y16).2)]) rfl T82 (fun _=>rfl) rfl fun ch6 a S=>?_
    refine s_alloc S Z82 rfl ⟨rfl,rfl,tv⟩ rfl fun g18 a w S=>s_store S rfl rfl rfl (s':=[.w4 ((gt x1.1.t4 y16).1), .w4 ((gt x1.1.t4 y16).2)]) .h T82 rfl rfl fun w S=>c_end (wp_seq_k fun K4 hK4=>?_)
    have j4:∀ m g20 a w,St 64 m b0 [(7,(.b ((lk (aget x1.e4 ((gt x1.1.t4 y16).1)) [0,0,0,0]).2))),(5,(.p g20)),(3,(.s A5 nn10 cp17)),(21,(.i y16)),(20,(.i ((x1.1.t4).length:Int))),(19,(.q Y82 ch_0_3 ch_0_4 x1.1.t4)),(0,(.p ch_0_0))] [Res.cells g20 82 [.w4 ((gt x1.1.t4 y16).1), .w4 ((gt x1.1.t4 y16).2)],Res.row Y82 82 A5 nn10 cp17 y15,Res.cells ch_0_0 76 [.b20 x1.1.1, .w x1.1.2.1, .w4 x1.1.e3, .q yb ch_0_1 ch_0_2 x1.1.e4, .q Y82 ch_0_3 ch_0_4 x1.1.t4, .b20 x1.2.1.1, .w x1.2.1.2.1, .w4 x1.2.1.e3, .q yb ch_0_5 ch_0_6 x1.2.1.e4, .q Y82 ch_0_7 ch_0_8 x1.2.1.t4, .b x1.e3, .one (.map (some ch_0_9)), .b x1.e5, .b x1.e6, .one (.map (some ch_0_10))],Res.map true (Ty.arr .u64 4) true (Ty.arr .u64 4) ch_0_9 x1.e4,Res.map true (Ty.arr .u64 4) false Ty.bool ch_0_10 x1.t6] a w→fc_.j4 x1 y15 y16 (fc_.l2 k x1 q2)=some r→K4 a w:=by
     intro m g20 a w S h0
     delta fc_.j4 at h0
     refine hK4 a w (c_region (s_mv1 S rfl fun a S=>s_not S rfl rfl fun a S=>c_end ?_))
     rcases ite_of h0 with ⟨c6,h1⟩ | ⟨c6,h1⟩
     ·refine c_condT S rfl c6 (c_region' (s_mv1 S rfl fun a S=>s_loada S rfl .h T82 (s':=[.w4 ((gt x1.1.t4 y16).1), .w4 ((gt x1.1.t4 y16).2)]) rfl rfl fun a S=>s_bldSl S (ty':=Y82) (ds:=[(0,(.agg [.w4 ((gt x1.1.t4 y16).1), .w4 ((gt x1.1.t4 y16).2)]))]) (z:=([0,0,0,0],[0,0,0,0])) (c0:=((),())) (ys:=[gt x1.1.t4 y16]) (cs:=[((),())]) rfl underlying37 J82 Z82 rfl ⟨rfl,rfl,tv⟩ rfl rfl rfl rfl rfl rfl fun g21 a w S=>?_))
      obtain ⟨c7,h2⟩:=chk_of h1; clear h1
      refine s_app S (k2:=1) (ys:=[gt x1.1.t4 y16]) rfl (fun _ _=> .h2) rfl rfl (S.holds _ (Pull.mem .h).1).1 (Res.row.src (S.holds _ (Pull.mem .h).1)) underlying37 J82 c7 rfl fun A7 cp20 a w S=>s_as1 S rfl fun a S=>c_end' (x_blockN (x_thenN ?_))
      exact j3 _ A7 (nn10+1) cp20 (y15++[gt x1.1.t4 y16]) a w (S.sb rfl (.c2 (.c2 (.c2 (.c2 .n))))) h2
     ·refine c_condF S rfl c6 (wp_skip (x_blockN (x_thenN ?_)))
      exact j3 _ A5 nn10 cp17 y15 a w (S.sb rfl (.c1 (.c1 (.c1 (.c1 .n))))) h1
    refine c_hS S (.tk 0 6 (.alts (.run 6 false (.pure 7 (.pure 8 (.pure 9 (.alts (.run 10 false (.alts (.run 11 false (.alts (.run 12 false .done .nil)) .nil)) .nil))))) (.run 10 true (.alts (.run 6 false (.pure 7 (.pure 8 (.pure 9 (.alts (.run 11 false (.alts (.run 12 false .done .nil)) .nil))))) .nil)) .nil)))) 6 (.c0 (.c1 .n)) ⟨Res.stay_cells,Res.stay_cells,tv⟩ [(5,(.p g18)),(0,(.p ch_0_0))] rfl (by kernel_rfl) fun w S CL hw le=>?_
    refine h_mv1 S CL hw le rfl tv fun a S CL=>h_nilchk S CL hw le (subR rfl) rfl rfl rfl rfl tv fun a S CL=>h_fieldAddr S CL hw le (subR rfl) rfl I76_3 T73 (by decide) rfl rfl rfl tv fun a S CL=>h_load1 S CL hw le (subR rfl) rfl .h1 T73 (v:=(.map (some ch_0_9))) rfl rfl rfl tv fun a S CL=>h_fieldAddr S CL hw le (subR rfl) rfl I82_0 T35 (by decide) rfl rfl rfl tv fun a S CL=>h_loada S CL hw le (subR rfl) rfl .h T35 (s':=[.w4 ((gt x1.1.t4 y16).1)]) rfl rfl rfl tv fun a S CL=>h_alts ?_
    refine h_runO S rfl tv ?_ ?_
    ·refine s_lookO S (z:=[0,0,0,0]) (k:=((gt x1.1.t4 y16).1)) rfl .h3 () rfl (fun h=>⟨(),rfl,h⟩) underlying73 KT35 Z35 ⟨rfl,tv⟩ rfl fun ch7 a S=>?_
     refine h_back ⟨fun h=>(nomatch h),?_⟩
     refine p_move S rfl rfl rfl tv fun a S=>p_extract S rfl rfl rfl rfl rfl tv fun a S=>p_extract S rfl rfl rfl rfl rfl tv fun a S=>h_run' S rfl tv (s_alloc S Z35 rfl ⟨rfl,tv⟩ rfl fun g22 a w S=>?_)
     refine h_back ⟨fun h=>(nomatch h),?_⟩
     refine h_run' S rfl tv (s_storeJ S 0 rfl rfl rfl rfl .h T35 rfl rfl fun w S=>?_)
     refine h_back ⟨fun h=>(nomatch h),?_⟩
     refine h_run' S rfl tv (s_as1 S rfl fun a S=>?_)
     refine h_back ⟨fun h=>(nomatch h),?_⟩
     refine h_done ?_; clear CL hw le
     refine x_thenN ?_
     exact j4 _ g18 a w (S.sb rfl (.c1 (.c1 (.c1 (.c1 (.c1 .n)))))) h2
    refine h_runO S rfl tv ?_ ?_
    ·refine s_alloc S Z35 rfl ⟨rfl,tv⟩ rfl fun g22 a w S=>CL.bk hw S (.c1 (.c2 .n)) le fun hw=>h_run' S rfl tv (s_lookO S (z:=[0,0,0,0]) (k:=((gt x1.1.t4 y16).1)) rfl .h4 () rfl (fun h=>⟨(),rfl,h⟩) underlying73 KT35 Z35 ⟨rfl,tv⟩ rfl fun ch7 a S=>?_)
     refine h_back ⟨fun h=>(nomatch h),?_⟩
     refine p_move S rfl rfl rfl tv fun a S=>p_extract S rfl rfl rfl rfl rfl tv fun a S=>p_extract S rfl rfl rfl rfl rfl tv fun a S=>h_run' S rfl tv (s_storeJ S 0 rfl rfl rfl rfl .h T35 rfl rfl fun w S=>?_)
     refine h_back ⟨fun h=>(nomatch h),?_⟩
     refine h_run' S rfl tv (s_as1 S rfl fun a S=>?_)
     refine h_back ⟨fun h=>(nomatch h),?_⟩
     refine h_done ?_; clear CL hw le
     refine x_thenN ?_
     exact j4 _ g18 a w (S.sb rfl (.c1 (.c1 (.c1 (.c1 (.c1 .n)))))) h2
    exact h_nil
   ·refine c_condF S rfl c4 (wp_exit (x_thenX (x_thenX (x_blockX (x_thenN ?_)))))
    exact j1 _ A5 nn10 cp17 y15 a w (S.sb rfl (.c0 (.c0 (.c0 (.c0 .n))))) h1
 ·refine c_condF S rfl c3 (wp_skip (x_thenN ?_))
  replace S:=S.nilrow Y82 82
  exact j1 _ none 0 0 ([]:List ((List Int)×(List Int))) a w0 (S.sb rfl (.c0 (.c0 (.c0 (.c0 .n))))) h1
abbrev fa8_.Ty:Type:=(List Int)→(List Int)→Option Bool
def fa8_.Ctr (s:fa8_.Ty):Prop:=∀ {x1:List Int} {x2:List Int} {ch_0_0:Option Addr} {ch_0_1:Nat} {ch_1_0:Option Addr} {ch_1_1:Nat} {r:Bool} (h0:s x1 x2=some r) {mi:Mem} {w0:World},CtrB Try.prog 45 [(.q yb ch_0_0 ch_0_1 x1),(.q yb ch_1_0 ch_1_1 x2)] [] (fun (ch:Unit)=>((.b r):D)) (fun (ch:Unit)=>[]) mi w0
def fa8_.j1:Option Bool:=some true
def fa8_.b1 (x1:List Int)(x2:List Int)(rec1:Int→Option Bool)(y1:Int):Option Bool:=if (decide (y1<((x1).length:Int)))=true then (if (0:Int)≤y1∧y1<((x1).length:Int) then (if (0:Int)≤y1∧y1<((x2).length:Int) then (if ((rd x1 y1) != (rd x2 y1))=true then (some false) else (rec1 (wr .i64 (y1+1)))) else none) else none) else fa8_.j1
def fa8_.l1 (x1:List Int)(x2:List Int):Nat→Int→Option Bool
  | 0,_=>none
  | q+1,y1=>fa8_.b1 x1 x2 (fa8_.l1 x1 x2 q) y1
def fa8_.f (k:Nat)(x1:List Int)(x2:List Int):Option Bool:=if (((x1).length:Int) != ((x2).length:Int))=true then (some false) else (fa8_.l1 x1 x2 k 0)
theorem fa8_.ok (k:Nat):fa8_.Ctr (fa8_.f k):=by
 intro x1 x2 ch_0_0 ch_0_1 ch_1_0 ch_1_1 r h0 mi w0 ok hm
 delta fa8_.f at h0
 refine c_enterZ (n:=26) ok hm func45 rfl rfl rfl fun b0 hb a S=>c_region (s_as1 S rfl fun a S=>c_end (wp_seq (c_region (s_mv1 S rfl fun a S=>s_lenS S rfl underlying36 rfl fun a S=>s_mv1 S rfl fun a S=>s_lenS S rfl underlying36 rfl fun a S=>s_bi S rfl fun a S=>c_end ?_))))
 rcases ite_of h0 with ⟨c1,h1⟩ | ⟨c1,h1⟩
 ·refine c_condT S rfl c1 (c_region (s_as1 S rfl fun a S=>c_end (wp_ret (x_thenR ?_))))
  obtain rfl:=sI h1
  exact b_ret1 (d:=(.b false)) S rfl rfl (S.rt hb)
 ·refine c_condF S rfl c1 (wp_skip (x_thenN (wp_seq_k fun K1 hK1=>?_)))
  have j1:∀ m a w,St 26 m b0 [] [] a w→fa8_.j1=some r→K1 a w:=by
   intro m a w S h0
   delta fa8_.j1 at h0
   refine hK1 a w (c_region (s_as1 S rfl fun a S=>c_end (wp_ret ?_)))
   obtain rfl:=sI h0
   exact b_ret1 (d:=(.b true)) S rfl rfl (S.rt hb)
  refine c_region (s_mv1 S rfl fun a S=>s_lenS S rfl underlying36 rfl fun a S=>s_mv1 S rfl fun a S=>c_end (wp_block ?_))
  refine c_loop (fun q1 a w=>∃ m y1,St 26 m b0 [(13,(.i y1)),(12,(.i ((x1).length:Int))),(0,(.q yb ch_0_0 ch_0_1 x1)),(1,(.q yb ch_1_0 ch_1_1 x2))] [] a w∧fa8_.l1 x1 x2 q1 y1=some r) ?_ ?_ (k:=k) ⟨_,0,(S.sb rfl .nil),h1⟩
  ·rintro a w ⟨m,y1,S,h0⟩
   exact (nomatch (show (none:Option Bool)=some r from h0))
  ·clear S h1
   rintro q1 a w ⟨m,y1,S,h0⟩
   replace h0:fa8_.b1 x1 x2 (fa8_.l1 x1 x2 q1) y1=some r:=h0
   delta fa8_.b1 at h0
   refine c_region (s_bi S rfl fun a S=>c_end (wp_seq ?_))
   rcases ite_of h0 with ⟨c2,h1⟩ | ⟨c2,h1⟩
   ·refine c_condT S rfl c2 (wp_skip (x_thenN (wp_seq (wp_block (c_region (s_mv1 S rfl fun a S=>s_as1 S rfl fun a S=>c_end ?_))))))
    refine wp_seq (c_hS S (.tk 0 9 .done) 9 .nil tv [(5,(.i y1)),(0,(.q yb ch_0_0 ch_0_1 x1)),(1,(.q yb ch_1_0 ch_1_1 x2))] rfl (by kernel_rfl) ?_); clear S; intro w S CL hw le
    refine h_mv2 S CL hw le rfl tv tv fun a S CL=>?_
    obtain ⟨c3,h2⟩:=chk_of h1; clear h1
    refine h_iaddrS S CL hw le (subR rfl) rfl rfl rfl underlying36 T5 c3.1 c3.2 rfl rfl tv fun p1 a S CL=>h_ld1 S CL hw le (subR rfl) (v:=(.int .u8 (rd x1 y1))) rfl T5 (fun _=>rfl) rfl rfl tv fun a S CL=>h_mv2 S CL hw le rfl tv tv fun a S CL=>?_
    obtain ⟨c4,h3⟩:=chk_of h2; clear h2
    refine h_iaddrS S CL hw le (subR rfl) rfl rfl rfl underlying36 T5 c4.1 c4.2 rfl rfl tv fun p2 a S CL=>h_ld1 S CL hw le (subR rfl) (v:=(.int .u8 (rd x2 y1))) rfl T5 (fun _=>rfl) rfl rfl tv fun a S CL=>h_bin S CL hw le (subR rfl) rfl rfl rfl rfl rfl tv fun a S CL=>?_
    refine h_done ?_; clear CL hw le
    refine x_thenN ?_
    rcases ite_of h3 with ⟨c5,h4⟩ | ⟨c5,h4⟩
    ·refine c_condT S rfl c5 (c_region (s_as1 S rfl fun a S=>c_end (wp_ret (x_blockR (x_thenR (x_thenR (x_blockR (x_thenR ?_))))))))
     obtain rfl:=sI h4
     exact b_ret1 (d:=(.b false)) S rfl rfl (S.rt hb)
    ·refine c_condF S rfl c5 (wp_skip (x_blockN (x_thenN (c_region' (s_bi S rfl fun a S=>s_mv1 S rfl fun a S=>c_end' (x_thenN ?_))))))
     exact ⟨_,(wr .i64 (y1+1)),(S.sb rfl .nil),h4⟩
   ·refine c_condF S rfl c2 (wp_exit (x_thenX (x_thenX (x_blockX (x_thenN ?_)))))
    exact j1 _ a w (S.sub tv .nil) h1
abbrev ff4_.Ty:Type:=W17→W17→Option Bool
def ff4_.Ctr (s:ff4_.Ty):Prop:=∀ {x1:W17} {x2:W17} {ch_0_0:Option Addr} {ch_0_1:Nat} {ch_1_0:Option Addr} {ch_1_1:Nat} {r:Bool} (h0:s x1 x2=some r) {mi:Mem} {w0:World},CtrB Try.prog 46 [(.q Y82 ch_0_0 ch_0_1 x1),(.q Y82 ch_1_0 ch_1_1 x2)] [] (fun (ch:Unit)=>((.b r):D)) (fun (ch:Unit)=>[]) mi w0
def ff4_.j1:Option Bool:=some true
def ff4_.b1 (x1:W17)(x2:W17)(rec1:Int→Option Bool)(y1:Int):Option Bool:=if (decide (y1<((x1).length:Int)))=true then (if (0:Int)≤y1∧y1<((x1).length:Int) then (if (0:Int)≤y1∧y1<((x2).length:Int) then (if (!(decide (gt x1 y1=gt x2 y1)))=true then (some false) else (rec1 (wr .i64 (y1+1)))) else none) else none) else ff4_.j1
def ff4_.l1 (x1:W17)(x2:W17):Nat→Int→Option Bool
  | 0,_=>none
  | q+1,y1=>ff4_.b1 x1 x2 (ff4_.l1 x1 x2 q) y1
def ff4_.f (k:Nat)(x1:W17)(x2:W17):Option Bool:=if (((x1).length:Int) != ((x2).length:Int))=true then (some false) else (ff4_.l1 x1 x2 k 0)
theorem ff4_.ok (k:Nat):ff4_.Ctr (ff4_.f k):=by
 intro x1 x2 ch_0_0 ch_0_1 ch_1_0 ch_1_1 r h0 mi w0 ok hm
 delta ff4_.f at h0
 refine c_enterZ (n:=26) ok hm func46 rfl rfl rfl fun b0 hb a S=>c_region (s_as1 S rfl fun a S=>c_end (wp_seq (c_region (s_mv1 S rfl fun a S=>s_lenS S rfl underlying37 rfl fun a S=>s_mv1 S rfl fun a S=>s_lenS S rfl underlying37 rfl fun a S=>s_bi S rfl fun a S=>c_end ?_))))
 rcases ite_of h0 with ⟨c1,h1⟩ | ⟨c1,h1⟩
 ·refine c_condT S rfl c1 (c_region (s_as1 S rfl fun a S=>c_end (wp_ret (x_thenR ?_))))
  obtain rfl:=sI h1
  exact b_ret1 (d:=(.b false)) S rfl rfl (S.rt hb)
 ·refine c_condF S rfl c1 (wp_skip (x_thenN (wp_seq_k fun K1 hK1=>?_)))
  have j1:∀ m a w,St 26 m b0 [] [] a w→ff4_.j1=some r→K1 a w:=by
   intro m a w S h0
   delta ff4_.j1 at h0
   refine hK1 a w (c_region (s_as1 S rfl fun a S=>c_end (wp_ret ?_)))
   obtain rfl:=sI h0
   exact b_ret1 (d:=(.b true)) S rfl rfl (S.rt hb)
  refine c_region (s_mv1 S rfl fun a S=>s_lenS S rfl underlying37 rfl fun a S=>s_mv1 S rfl fun a S=>c_end (wp_block ?_))
  refine c_loop (fun q1 a w=>∃ m y1,St 26 m b0 [(13,(.i y1)),(12,(.i ((x1).length:Int))),(0,(.q Y82 ch_0_0 ch_0_1 x1)),(1,(.q Y82 ch_1_0 ch_1_1 x2))] [] a w∧ff4_.l1 x1 x2 q1 y1=some r) ?_ ?_ (k:=k) ⟨_,0,(S.sb rfl .nil),h1⟩
  ·rintro a w ⟨m,y1,S,h0⟩
   exact (nomatch (show (none:Option Bool)=some r from h0))
  ·clear S h1
   rintro q1 a w ⟨m,y1,S,h0⟩
   replace h0:ff4_.b1 x1 x2 (ff4_.l1 x1 x2 q1) y1=some r:=h0
   delta ff4_.b1 at h0
   refine c_region (s_bi S rfl fun a S=>c_end (wp_seq ?_))
   rcases ite_of h0 with ⟨c2,h1⟩ | ⟨c2,h1⟩
   ·refine c_condT S rfl c2 (wp_skip (x_thenN (wp_seq (wp_block (c_region (s_mv1 S rfl fun a S=>s_as1 S rfl fun a S=>c_end ?_))))))
    refine wp_seq (c_hS S (.tk 0 9 .done) 9 .nil tv [(5,(.i y1)),(0,(.q Y82 ch_0_0 ch_0_1 x1)),(1,(.q Y82 ch_1_0 ch_1_1 x2))] rfl (by kernel_rfl) ?_); clear S; intro w S CL hw le
    refine h_mv2 S CL hw le rfl tv tv fun a S CL=>?_
    obtain ⟨c3,h2⟩:=chk_of h1; clear h1
    refine h_iaddrS S CL hw le (subR rfl) rfl rfl rfl underlying37 T82 c3.1 c3.2 rfl rfl tv fun p1 a S CL=>h_ldA S CL hw le (subR rfl) (fun (c:Unit×Unit)=>[.w4 ((gt x1 y1).1), .w4 ((gt x1 y1).2)]) rfl T82 (fun _=>rfl) rfl rfl tv fun ch1 a S CL=>?_
    refine h_mv2 S CL hw le rfl tv tv fun a S CL=>?_
    obtain ⟨c4,h3⟩:=chk_of h2; clear h2
    refine h_iaddrS S CL hw le (subR rfl) rfl rfl rfl underlying37 T82 c4.1 c4.2 rfl rfl tv fun p2 a S CL=>h_ldA S CL hw le (subR rfl) (fun (c:Unit×Unit)=>[.w4 ((gt x2 y1).1), .w4 ((gt x2 y1).2)]) rfl T82 (fun _=>rfl) rfl rfl tv fun ch2 a S CL=>?_
    refine h_neS S CL hw le (subR rfl) (ty':=Y82) (p:=gt x1 y1) (q:=gt x2 y1) ((),()) ((),()) rfl rfl E82 rfl Q82 rfl rfl tv fun a S CL=>?_
    refine h_done ?_; clear CL hw le
    refine x_thenN ?_
    rcases ite_of h3 with ⟨c5,h4⟩ | ⟨c5,h4⟩
    ·refine c_condT S rfl c5 (c_region (s_as1 S rfl fun a S=>c_end (wp_ret (x_blockR (x_thenR (x_thenR (x_blockR (x_thenR ?_))))))))
     obtain rfl:=sI h4
     exact b_ret1 (d:=(.b false)) S rfl rfl (S.rt hb)
    ·refine c_condF S rfl c5 (wp_skip (x_blockN (x_thenN (c_region' (s_bi S rfl fun a S=>s_mv1 S rfl fun a S=>c_end' (x_thenN ?_))))))
     exact ⟨_,(wr .i64 (y1+1)),(S.sb rfl .nil),h4⟩
   ·refine c_condF S rfl c2 (wp_exit (x_thenX (x_thenX (x_blockX (x_thenN ?_)))))
    exact j1 _ a w (S.sub tv .nil) h1
abbrev ff8_.Ty:Type:=W1→W1→Option Bool
def ff8_.Ctr (s:ff8_.Ty):Prop:=∀ {x1:W1} {x2:W1} {ch_0_0:Option Addr} {ch_0_1:Nat} {ch_0_2:Option Addr} {ch_0_3:Nat} {ch_1_0:Option Addr} {ch_1_1:Nat} {ch_1_2:Option Addr} {ch_1_3:Nat} {r:Bool} (h0:s x1 x2=some r) {mi:Mem} {w0:World},CtrB Try.prog 35 [(.agg (Y39.segs x1 ((),(),(),(ch_0_0,ch_0_1),(ch_0_2,ch_0_3)))),(.agg (Y39.segs x2 ((),(),(),(ch_1_0,ch_1_1),(ch_1_2,ch_1_3))))] [] (fun (ch:Unit)=>((.b r):D)) (fun (ch:Unit)=>[]) mi w0
def ff8_.f (k:Nat)(x1:W1)(x2:W1):Option Bool:=if (x1.2.1==x2.2.1)=true then (if (decide (x1.2.2.1=x2.2.2.1))=true then ((fa8_.f k x1.2.2.2.1 x2.2.2.2.1).bind fun t1=>(if t1=true then ((ff4_.f k x1.2.2.2.2 x2.2.2.2.2).bind fun t2=>(some t2)) else (some false))) else (some false)) else (some false)
theorem ff8_.ok (k:Nat):ff8_.Ctr (ff8_.f k):=by
 intro x1 x2 ch_0_0 ch_0_1 ch_0_2 ch_0_3 ch_1_0 ch_1_1 ch_1_2 ch_1_3 r h0 mi w0 ok hm
 delta ff8_.f at h0
 refine c_enterZ (n:=31) ok hm func35 rfl rfl rfl fun b0 hb a S=>c_region (s_box S rfl rfl rfl fun g1 a w S=>s_box S rfl rfl rfl fun g2 a w S=>s_as1 S rfl fun a S=>c_end (c_region (s_fieldAddr S rfl I39_1 T32 (by decide) rfl rfl fun a S=>s_load1 S rfl .h1 T32 (v:=(.int .u64 x1.2.1)) rfl rfl fun a S=>s_fieldAddr S rfl I39_1 T32 (by decide) rfl rfl fun a S=>s_load1 S rfl .h T32 (v:=(.int .u64 x2.2.1)) rfl rfl fun a S=>s_bi S rfl fun a S=>s_mv1 S rfl fun a S=>?_)))
 rcases ite_of h0 with ⟨c1,h1⟩ | ⟨c1,h1⟩
 ·refine s_gT S (b:=(x1.2.1==x2.2.1)) rfl rfl c1 (s_fieldAddr S rfl I39_2 T35 (by decide) rfl rfl fun a S=>s_gT S (b:=(x1.2.1==x2.2.1)) rfl rfl c1 (s_loada S rfl .h1 T35 (s':=[.w4 x1.e3]) rfl rfl fun a S=>s_gT S (b:=(x1.2.1==x2.2.1)) rfl rfl c1 (s_fieldAddr S rfl I39_2 T35 (by decide) rfl rfl fun a S=>s_gT S (b:=(x1.2.1==x2.2.1)) rfl rfl c1 (s_loada S rfl .h T35 (s':=[.w4 x2.e3]) rfl rfl fun a S=>s_gT S (b:=(x1.2.1==x2.2.1)) rfl rfl c1 (s_eqa S rfl rfl underlying35 underlying32 T32 Q35 rfl fun a S=>s_pick S (b:=true) (hc_of rfl c1) rfl rfl fun a S=>s_mv1 S rfl fun a S=>?_)))))
  rcases ite_of h1 with ⟨c2,h2⟩ | ⟨c2,h2⟩
  ·refine s_gT S (b:=(decide (x1.e3=x2.e3))) rfl rfl c2 (s_fieldAddr S rfl I39_3 T36 (by decide) rfl rfl fun a S=>s_gT S (b:=(decide (x1.e3=x2.e3))) rfl rfl c2 (s_loadSl S rfl .h1 T36 (A:=ch_0_0) (len:=(x1.e4).length) (cap:=ch_0_1) rfl rfl fun a S=>s_gT S (b:=(decide (x1.e3=x2.e3))) rfl rfl c2 (s_fieldAddr S rfl I39_3 T36 (by decide) rfl rfl fun a S=>s_gT S (b:=(decide (x1.e3=x2.e3))) rfl rfl c2 (s_loadSl S rfl .h T36 (A:=ch_1_0) (len:=(x2.e4).length) (cap:=ch_1_1) rfl rfl fun a S=>s_gT S (b:=(decide (x1.e3=x2.e3))) rfl rfl c2 (bindX h2 fun t1 et1 h3=>s_callK S (fa8_.ok k et1) N45 rfl .pre (fun _=> .n) rfl fun ch1 m le1 a w S=>s_pick S (b:=true) (hc_of rfl c2) rfl rfl fun a S=>s_mv1 S rfl fun a S=>?_)))))
   rcases ite_of h3 with ⟨c3,h4⟩ | ⟨c3,h4⟩
   ·refine s_gT S (b:=t1) rfl rfl c3 (s_fieldAddr S rfl I39_4 T37 (by decide) rfl rfl fun a S=>s_gT S (b:=t1) rfl rfl c3 (s_loadSl S rfl .h1 T37 (A:=ch_0_2) (len:=(x1.t4).length) (cap:=ch_0_3) rfl rfl fun a S=>s_gT S (b:=t1) rfl rfl c3 (s_fieldAddr S rfl I39_4 T37 (by decide) rfl rfl fun a S=>s_gT S (b:=t1) rfl rfl c3 (s_loadSl S rfl .h T37 (A:=ch_1_2) (len:=(x2.t4).length) (cap:=ch_1_3) rfl rfl fun a S=>s_gT S (b:=t1) rfl rfl c3 (bindX h4 fun t2 et2 h5=>s_callK S (ff4_.ok k et2) N46 rfl .pre (fun _=> .n) rfl fun ch2 m le1 a w S=>s_pick S (b:=true) (hc_of rfl c3) rfl rfl fun a S=>s_as1 S rfl fun a S=>c_end (wp_ret ?_))))))
    obtain rfl:=sI h5
    exact b_ret1 (d:=(.b t2)) S rfl rfl (S.rt hb)
   ·refine s_gF S (b:=t1) rfl rfl c3 rfl fun a S=>s_gF S (b:=t1) rfl rfl c3 rfl fun a S=>s_gF S (b:=t1) rfl rfl c3 rfl fun a S=>s_gF S (b:=t1) rfl rfl c3 rfl fun a S=>s_gF S (b:=t1) rfl rfl c3 rfl fun a S=>s_pick S (b:=false) (hc_of rfl c3) rfl rfl fun a S=>s_as1 S rfl fun a S=>c_end (wp_ret ?_)
    obtain rfl:=sI h4
    exact b_ret1 (d:=(.b false)) S rfl rfl (S.rt hb)
  ·refine s_gF S (b:=(decide (x1.e3=x2.e3))) rfl rfl c2 rfl fun a S=>s_gF S (b:=(decide (x1.e3=x2.e3))) rfl rfl c2 rfl fun a S=>s_gF S (b:=(decide (x1.e3=x2.e3))) rfl rfl c2 rfl fun a S=>s_gF S (b:=(decide (x1.e3=x2.e3))) rfl rfl c2 rfl fun a S=>s_gF S (b:=(decide (x1.e3=x2.e3))) rfl rfl c2 rfl fun a S=>s_pick S (b:=false) (hc_of rfl c2) rfl rfl fun a S=>s_mv1 S rfl fun a S=>s_gF S (b:=false) rfl rfl rfl rfl fun a S=>s_gF S (b:=false) rfl rfl rfl rfl fun a S=>s_gF S (b:=false) rfl rfl rfl rfl fun a S=>s_gF S (b:=false) rfl rfl rfl rfl fun a S=>s_gF S (b:=false) rfl rfl rfl rfl fun a S=>s_pick S (b:=false) (hc_of rfl rfl) rfl rfl fun a S=>s_as1 S rfl fun a S=>c_end (wp_ret ?_)
   obtain rfl:=sI h2
   exact b_ret1 (d:=(.b false)) S rfl rfl (S.rt hb)
 ·refine s_gF S (b:=(x1.2.1==x2.2.1)) rfl rfl c1 rfl fun a S=>s_gF S (b:=(x1.2.1==x2.2.1)) rfl rfl c1 rfl fun a S=>s_gF S (b:=(x1.2.1==x2.2.1)) rfl rfl c1 rfl fun a S=>s_gF S (b:=(x1.2.1==x2.2.1)) rfl rfl c1 rfl fun a S=>s_gF S (b:=(x1.2.1==x2.2.1)) rfl rfl c1 rfl fun a S=>s_pick S (b:=false) (hc_of rfl c1) rfl rfl fun a S=>s_mv1 S rfl fun a S=>s_gF S (b:=false) rfl rfl rfl rfl fun a S=>s_gF S (b:=false) rfl rfl rfl rfl fun a S=>s_gF S (b:=false) rfl rfl rfl rfl fun a S=>s_gF S (b:=false) rfl rfl rfl rfl fun a S=>s_gF S (b:=false) rfl rfl rfl rfl fun a S=>s_pick S (b:=false) (hc_of rfl rfl) rfl rfl fun a S=>s_mv1 S rfl fun a S=>s_gF S (b:=false) rfl rfl rfl rfl fun a S=>s_gF S (b:=false) rfl rfl rfl rfl fun a S=>s_gF S (b:=false) rfl rfl rfl rfl fun a S=>s_gF S (b:=false) rfl rfl rfl rfl fun a S=>s_gF S (b:=false) rfl rfl rfl rfl fun a S=>s_pick S (b:=false) (hc_of rfl rfl) rfl rfl fun a S=>s_as1 S rfl fun a S=>c_end (wp_ret ?_)
  obtain rfl:=sI h1
  exact b_ret1 (d:=(.b false)) S rfl rfl (S.rt hb)
abbrev fe9_.Ty:Type:=(List Int)→(List Int)→Option Int
def fe9_.Ctr (s:fe9_.Ty):Prop:=∀ {x1:List Int} {x2:List Int} {ch_0_0:Option Addr} {ch_0_1:Nat} {ch_1_0:Option Addr} {ch_1_1:Nat} {r:Int} (h0:s x1 x2=some r) {mi:Mem} {w0:World},CtrB Try.prog 49 [(.q yb ch_0_0 ch_0_1 x1),(.q yb ch_1_0 ch_1_1 x2)] [] (fun (ch:Unit)=>((.i r):D)) (fun (ch:Unit)=>[]) mi w0
def fe9_.f (x1:List Int)(x2:List Int):Option Int:=some (Lib.compareBytes (u8s x1) (u8s x2))
theorem fe9_.ok:fe9_.Ctr (fe9_.f):=by
 intro x1 x2 ch_0_0 ch_0_1 ch_1_0 ch_1_1 r h0 mi w0 ok hm
 delta fe9_.f at h0
 refine c_enterZ (n:=8) ok hm func49 rfl rfl rfl fun b0 hb a S=>c_region (s_as1 S rfl fun a S=>c_end (c_region (s_mv2 S rfl fun a S=>s_extCmp S X64 rfl rfl rfl fun a S=>s_as1 S rfl fun a S=>c_end (wp_ret ?_))))
 obtain rfl:=sI h0
 exact b_ret1 (d:=(.i (Lib.compareBytes (u8s x1) (u8s x2)))) S rfl rfl (S.rt hb)
abbrev ff2_.Ty:Type:=(List Int)→(List Int)→Option Int
def ff2_.Ctr (s:ff2_.Ty):Prop:=∀ {x1:List Int} {x2:List Int} {r:Int} (h0:s x1 x2=some r) {mi:Mem} {w0:World},CtrB Try.prog 38 [(.agg [.b20 x1]),(.agg [.b20 x2])] [] (fun (ch:Unit)=>((.i r):D)) (fun (ch:Unit)=>[]) mi w0
def ff2_.f (x1:List Int)(x2:List Int):Option Int:=(fe9_.f (((x1).drop 0).take 20) (((x2).drop 0).take 20)).bind fun t1=>(some t1)
theorem ff2_.ok:ff2_.Ctr (ff2_.f):=by
 intro x1 x2 r h0 mi w0 ok hm
 delta ff2_.f at h0
 refine c_enterZ (n:=8) ok hm func38 rfl rfl rfl fun b0 hb a S=>c_region (s_box S rfl rfl rfl fun g1 a w S=>s_box S rfl rfl rfl fun g2 a w S=>s_as1 S rfl fun a S=>c_end ?_)
 refine wp_seq (c_hS S (.take 0 (.take 1 (.alts (.run 2 true (.take 3 .done) .nil)))) 4 .nil tv [(3,(.p g2)),(2,(.p g1))] rfl (by kernel_rfl) ?_); clear S; intro w S CL hw le
 refine h_sliceA S CL hw le (subR rfl) (i:=0) (j:=20) (o':=0) (len:=20) (cap:=20) rfl underlying31 T5 (.inl ⟨rfl,rfl⟩) (.inl ⟨rfl,rfl⟩) (by decide) rfl rfl rfl rfl rfl tv fun a S CL=>h_sliceA S CL hw le (subR rfl) (i:=0) (j:=20) (o':=0) (len:=20) (cap:=20) rfl underlying31 T5 (.inl ⟨rfl,rfl⟩) (.inl ⟨rfl,rfl⟩) (by decide) rfl rfl rfl rfl rfl tv fun a S CL=>h_run' S rfl tv ?_
 replace S:=S.freeze .h1
 obtain ⟨m,le1,S⟩:=S
 replace le:=le.trans le1
 replace S:=(S.slup' (u:=5) (lo:=0) (c:=20) (ys:=((x1).drop 0).take 20) rfl (Pull.mem .h1).1 .h (.inl rfl) (by decide) (by decide) rfl).2
 replace S:=S.freeze .h
 obtain ⟨m,le1,S⟩:=S
 replace le:=le.trans le1
 replace S:=(S.slup' (u:=6) (lo:=0) (c:=20) (ys:=((x2).drop 0).take 20) rfl (Pull.mem .h).1 .h (.inl rfl) (by decide) (by decide) rfl).2
 replace CL:=CL.drop (lq':=[(3,(.p g2)),(2,(.p g1))]) (subR rfl)
 refine bindX h0 fun t1 et1 h1=>s_callK S (fe9_.ok et1) N49 rfl .pre (fun _=> .n) rfl fun ch1 m le1 a w S=>?_
 replace le:=le.trans le1
 refine CL.bk hw S .nil le fun hw=>?_
 replace CL:=CL.add (t:=7) (d:=(.i t1)) S rfl rfl
 refine h_assign S CL hw le (subR rfl) rfl rfl rfl tv fun a S CL=>?_
 refine h_done ?_; clear CL hw le
 refine x_thenN (wp_ret ?_)
 obtain rfl:=sI h1
 exact b_ret1 (d:=(.i t1)) S rfl rfl (S.rt hb)
abbrev fa0_.Ty:Type:=W26→W26→Option Int
def fa0_.Ctr (s:fa0_.Ty):Prop:=∀ {x1:W26} {x2:W26} {ch_0_0:Option Addr} {ch_0_1:Nat} {ch_0_2:Nat} {ch_0_3:Mem→Prop} {ch_0_4:Option Addr} {ch_0_5:Nat} {ch_0_6:Nat} {ch_0_7:Mem→Prop} {ch_1_0:Option Addr} {ch_1_1:Nat} {ch_1_2:Nat} {ch_1_3:Mem→Prop} {ch_1_4:Option Addr} {ch_1_5:Nat} {ch_1_6:Nat} {ch_1_7:Mem→Prop} {r:Int} (h0:s x1 x2=some r) {mi:Mem} {w0:World},CtrB Try.prog 37 [(.agg [.b20 x1.1, .w x1.2.1, .w4 x1.e3, .sl ch_0_0 ch_0_1 ch_0_2 ch_0_3, .sl ch_0_4 ch_0_5 ch_0_6 ch_0_7]),(.agg [.b20 x2.1, .w x2.2.1, .w4 x2.e3, .sl ch_1_0 ch_1_1 ch_1_2 ch_1_3, .sl ch_1_4 ch_1_5 ch_1_6 ch_1_7])] [] (fun (ch:Unit)=>((.i r):D)) (fun (ch:Unit)=>[]) mi w0
def fa0_.f (x1:W26)(x2:W26):Option Int:=(ff2_.f x1.1 x2.1).bind fun t1=>(some t1)
theorem fa0_.ok:fa0_.Ctr (fa0_.f):=by
 intro x1 x2 ch_0_0 ch_0_1 ch_0_2 ch_0_3 ch_0_4 ch_0_5 ch_0_6 ch_0_7 ch_1_0 ch_1_1 ch_1_2 ch_1_3 ch_1_4 ch_1_5 ch_1_6 ch_1_7 r h0 mi w0 ok hm
 delta fa0_.f at h0
 refine c_enterZ (n:=10) ok hm func37 rfl rfl rfl fun b0 hb a S=>c_region (s_box S rfl rfl rfl fun g1 a w S=>s_box S rfl rfl rfl fun g2 a w S=>s_as1 S rfl fun a S=>c_end (c_region (s_fieldAddr S rfl I39_0 T31 (by decide) rfl rfl fun a S=>s_loada S rfl .h1 T31 (s':=[.b20 x1.1]) rfl rfl fun a S=>s_fieldAddr S rfl I39_0 T31 (by decide) rfl rfl fun a S=>s_loada S rfl .h T31 (s':=[.b20 x2.1]) rfl rfl fun a S=>bindX h0 fun t1 et1 h1=>s_callK S (ff2_.ok et1) N38 rfl .pre (fun _=> .n) rfl fun ch1 m le1 a w S=>s_as1 S rfl fun a S=>c_end (wp_ret ?_))))
 obtain rfl:=sI h1
 exact b_ret1 (d:=(.i t1)) S rfl rfl (S.rt hb)
abbrev G2:SortG:={ α:=L39,inh:=inferInstance,T:=Y39,e:=39,s:=22,c:=89,φ:=fun f=>bif Nat.beq f 67 then 54 else bif Nat.beq f 80 then 75 else bif Nat.beq f 68 then 55 else bif Nat.beq f 69 then 56 else bif Nat.beq f 84 then 83 else bif Nat.beq f 82 then 79 else bif Nat.beq f 81 then 78 else bif Nat.beq f 70 then 57 else bif Nat.beq f 71 then 58 else bif Nat.beq f 72 then 59 else bif Nat.beq f 73 then 60 else bif Nat.beq f 74 then 61 else bif Nat.beq f 53 then 47 else bif Nat.beq f 42 then 36 else f,fc:=37,cmp:=fun _ x y=>fa0_.f ((x.1,x.2.1,x.2.2.1,(),())) ((y.1,y.2.1,y.2.2.1,(),())) }
theorem H2:SortG.Ok G2 where
  hT:=T39
  hU:=underlying22
  hcmp:=fun {k x y cx cy r} e=>fa0_.ok (ch_0_0:=cx.e4.1) (ch_0_1:=(x.e4).length) (ch_0_2:=cx.e4.2) (ch_0_3:=(RdS yb cx.e4.1 x.e4)) (ch_0_4:=cx.e5) (ch_0_5:=(x.t4).length) (ch_0_6:=cx.t5) (ch_0_7:=(RdS Y82 cx.e5 x.t4)) (ch_1_0:=cy.e4.1) (ch_1_1:=(y.e4).length) (ch_1_2:=cy.e4.2) (ch_1_3:=(RdS yb cy.e4.1 y.e4)) (ch_1_4:=cy.e5) (ch_1_5:=(y.t4).length) (ch_1_6:=cy.t5) (ch_1_7:=(RdS Y82 cy.e5 y.t4)) e
  nc:=N37
  n67:=⟨⟨_,func54,by kernel_rfl,rfl,by kernel_rfl,by decide⟩⟩
  n80:=⟨⟨_,func75,by kernel_rfl,rfl,by kernel_rfl,by decide⟩⟩
  n68:=⟨⟨_,func55,by kernel_rfl,rfl,by kernel_rfl,by decide⟩⟩
  n69:=⟨⟨_,func56,by kernel_rfl,rfl,by kernel_rfl,by decide⟩⟩
  n84:=⟨⟨_,func83,by kernel_rfl,rfl,by kernel_rfl,by decide⟩⟩
  n82:=⟨⟨_,func79,by kernel_rfl,rfl,by kernel_rfl,by decide⟩⟩
  n81:=⟨⟨_,func78,by kernel_rfl,rfl,by kernel_rfl,by decide⟩⟩
  n70:=⟨⟨_,func57,by kernel_rfl,rfl,by kernel_rfl,by decide⟩⟩
  n71:=⟨⟨_,func58,by kernel_rfl,rfl,by kernel_rfl,by decide⟩⟩
  n72:=⟨⟨_,func59,by kernel_rfl,rfl,by kernel_rfl,by decide⟩⟩
  n73:=⟨⟨_,func60,by kernel_rfl,rfl,by kernel_rfl,by decide⟩⟩
  n74:=⟨⟨_,func61,by kernel_rfl,rfl,by kernel_rfl,by decide⟩⟩
  n53:=⟨⟨_,func47,by kernel_rfl,rfl,by kernel_rfl,by decide⟩⟩
  n42:=⟨⟨_,func36,by kernel_rfl,rfl,by kernel_rfl,by decide⟩⟩
abbrev G2z (Z:Mem):SortG:={ G2 with T:=Ty.atZ Z Y39 }
theorem H2z (Z:Mem):SortG.Ok (G2z Z) where
  hT:=T39
  hU:=underlying22
  hcmp:=fun {k x y cx cy r} e=>fa0_.ok (ch_0_0:=cx.e4.1) (ch_0_1:=(x.e4).length) (ch_0_2:=cx.e4.2) (ch_0_3:=(atR Z (RdS yb cx.e4.1 x.e4))) (ch_0_4:=cx.e5) (ch_0_5:=(x.t4).length) (ch_0_6:=cx.t5) (ch_0_7:=(atR Z (RdS Y82 cx.e5 x.t4))) (ch_1_0:=cy.e4.1) (ch_1_1:=(y.e4).length) (ch_1_2:=cy.e4.2) (ch_1_3:=(atR Z (RdS yb cy.e4.1 y.e4))) (ch_1_4:=cy.e5) (ch_1_5:=(y.t4).length) (ch_1_6:=cy.t5) (ch_1_7:=(atR Z (RdS Y82 cy.e5 y.t4))) e
  nc:=N37
  n67:=H2.n67
  n80:=H2.n80
  n68:=H2.n68
  n69:=H2.n69
  n84:=H2.n84
  n82:=H2.n82
  n81:=H2.n81
  n70:=H2.n70
  n71:=H2.n71
  n72:=H2.n72
  n73:=H2.n73
  n74:=H2.n74
  n53:=H2.n53
  n42:=H2.n42
theorem Z2s (Z:Mem)(k:Nat)(xs:List L39):ff5_.f (G2z Z) k xs=ff5_.f G2 k xs:=by kernel_rfl
theorem Z2o (Z:Mem)(k:Nat):ff5_.Ctr (G2z Z) (ff5_.f G2 k):=fun {x1 c0 c1 c2 r} h0 {mi w0}=>ff5_.ok (G2z Z) (H2z Z) k ((Z2s Z k x1).trans h0)
abbrev fc2_.Ty:Type:=W2→Option (List L39)
def fc2_.Ctr (s:fc2_.Ty):Prop:=∀ {x1:W2} {ch_0:W3} {r:List L39} (h0:s x1=some r) {mi:Mem} {w0:World},CtrB Try.prog 18 [(.v (.pointer (some ⟨ch_0.1,0,none⟩)))] (MS1 x1 ch_0) (fun (ch:W23)=>((.s ch.1 ch.2.1 ch.e3):D)) (fun (ch:W23)=>([Res.row (Ty.atZ ch.t3 Y39) 39 ch.1 ch.2.1 ch.e3 r,Res.priv ch.t3]++MS1 x1 ch_0)) mi w0
def fc2_.j1 (k:Nat)(y1:List L39):Option (List L39):=(ff5_.f G2 k y1).bind fun t1=>(some t1)
def fc2_.j2 (k:Nat)(x1:W2)(y14:List L39)(y15:W25)(rec1:(List L39)→W25→Option (List L39))(e1:(List Int)×(Option Nat))(y16:List Int)(y17:Int)(y18:List Int)(y19:List Int)(y20:W17):Option (List L39):=if e1.2.isSome=true then ((ff8_.f k (y16,y17,y18,y19,y20) ((atE x1.2.1.2.1 (e1.2.getD 0)).1)).bind fun t10=>(if (!t10)=true then (if ((y14).length+([(y16,y17,y18,y19,y20)]).length)*112≤140737488355328 then (rec1 (y14++[(y16,y17,y18,y19,y20)]) (adel y15 e1.1)) else none) else (rec1 y14 (adel y15 e1.1)))) else none
def fc2_.b1 (k:Nat)(x1:W2)(rec1:(List L39)→W25→Option (List L39))(y14:List L39)(y15:W25):Option (List L39):=rngL y15 (fc2_.j1 k y14) fun e1=>if e1.2.isSome=true then (if (!((atE x1.2.1.2.1 (e1.2.getD 0)).2.2.2.2.1))=true then ((fa9_.f (((atE x1.2.1.2.1 (e1.2.getD 0)).2.1).2.2.2.1)).bind fun t11=>((fc_.f k ((atE x1.2.1.2.1 (e1.2.getD 0)).1,(atE x1.2.1.2.1 (e1.2.getD 0)).2.1,(atE x1.2.1.2.1 (e1.2.getD 0)).2.2.1,atE x1.2.1.2.2.1 ((atE x1.2.1.2.1 (e1.2.getD 0)).2.2.2.1),(atE x1.2.1.2.1 (e1.2.getD 0)).2.2.2.2.1,(atE x1.2.1.2.1 (e1.2.getD 0)).2.2.2.2.2.1,atE x1.2.1.2.2.2 ((atE x1.2.1.2.1 (e1.2.getD 0)).2.2.2.2.2.2))).bind fun t12=>(fc2_.j2 k x1 y14 y15 rec1 e1 (((atE x1.2.1.2.1 (e1.2.getD 0)).2.1).1) (((atE x1.2.1.2.1 (e1.2.getD 0)).2.1).2.1) (((atE x1.2.1.2.1 (e1.2.getD 0)).2.1).2.2.1) t11 t12))) else (fc2_.j2 k x1 y14 y15 rec1 e1 e1.1 0 [0,0,0,0] ([]:List Int) ([]:List ((List Int)×(List Int))))) else none
def fc2_.l1 (k:Nat)(x1:W2):Nat→(List L39)→W25→Option (List L39)
  | 0,_,_=>none
  | q+1,y14,y15=>fc2_.b1 k x1 (fc2_.l1 k x1 q) y14 y15
def fc2_.f (k:Nat)(x1:W2):Option (List L39):=fc2_.l1 k x1 k ([]:List L39) x1.2.1.1
theorem fc2_.ok (k:Nat):fc2_.Ctr (fc2_.f k):=by
 intro x1 ch_0 r h0 mi w0 ok hm
 delta fc2_.f at h0
 refine c_enterZ (n:=55) ok hm func18 rfl rfl rfl fun b0 hb a S=>c_region (s_as1 S rfl fun a S=>c_end (c_region (s_as1 S rfl fun a S=>c_end (wp_seq (c_region (s_mv1 S rfl fun a S=>s_eqp S (b:=false) rfl rfl underlying26 rfl rfl fun a S=>c_end (c_condF S rfl rfl (wp_skip (x_thenN (wp_seq_k fun K1 hK1=>?_))))))))))
 have j1:∀ m A1 nn1 cp1 y1 mz1 a w,St 55 m b0 [(3,(.s A1 nn1 cp1))] ([Res.row (Ty.atZ mz1 Y39) 39 A1 nn1 cp1 y1,Res.priv mz1]++MS1 x1 ch_0) a w→fc2_.j1 k y1=some r→K1 a w:=by
  intro m A1 nn1 cp1 y1 mz1 a w S h0
  delta fc2_.j1 at h0
  refine hK1 a w (c_region (s_mv1 S rfl fun a S=>bindX h0 fun t1 et1 h1=>s_callK S (Z2o mz1 k et1) N36 rfl .pre (fun _=> .c1) rfl fun ch1 m le1 a w S=>c_end (c_region (s_mv1 S rfl fun a S=>s_as1 S rfl fun a S=>c_end (wp_ret ?_)))))
  obtain rfl:=sI h1
  exact b_ret1 (d:=(.s A1 nn1 cp1)) S rfl rfl fun ok=>S.retX (Hx:=[]) hb _ _ ((A1,nn1,cp1,mz1):W23) (.c0 (.c0 (.c0 (.c0 (.c0 (.c0 (.c0 (.c0 (.c0 (.c0 .n)))))))))) ok
 refine c_region (s_mv1 S rfl fun a S=>s_nilchk S rfl rfl fun a S=>s_fieldAddr S rfl I72_1 T69 (by decide) rfl rfl fun a S=>s_load1 S rfl .h T69 (v:=(.map (some ch_0.e4))) rfl rfl fun a S=>s_rangeO S rfl (fun _ _=> .h1) underlying69 rfl fun g1 es1 ck1 a w S=>c_end (wp_block ?_))
 replace S:=S.privnew
 replace S:=S.nilrow (Ty.atZ GW.m0 Y39) 39
 refine c_loop (fun q1 a w=>∃ m A2 nn3 cp9 y14 mz9 g14 y15 cu1,St 55 m b0 [(3,(.s A2 nn3 cp9)),(14,(.p g14))] [Res.row (Ty.atZ mz9 Y39) 39 A2 nn3 cp9 y14,Res.priv mz9,Res.iterx true (Ty.arr .u8 20) false (Ty.pid ch_0.e5) g14 ch_0.e4 es1 ck1 x1.2.1.1 y15 cu1,Res.cells ch_0.1 72 [.rf (.iface 68 (.agg (cellsOf [.q Y39 ch_0.2.1 ch_0.e3 x1.1]).toArray)) (IfR [.q Y39 ch_0.2.1 ch_0.e3 x1.1]), .one (.map (some ch_0.e4)), .i x1.e3, .s ch_0.e8 ch_0.e9 ch_0.e10, .s ch_0.e11 ch_0.e12 ch_0.e13, .s ch_0.e14 ch_0.e15 ch_0.t15],Res.mapx true (Ty.arr .u8 20) false (Ty.pid ch_0.e5) ch_0.e4 es1 ck1 x1.2.1.1,Res.fam (Res.struct (YE76 ch_0.e6 ch_0.e7) 76) (one_struct _ _) ch_0.e5 [] x1.2.1.2.1,Res.fam (fun g_ kvs_=>Res.map true (Ty.arr .u64 4) true (Ty.arr .u64 4) g_ kvs_) (one_map true (Ty.arr .u64 4) true (Ty.arr .u64 4)) ch_0.e6 [] x1.2.1.e3,Res.fam (fun g_ kvs_=>Res.map true (Ty.arr .u64 4) false Ty.bool g_ kvs_) (one_map true (Ty.arr .u64 4) false Ty.bool) ch_0.e7 [] x1.2.1.t3,Res.row Y51 51 ch_0.e8 ch_0.e9 ch_0.e10 x1.e4,Res.row (YC ch_0.1 ch_0.e5 ch_0.e6 ch_0.e7) 1 ch_0.e11 ch_0.e12 ch_0.e13 x1.e5,Res.row (Ty.arr .u8 20) 31 ch_0.e14 ch_0.e15 ch_0.t15 x1.t5] a w∧fc2_.l1 k x1 q1 y14 y15=some r) ?_ ?_ (k:=k) ⟨_,none,0,0,([]:List L39),GW.m0,g1,x1.2.1.1,none,(S.sb rfl (.c0 (.c0 (.c0 (.c0 (.c0 (.c0 (.c0 (.c0 (.c0 (.c0 (.c0 .n)))))))))))),h0⟩
 ·rintro a w ⟨m,A2,nn3,cp9,y14,mz9,g14,y15,cu1,S,h0⟩
  exact (nomatch (show (none:Option (List L39))=some r from h0))
 ·clear S h0
  rintro q1 a w ⟨m,A2,nn3,cp9,y14,mz9,g14,y15,cu1,S,h0⟩
  replace h0:fc2_.b1 k x1 (fc2_.l1 k x1 q1) y14 y15=some r:=h0
  delta fc2_.b1 at h0
  refine c_region ?_
  refine s_nextO S rfl (fun _ _=> .h2) .h4 rfl ?_ ?_
  ·clear S a; intro hR a S
   have h1:=(rng_of h0).1 hR; clear h0
   refine s_extract S rfl rfl rfl rfl fun a S=>c_end (wp_seq (c_condF S rfl rfl (wp_exit (x_thenX (x_thenX (x_blockX (x_thenN ?_)))))))
   exact j1 _ A2 nn3 cp9 y14 mz9 a w (S.sub ⟨rfl,tv⟩ (.c0 (.c0 (.c1 (.c1 (.c1 (.c1 (.c1 (.c1 (.c1 (.c1 .n))))))))))) h1
  ·clear S a w; intro e1 hee1 ch24 ch25 a w S
   have h1:=(rng_of h0).2 e1 hee1; clear h0
   refine s_extract S rfl rfl rfl rfl fun a S=>c_end (wp_seq (c_condT S rfl rfl (wp_skip (x_thenN (wp_block (c_region (s_entryO S rfl .h2 .h4 rfl fun ch26 ch27 a S=>s_extract S rfl rfl rfl rfl fun a S=>s_extract S rfl rfl rfl rfl fun a S=>s_alloc S Z31 rfl ⟨rfl,tv⟩ rfl fun g15 a w S=>s_store S rfl rfl rfl (s':=[.b20 e1.1]) .h T31 rfl rfl fun w S=>s_as1 S rfl fun a S=>c_end (c_region (s_loada S rfl .h T31 (s':=[.b20 e1.1]) rfl rfl fun a S=>s_bldS S (ds:=[(0,(.agg [.b20 e1.1]))]) (zs:=[.b20 z20, .w 0, .w4 [0,0,0,0], .s none 0 0, .s none 0 0]) (s':=[.b20 e1.1, .w 0, .w4 [0,0,0,0], .s none 0 0, .s none 0 0]) rfl underlying39 P39 Z39 ⟨rfl,rfl,rfl,rfl,rfl,tv⟩ rfl rfl fun a S=>s_alloc S Z39 rfl ⟨rfl,rfl,rfl,rfl,rfl,tv⟩ rfl fun g16 a w S=>s_store S rfl rfl rfl (s':=[.b20 e1.1, .w 0, .w4 [0,0,0,0], .s none 0 0, .s none 0 0]) .h T39 rfl rfl fun w S=>c_end (wp_seq_k fun K2 hK2=>?_))))))))))
   have j2:∀ m g17 g18 y16 y17 y18 A3 nn4 cp10 y19 A4 nn5 cp11 y20 a w,St 55 m b0 [(6,(.p g17)),(5,(.rf (ptrV ch_0.e5 e1.2) (ptrR ch_0.e5 e1.2))),(3,(.s A2 nn3 cp9)),(14,(.p g18))] [Res.row Y82 82 A4 nn5 cp11 y20,Res.row yb 5 A3 nn4 cp10 y19,Res.cells g17 39 [.b20 y16, .w y17, .w4 y18, .s A3 nn4 cp10, .s A4 nn5 cp11],Res.row (Ty.atZ mz9 Y39) 39 A2 nn3 cp9 y14,Res.priv mz9,Res.iterx true (Ty.arr .u8 20) false (Ty.pid ch_0.e5) g18 ch_0.e4 es1 ck1 x1.2.1.1 (adel y15 e1.1) (some e1),Res.cells ch_0.1 72 [.rf (.iface 68 (.agg (cellsOf [.q Y39 ch_0.2.1 ch_0.e3 x1.1]).toArray)) (IfR [.q Y39 ch_0.2.1 ch_0.e3 x1.1]), .one (.map (some ch_0.e4)), .i x1.e3, .s ch_0.e8 ch_0.e9 ch_0.e10, .s ch_0.e11 ch_0.e12 ch_0.e13, .s ch_0.e14 ch_0.e15 ch_0.t15],Res.mapx true (Ty.arr .u8 20) false (Ty.pid ch_0.e5) ch_0.e4 es1 ck1 x1.2.1.1,Res.fam (Res.struct (YE76 ch_0.e6 ch_0.e7) 76) (one_struct _ _) ch_0.e5 [] x1.2.1.2.1,Res.fam (fun g_ kvs_=>Res.map true (Ty.arr .u64 4) true (Ty.arr .u64 4) g_ kvs_) (one_map true (Ty.arr .u64 4) true (Ty.arr .u64 4)) ch_0.e6 [] x1.2.1.e3,Res.fam (fun g_ kvs_=>Res.map true (Ty.arr .u64 4) false Ty.bool g_ kvs_) (one_map true (Ty.arr .u64 4) false Ty.bool) ch_0.e7 [] x1.2.1.t3,Res.row Y51 51 ch_0.e8 ch_0.e9 ch_0.e10 x1.e4,Res.row (YC ch_0.1 ch_0.e5 ch_0.e6 ch_0.e7) 1 ch_0.e11 ch_0.e12 ch_0.e13 x1.e5,Res.row (Ty.arr .u8 20) 31 ch_0.e14 ch_0.e15 ch_0.t15 x1.t5] a w→fc2_.j2 k x1 y14 y15 (fc2_.l1 k x1 q1) e1 y16 y17 y18 y19 y20=some r→K2 a w:=by
    intro m g17 g18 y16 y17 y18 A3 nn4 cp10 y19 A4 nn5 cp11 y20 a w S h0
    delta fc2_.j2 at h0
    refine hK2 a w ?_
    refine wp_seq (c_hS S (.take 0 (.take 1 (.alts (.run 2 true (.take 3 (.alts (.run 4 true (.alts (.run 5 false (.pure 6 .done) .nil)) .nil))) .nil)))) 5 (.c2 .n) ⟨Res.stay_cells,tv⟩ [(6,(.p g17)),(5,(.rf (ptrV ch_0.e5 e1.2) (ptrR ch_0.e5 e1.2)))] rfl (by kernel_rfl) ?_); clear S; intro w S CL hw le
    refine h_loada S CL hw le (subR rfl) rfl .h T39 (s':=[.b20 y16, .w y17, .w4 y18, .s A3 nn4 cp10, .s A4 nn5 cp11]) rfl rfl rfl tv fun a S CL=>h_mv1 S CL hw le rfl tv fun a S CL=>h_run' S rfl tv ?_
    obtain ⟨c1,h1⟩:=chk_of h0; clear h0
    have hl1:=S.slotPlt (u:=42) c1 rfl
    replace S:=S.slotP (u:=42) c1 rfl
    replace CL:=CL.drop (lq':=[(41,(.agg [.b20 y16, .w y17, .w4 y18, .s A3 nn4 cp10, .s A4 nn5 cp11])),(6,(.p g17)),(5,(.rf (ptrV ch_0.e5 e1.2) (ptrR ch_0.e5 e1.2)))]) (subR rfl)
    refine s_nilchk S rfl rfl fun a S=>CL.bk hw S (.c2 .n) le fun hw=>?_
    replace CL:=CL.add (t:=43) (d:=(.v (.pointer (some ⟨(bAt ch_0.e5 (e1.2.getD 0)),0,none⟩)))) S rfl rfl
    refine h_fieldAddr S CL hw le (subR rfl) rfl I76_0 T39 (by decide) rfl rfl rfl tv fun a S CL=>h_run' S rfl tv ?_
    replace S:=S.famOpen (i:=(e1.2.getD 0)) hl1 .h8
    have hS:=S.structOpen (T:=(YE76 ch_0.e6 ch_0.e7)) (fun _=> .h) (((),(),(),(none,0),(none,0)),((),(),(),(none,0),(none,0)),(),(),(),(),())
    clear S; obtain ⟨ch34,S⟩:=hS
    refine s_loada S rfl .h T39 (s':=(Y39.segs ((atE x1.2.1.2.1 (e1.2.getD 0)).1) ch34.1)) rfl rfl fun a S=>?_
    replace S:=S.structClose (T:=(YE76 ch_0.e6 ch_0.e7)) (e:=atE x1.2.1.2.1 (e1.2.getD 0)) (ch34:((YE76 ch_0.e6 ch_0.e7)).Ch) rfl .h
    replace S:=S.famShut hl1 .h .h8
    refine CL.bk hw S (.c2 .n) le fun hw=>h_run' S rfl tv ?_
    replace S:=S.privnew
    replace S:=S.privrow flatT_int .h2 (fun _=> .h)
    obtain ⟨mz10,le2,S,hro⟩:=S
    replace S:=S.slot (u:=41) (d':=(.agg [.b20 y16, .w y17, .w4 y18, .sl A3 (y19).length cp10 (atR mz10 (RdS yb A3 y19)), .s A4 nn5 cp11])) rfl (by simp [D.val,pd,cellsOf,Seg.cells,hro.2.1]) (by have h:=(S.get 41 (.agg [.b20 y16, .w y17, .w4 y18, .s A3 nn4 cp10, .s A4 nn5 cp11]) rfl).2; exact ⟨h.1,h.2.1,h.2.2.1,(okz_of hro _),h.2.2.2.2.1,tv⟩)
    replace S:=S.cellro (s':=[.b20 y16, .w y17, .w4 y18, .sl A3 (y19).length cp10 (atR mz10 (RdS yb A3 y19)), .s A4 nn5 cp11]) .h2 (by simp [cellsOf,Seg.cells,hro.2.1]) (fun h=>⟨h.1,h.2.1,h.2.2.1,(okz_of hro _),h.2.2.2.2.1,tv⟩)
    replace S:=S.privrow (flatT_prod flatT_arr flatT_arr) .h1 (fun _=> .h)
    obtain ⟨mz11,le2,S,hro⟩:=S
    replace S:=S.cellro (s':=[.b20 y16, .w y17, .w4 y18, .sl A3 (y19).length cp10 (atR mz11 (RdS yb A3 y19)), .s A4 nn5 cp11]) .h1 rfl (fun h=>⟨h.1,h.2.1,h.2.2.1,(okz_up le2 h.2.2.2.1),h.2.2.2.2.1,tv⟩)
    replace S:=S.slot (u:=41) (d':=(.agg [.b20 y16, .w y17, .w4 y18, .sl A3 (y19).length cp10 (atR mz11 (RdS yb A3 y19)), .s A4 nn5 cp11])) rfl rfl (by have h:=(S.get 41 (.agg [.b20 y16, .w y17, .w4 y18, .sl A3 (y19).length cp10 (atR mz10 (RdS yb A3 y19)), .s A4 nn5 cp11]) rfl).2; exact ⟨h.1,h.2.1,h.2.2.1,(okz_up le2 h.2.2.2.1),h.2.2.2.2.1,tv⟩)
    replace S:=S.slot (u:=41) (d':=(.agg [.b20 y16, .w y17, .w4 y18, .sl A3 (y19).length cp10 (atR mz11 (RdS yb A3 y19)), .sl A4 (y20).length cp11 (atR mz11 (RdS Y82 A4 y20))])) rfl (by simp [D.val,pd,cellsOf,Seg.cells,hro.2.1]) (by have h:=(S.get 41 (.agg [.b20 y16, .w y17, .w4 y18, .sl A3 (y19).length cp10 (atR mz11 (RdS yb A3 y19)), .s A4 nn5 cp11]) rfl).2; exact ⟨h.1,h.2.1,h.2.2.1,h.2.2.2.1,(okz_of hro _),tv⟩)
    replace S:=S.cellro (s':=[.b20 y16, .w y17, .w4 y18, .sl A3 (y19).length cp10 (atR mz11 (RdS yb A3 y19)), .sl A4 (y20).length cp11 (atR mz11 (RdS Y82 A4 y20))]) .h1 (by simp [cellsOf,Seg.cells,hro.2.1]) (fun h=>⟨h.1,h.2.1,h.2.2.1,h.2.2.2.1,(okz_of hro _),tv⟩)
    replace CL:=CL.drop (lq':=[(44,(.v (.pointer (some ⟨(bAt ch_0.e5 (e1.2.getD 0)),0,none⟩)))),(43,(.v (.pointer (some ⟨(bAt ch_0.e5 (e1.2.getD 0)),0,none⟩)))),(6,(.p g17)),(5,(.rf (ptrV ch_0.e5 e1.2) (ptrR ch_0.e5 e1.2)))]) (subR rfl)
    refine bindX h1 fun t10 et10 h2=>s_callL S (ds':=[(.agg [.b20 y16, .w y17, .w4 y18, .sl A3 (y19).length cp10 (atR mz11 (RdS yb A3 y19)), .sl A4 (y20).length cp11 (atR mz11 (RdS Y82 A4 y20))]),(.agg (Y39.segs ((atE x1.2.1.2.1 (e1.2.getD 0)).1) ch34.1))]) (ds:=[(.agg (Y39.segs (y16,y17,y18,y19,y20) ((),(),(),(A3,cp10),(A4,cp11)))),(.agg (Y39.segs ((atE x1.2.1.2.1 (e1.2.getD 0)).1) ch34.1))]) (fun (ch:Unit)=>((.b t10):D)) (fun _ _ _ h=>h) (by obtain ⟨mm,g1,gZ,g2⟩:=S.plend .h; exact ⟨mm,g1,g2,fun ok=>⟨(by have h:=ok.1; exact ⟨h.1,h.2.1,h.2.2.1,(okz_lend gZ h.2.2.2.1),(okz_lend gZ h.2.2.2.2.1),tv⟩),ok.2.1,tv⟩⟩) N35 rfl rfl rfl (fun _=>ff8_.ok k et10) fun ch35 a w S=>?_
    refine h_back ⟨fun h=>(nomatch h),?_⟩
    refine p_not S rfl rfl rfl tv fun a S=>?_
    refine h_done ?_; clear CL hw le
    refine x_thenN ?_
    rcases ite_of h2 with ⟨c2,h3⟩ | ⟨c2,h3⟩
    ·refine c_condT S rfl c2 (c_region' (s_mv1 S rfl fun a S=>s_loada S rfl .h1 T39 (s':=[.b20 y16, .w y17, .w4 y18, .sl A3 (y19).length cp10 (atR mz11 (RdS yb A3 y19)), .sl A4 (y20).length cp11 (atR mz11 (RdS Y82 A4 y20))]) rfl rfl fun a S=>s_bldSl S (ty':=(Ty.atZ mz11 Y39)) (ds:=[(0,(.agg [.b20 y16, .w y17, .w4 y18, .sl A3 (y19).length cp10 (atR mz11 (RdS yb A3 y19)), .sl A4 (y20).length cp11 (atR mz11 (RdS Y82 A4 y20))]))]) (z:=zt1) (c0:=((),(),(),(none,0),(none,0))) (ys:=[(y16,y17,y18,y19,y20)]) (cs:=[((),(),(),(A3,cp10),(A4,cp11))]) rfl underlying22 J39 Z39 rfl ⟨rfl,rfl,rfl,okz_nil,okz_nil,tv⟩ rfl rfl rfl rfl rfl rfl fun g19 a w S=>?_))
     replace S:=S.zmerge .h1 (fun _=> .h3)
     obtain ⟨mz12,le2,le3,S⟩:=S
     replace S:=S.zup (Z':=mz12) .h2 le2
     replace S:=S.zup (Z':=mz12) .h le3
     replace S:=S.cellro (s':=[.b20 y16, .w y17, .w4 y18, .sl A3 (y19).length cp10 (atR mz12 (RdS yb A3 y19)), .sl A4 (y20).length cp11 (atR mz12 (RdS Y82 A4 y20))]) .h1 rfl (fun h=>⟨h.1,h.2.1,h.2.2.1,(okz_up le3 h.2.2.2.1),(okz_up le3 h.2.2.2.2.1),tv⟩)
     replace S:=S.slot (u:=49) (d':=(.agg [.b20 y16, .w y17, .w4 y18, .sl A3 (y19).length cp10 (atR mz12 (RdS yb A3 y19)), .sl A4 (y20).length cp11 (atR mz12 (RdS Y82 A4 y20))])) rfl rfl (by have h:=(S.get 49 (.agg [.b20 y16, .w y17, .w4 y18, .sl A3 (y19).length cp10 (atR mz11 (RdS yb A3 y19)), .sl A4 (y20).length cp11 (atR mz11 (RdS Y82 A4 y20))]) rfl).2; exact ⟨h.1,h.2.1,h.2.2.1,(okz_up le3 h.2.2.2.1),(okz_up le3 h.2.2.2.2.1),tv⟩)
     replace S:=S.slot (u:=41) (d':=(.agg [.b20 y16, .w y17, .w4 y18, .sl A3 (y19).length cp10 (atR mz12 (RdS yb A3 y19)), .sl A4 (y20).length cp11 (atR mz12 (RdS Y82 A4 y20))])) rfl rfl (by have h:=(S.get 41 (.agg [.b20 y16, .w y17, .w4 y18, .sl A3 (y19).length cp10 (atR mz11 (RdS yb A3 y19)), .sl A4 (y20).length cp11 (atR mz11 (RdS Y82 A4 y20))]) rfl).2; exact ⟨h.1,h.2.1,h.2.2.1,(okz_up le3 h.2.2.2.1),(okz_up le3 h.2.2.2.2.1),tv⟩)
     obtain ⟨c3,h4⟩:=chk_of h3; clear h3
     refine s_app S (k2:=1) (ys:=[(y16,y17,y18,y19,y20)]) rfl (fun _ _=> .h2) rfl rfl (S.holds _ (Pull.mem .h).1).1 (Res.row.src (S.holds _ (Pull.mem .h).1)) underlying22 J39 c3 rfl fun A5 cp12 a w S=>s_as1 S rfl fun a S=>c_end' (x_blockN (x_thenN ?_))
     exact ⟨_,A5,(nn3+1),cp12,(y14++[(y16,y17,y18,y19,y20)]),mz12,g18,(adel y15 e1.1),(some e1),(S.sb rfl (.c2 (.c2 (.c2 (.c2 (.c2 (.c2 (.c2 (.c2 (.c2 (.c2 (.c2 .n)))))))))))),h4⟩
    ·refine c_condF S rfl c2 (wp_skip (x_blockN (x_thenN ?_)))
     exact ⟨_,A2,nn3,cp9,y14,mz9,g18,(adel y15 e1.1),(some e1),(S.sb rfl (.c2 (.c2 (.c2 (.c2 (.c2 (.c2 (.c2 (.c2 (.c2 (.c2 (.c2 .n)))))))))))),h3⟩
   refine c_region (s_mv1 S rfl fun a S=>?_)
   obtain ⟨c4,h2⟩:=chk_of h1; clear h1
   have hl1:=S.slotPlt (u:=22) c4 rfl
   replace S:=S.slotP (u:=22) c4 rfl
   refine s_nilchk S rfl rfl fun a S=>s_fieldAddr S rfl I76_4 T4 (by decide) rfl rfl fun a S=>?_
   replace S:=S.famOpen (i:=(e1.2.getD 0)) hl1 .h7
   have hS:=S.structOpen (T:=(YE76 ch_0.e6 ch_0.e7)) (fun _=> .h) (((),(),(),(none,0),(none,0)),((),(),(),(none,0),(none,0)),(),(),(),(),())
   clear S; obtain ⟨ch36,S⟩:=hS
   refine s_load1 S rfl .h T4 (v:=(.bool ((atE x1.2.1.2.1 (e1.2.getD 0)).e5))) rfl rfl fun a S=>?_
   replace S:=S.structClose (T:=(YE76 ch_0.e6 ch_0.e7)) (e:=atE x1.2.1.2.1 (e1.2.getD 0)) (ch36:((YE76 ch_0.e6 ch_0.e7)).Ch) rfl .h
   replace S:=S.famShut hl1 .h .h7
   refine s_not S rfl rfl fun a S=>c_end ?_
   rcases ite_of h2 with ⟨c5,h3⟩ | ⟨c5,h3⟩
   ·refine c_condT S rfl c5 (c_region (s_mv1 S rfl fun a S=>?_))
    have hl1:=S.slotPlt (u:=27) c4 rfl
    replace S:=S.slotP (u:=27) c4 rfl
    refine s_nilchk S rfl rfl fun a S=>s_fieldAddr S rfl I76_1 T39 (by decide) rfl rfl fun a S=>?_
    replace S:=S.famOpen (i:=(e1.2.getD 0)) hl1 .h7
    have hS:=S.structOpen (T:=(YE76 ch_0.e6 ch_0.e7)) (fun _=> .h) (((),(),(),(none,0),(none,0)),((),(),(),(none,0),(none,0)),(),(),(),(),())
    clear S; obtain ⟨ch37,S⟩:=hS
    refine s_loada S rfl .h T39 (s':=(Y39.segs ((atE x1.2.1.2.1 (e1.2.getD 0)).2.1) ch37.2.1)) rfl rfl fun a S=>?_
    replace S:=S.structClose (T:=(YE76 ch_0.e6 ch_0.e7)) (e:=atE x1.2.1.2.1 (e1.2.getD 0)) (ch37:((YE76 ch_0.e6 ch_0.e7)).Ch) rfl .h
    replace S:=S.famShut hl1 .h .h7
    refine s_store S rfl rfl rfl (s':=(Y39.segs ((atE x1.2.1.2.1 (e1.2.getD 0)).2.1) ch37.2.1)) .h T39 rfl rfl fun w S=>c_end (c_region' (s_mv1 S rfl fun a S=>?_))
    have hl1:=S.slotPlt (u:=31) c4 rfl
    replace S:=S.slotP (u:=31) c4 rfl
    refine s_nilchk S rfl rfl fun a S=>s_fieldAddr S rfl I76_1 T39 (by decide) rfl rfl fun a S=>s_fieldAddr S rfl I39_3 T36 (by decide) rfl rfl fun a S=>?_
    replace S:=S.famOpen (i:=(e1.2.getD 0)) hl1 .h7
    have hS:=S.structOpen (T:=(YE76 ch_0.e6 ch_0.e7)) (fun _=> .h) (((),(),(),(none,0),(none,0)),((),(),(),(none,0),(none,0)),(),(),(),(),())
    clear S; obtain ⟨ch38,S⟩:=hS
    refine s_loadSl S rfl .h T36 (A:=ch38.2.1.e4.1) (len:=(((atE x1.2.1.2.1 (e1.2.getD 0)).2.1).e4).length) (cap:=ch38.2.1.e4.2) rfl rfl fun a S=>?_
    replace S:=S.structClose (T:=(YE76 ch_0.e6 ch_0.e7)) (e:=atE x1.2.1.2.1 (e1.2.getD 0)) (ch38:((YE76 ch_0.e6 ch_0.e7)).Ch) rfl .h
    replace S:=S.famShut hl1 .h .h7
    refine bindX h3 fun t11 et11 h4=>s_callK S (fa9_.ok et11) N27 rfl .pre (fun _=> .c1) rfl fun ch39 m le1 a w S=>s_mv1 S rfl fun a S=>?_
    have hl1:=S.slotPlt (u:=37) c4 rfl
    replace S:=S.slotP (u:=37) c4 rfl
    replace S:=S.famOpen (i:=(e1.2.getD 0)) hl1 .h8
    have hS:=S.structOpen (T:=(YE76 ch_0.e6 ch_0.e7)) (fun _=> .h) (((),(),(),(none,0),(none,0)),((),(),(),(none,0),(none,0)),(),(),(),(),())
    clear S; obtain ⟨ch40,S⟩:=hS
    have hm1:=S.cellMlt (s1:=[.b20 (((atE x1.2.1.2.1 (e1.2.getD 0)).1).1), .w (((atE x1.2.1.2.1 (e1.2.getD 0)).1).2.1), .w4 (((atE x1.2.1.2.1 (e1.2.getD 0)).1).e3), .q yb ch40.1.e4.1 ch40.1.e4.2 (((atE x1.2.1.2.1 (e1.2.getD 0)).1).e4), .q Y82 ch40.1.e5 ch40.1.t5 (((atE x1.2.1.2.1 (e1.2.getD 0)).1).t4), .b20 (((atE x1.2.1.2.1 (e1.2.getD 0)).2.1).1), .w (((atE x1.2.1.2.1 (e1.2.getD 0)).2.1).2.1), .w4 (((atE x1.2.1.2.1 (e1.2.getD 0)).2.1).e3), .q yb ch40.2.1.e4.1 ch40.2.1.e4.2 (((atE x1.2.1.2.1 (e1.2.getD 0)).2.1).e4), .q Y82 ch40.2.1.e5 ch40.2.1.t5 (((atE x1.2.1.2.1 (e1.2.getD 0)).2.1).t4), .b ((atE x1.2.1.2.1 (e1.2.getD 0)).e3)]) (s2:=[.b ((atE x1.2.1.2.1 (e1.2.getD 0)).e5), .b ((atE x1.2.1.2.1 (e1.2.getD 0)).e6), .rf (.map (some (bAt ch_0.e7 ((atE x1.2.1.2.1 (e1.2.getD 0)).t6)))) (ltR ((atE x1.2.1.2.1 (e1.2.getD 0)).t6) ch_0.e7)]) .h
    replace S:=S.cellMidO (s1:=[.b20 (((atE x1.2.1.2.1 (e1.2.getD 0)).1).1), .w (((atE x1.2.1.2.1 (e1.2.getD 0)).1).2.1), .w4 (((atE x1.2.1.2.1 (e1.2.getD 0)).1).e3), .q yb ch40.1.e4.1 ch40.1.e4.2 (((atE x1.2.1.2.1 (e1.2.getD 0)).1).e4), .q Y82 ch40.1.e5 ch40.1.t5 (((atE x1.2.1.2.1 (e1.2.getD 0)).1).t4), .b20 (((atE x1.2.1.2.1 (e1.2.getD 0)).2.1).1), .w (((atE x1.2.1.2.1 (e1.2.getD 0)).2.1).2.1), .w4 (((atE x1.2.1.2.1 (e1.2.getD 0)).2.1).e3), .q yb ch40.2.1.e4.1 ch40.2.1.e4.2 (((atE x1.2.1.2.1 (e1.2.getD 0)).2.1).e4), .q Y82 ch40.2.1.e5 ch40.2.1.t5 (((atE x1.2.1.2.1 (e1.2.getD 0)).2.1).t4), .b ((atE x1.2.1.2.1 (e1.2.getD 0)).e3)]) (s2:=[.b ((atE x1.2.1.2.1 (e1.2.getD 0)).e5), .b ((atE x1.2.1.2.1 (e1.2.getD 0)).e6), .rf (.map (some (bAt ch_0.e7 ((atE x1.2.1.2.1 (e1.2.getD 0)).t6)))) (ltR ((atE x1.2.1.2.1 (e1.2.getD 0)).t6) ch_0.e7)]) .h
    replace S:=S.famOpen (i:=((atE x1.2.1.2.1 (e1.2.getD 0)).e4)) hm1 .h10
    have hm2:=S.cellMlt (s1:=[.b20 (((atE x1.2.1.2.1 (e1.2.getD 0)).1).1), .w (((atE x1.2.1.2.1 (e1.2.getD 0)).1).2.1), .w4 (((atE x1.2.1.2.1 (e1.2.getD 0)).1).e3), .q yb ch40.1.e4.1 ch40.1.e4.2 (((atE x1.2.1.2.1 (e1.2.getD 0)).1).e4), .q Y82 ch40.1.e5 ch40.1.t5 (((atE x1.2.1.2.1 (e1.2.getD 0)).1).t4), .b20 (((atE x1.2.1.2.1 (e1.2.getD 0)).2.1).1), .w (((atE x1.2.1.2.1 (e1.2.getD 0)).2.1).2.1), .w4 (((atE x1.2.1.2.1 (e1.2.getD 0)).2.1).e3), .q yb ch40.2.1.e4.1 ch40.2.1.e4.2 (((atE x1.2.1.2.1 (e1.2.getD 0)).2.1).e4), .q Y82 ch40.2.1.e5 ch40.2.1.t5 (((atE x1.2.1.2.1 (e1.2.getD 0)).2.1).t4), .b ((atE x1.2.1.2.1 (e1.2.getD 0)).e3), .one (.map (some (bAt ch_0.e6 ((atE x1.2.1.2.1 (e1.2.getD 0)).e4)))), .b ((atE x1.2.1.2.1 (e1.2.getD 0)).e5), .b ((atE x1.2.1.2.1 (e1.2.getD 0)).e6)]) (s2:=[]) .h1
    replace S:=S.cellMidO (s1:=[.b20 (((atE x1.2.1.2.1 (e1.2.getD 0)).1).1), .w (((atE x1.2.1.2.1 (e1.2.getD 0)).1).2.1), .w4 (((atE x1.2.1.2.1 (e1.2.getD 0)).1).e3), .q yb ch40.1.e4.1 ch40.1.e4.2 (((atE x1.2.1.2.1 (e1.2.getD 0)).1).e4), .q Y82 ch40.1.e5 ch40.1.t5 (((atE x1.2.1.2.1 (e1.2.getD 0)).1).t4), .b20 (((atE x1.2.1.2.1 (e1.2.getD 0)).2.1).1), .w (((atE x1.2.1.2.1 (e1.2.getD 0)).2.1).2.1), .w4 (((atE x1.2.1.2.1 (e1.2.getD 0)).2.1).e3), .q yb ch40.2.1.e4.1 ch40.2.1.e4.2 (((atE x1.2.1.2.1 (e1.2.getD 0)).2.1).e4), .q Y82 ch40.2.1.e5 ch40.2.1.t5 (((atE x1.2.1.2.1 (e1.2.getD 0)).2.1).t4), .b ((atE x1.2.1.2.1 (e1.2.getD 0)).e3), .one (.map (some (bAt ch_0.e6 ((atE x1.2.1.2.1 (e1.2.getD 0)).e4)))), .b ((atE x1.2.1.2.1 (e1.2.getD 0)).e5), .b ((atE x1.2.1.2.1 (e1.2.getD 0)).e6)]) (s2:=[]) .h1
    replace S:=S.famOpen (i:=((atE x1.2.1.2.1 (e1.2.getD 0)).t6)) hm2 .h12
    refine bindX h4 fun t12 et12 h5=>s_callK S (fc_.ok k et12) N34 rfl (.c2 (.c1 (.c0 .n))) (fun _=> .c4) rfl fun ch41 m le1 a w S=>?_
    replace S:=S.famShut hm2 .h3 .h13
    replace S:=S.cellMid (s1:=[.b20 (((atE x1.2.1.2.1 (e1.2.getD 0)).1).1), .w (((atE x1.2.1.2.1 (e1.2.getD 0)).1).2.1), .w4 (((atE x1.2.1.2.1 (e1.2.getD 0)).1).e3), .q yb ch40.1.e4.1 ch40.1.e4.2 (((atE x1.2.1.2.1 (e1.2.getD 0)).1).e4), .q Y82 ch40.1.e5 ch40.1.t5 (((atE x1.2.1.2.1 (e1.2.getD 0)).1).t4), .b20 (((atE x1.2.1.2.1 (e1.2.getD 0)).2.1).1), .w (((atE x1.2.1.2.1 (e1.2.getD 0)).2.1).2.1), .w4 (((atE x1.2.1.2.1 (e1.2.getD 0)).2.1).e3), .q yb ch40.2.1.e4.1 ch40.2.1.e4.2 (((atE x1.2.1.2.1 (e1.2.getD 0)).2.1).e4), .q Y82 ch40.2.1.e5 ch40.2.1.t5 (((atE x1.2.1.2.1 (e1.2.getD 0)).2.1).t4), .b ((atE x1.2.1.2.1 (e1.2.getD 0)).e3), .one (.map (some (bAt ch_0.e6 ((atE x1.2.1.2.1 (e1.2.getD 0)).e4)))), .b ((atE x1.2.1.2.1 (e1.2.getD 0)).e5), .b ((atE x1.2.1.2.1 (e1.2.getD 0)).e6)]) (s2:=[]) rfl hm2 .h1
    replace S:=S.famShut hm1 .h2 .h11
    replace S:=S.cellMid (s1:=[.b20 (((atE x1.2.1.2.1 (e1.2.getD 0)).1).1), .w (((atE x1.2.1.2.1 (e1.2.getD 0)).1).2.1), .w4 (((atE x1.2.1.2.1 (e1.2.getD 0)).1).e3), .q yb ch40.1.e4.1 ch40.1.e4.2 (((atE x1.2.1.2.1 (e1.2.getD 0)).1).e4), .q Y82 ch40.1.e5 ch40.1.t5 (((atE x1.2.1.2.1 (e1.2.getD 0)).1).t4), .b20 (((atE x1.2.1.2.1 (e1.2.getD 0)).2.1).1), .w (((atE x1.2.1.2.1 (e1.2.getD 0)).2.1).2.1), .w4 (((atE x1.2.1.2.1 (e1.2.getD 0)).2.1).e3), .q yb ch40.2.1.e4.1 ch40.2.1.e4.2 (((atE x1.2.1.2.1 (e1.2.getD 0)).2.1).e4), .q Y82 ch40.2.1.e5 ch40.2.1.t5 (((atE x1.2.1.2.1 (e1.2.getD 0)).2.1).t4), .b ((atE x1.2.1.2.1 (e1.2.getD 0)).e3)]) (s2:=[.b ((atE x1.2.1.2.1 (e1.2.getD 0)).e5), .b ((atE x1.2.1.2.1 (e1.2.getD 0)).e6), .rf (.map (some (bAt ch_0.e7 ((atE x1.2.1.2.1 (e1.2.getD 0)).t6)))) (ltR ((atE x1.2.1.2.1 (e1.2.getD 0)).t6) ch_0.e7)]) rfl hm1 .h1
    replace S:=S.structClose (T:=(YE76 ch_0.e6 ch_0.e7)) (e:=atE x1.2.1.2.1 (e1.2.getD 0)) (ch40:((YE76 ch_0.e6 ch_0.e7)).Ch) rfl .h1
    replace S:=S.famShut hl1 .h1 .h9
    refine s_fieldAddr S rfl I39_3 T36 (by decide) rfl rfl fun a S=>s_storeJ S 3 rfl rfl rfl rfl .h2 T36 rfl rfl fun w S=>s_fieldAddr S rfl I39_4 T37 (by decide) rfl rfl fun a S=>s_storeJ S 4 rfl rfl rfl rfl .h2 T37 rfl rfl fun w S=>c_end' (x_thenN ?_)
    exact j2 _ g16 g14 (((atE x1.2.1.2.1 (e1.2.getD 0)).2.1).1) (((atE x1.2.1.2.1 (e1.2.getD 0)).2.1).2.1) (((atE x1.2.1.2.1 (e1.2.getD 0)).2.1).e3) ch39.1 ch39.2.1 ch39.t2 t11 ch41.1 ch41.2.1 ch41.t2 t12 a w (S.sb rfl (.c0 (.c0 (.c0 (.c1 (.c1 (.c1 (.c1 (.c1 (.c1 (.c1 (.c1 (.c1 (.c1 (.c1 .n))))))))))))))) h5
   ·refine c_condF S rfl c5 (wp_skip (x_thenN ?_))
    replace S:=S.nilrow yb 5
    replace S:=S.nilrow Y82 82
    exact j2 _ g16 g14 e1.1 0 [0,0,0,0] none 0 0 ([]:List Int) none 0 0 ([]:List ((List Int)×(List Int))) a w (S.sb rfl (.c0 (.c0 (.c0 (.c1 (.c1 (.c1 (.c1 (.c1 (.c1 (.c1 (.c1 (.c1 (.c1 (.c1 .n))))))))))))))) h3
abbrev fe0_.Ty:Type:=(List L39)→(List Int)→Option W4
def fe0_.Ctr (s:fe0_.Ty):Prop:=∀ {x1:List L39} {x2:List Int} {ch_0_0:Option Addr} {ch_0_1:Nat} {r:W4} (h0:s x1 x2=some r) {mi:Mem} {w0:World},CtrB Try.prog 9 [(.q Y39 ch_0_0 ch_0_1 x1),(.agg [.b20 x2])] [] (fun (ch:W5)=>((.tup [(true,(Y39.segs r.1 ((),(),(),(ch.1,ch.2.1),ch.t2))),(false,[.b r.2])]):D)) (fun (ch:W5)=>[]) mi w0
def fe0_.j1:Option W4:=some (zt1,false)
def fe0_.b1 (x1:List L39)(x2:List Int)(rec1:Int→Option W4)(y1:Int):Option W4:=if (decide (y1<((x1).length:Int)))=true then (if (0:Int)≤y1∧y1<((x1).length:Int) then (if (decide ((gt x1 y1).1=x2))=true then (some (gt x1 y1,true)) else (rec1 (wr .i64 (y1+1)))) else none) else fe0_.j1
def fe0_.l1 (x1:List L39)(x2:List Int):Nat→Int→Option W4
  | 0,_=>none
  | q+1,y1=>fe0_.b1 x1 x2 (fe0_.l1 x1 x2 q) y1
def fe0_.f (k:Nat)(x1:List L39)(x2:List Int):Option W4:=fe0_.l1 x1 x2 k 0
theorem fe0_.ok (k:Nat):fe0_.Ctr (fe0_.f k):=by
 intro x1 x2 ch_0_0 ch_0_1 r h0 mi w0 ok hm
 delta fe0_.f at h0
 refine c_enterZ (n:=25) ok hm func9 rfl rfl rfl fun b0 hb a S=>c_region (s_box S rfl rfl rfl fun g1 a w S=>s_alloc S Z39 rfl ⟨rfl,rfl,rfl,rfl,rfl,tv⟩ rfl fun g2 a w S=>s_as1 S rfl fun a S=>c_end (wp_seq_k fun K1 hK1=>?_))
 have j1:∀ m g9 a w,St 25 m b0 [(4,(.p g9))] [Res.cells g9 39 [.b20 z20, .w 0, .w4 [0,0,0,0], .s none 0 0, .s none 0 0]] a w→fe0_.j1=some r→K1 a w:=by
  intro m g9 a w S h0
  delta fe0_.j1 at h0
  refine hK1 a w (c_region (s_bldS S (ds:=[]) (zs:=[.b20 z20, .w 0, .w4 [0,0,0,0], .s none 0 0, .s none 0 0]) (s':=[.b20 z20, .w 0, .w4 [0,0,0,0], .s none 0 0, .s none 0 0]) rfl underlying39 P39 Z39 ⟨rfl,rfl,rfl,rfl,rfl,tv⟩ rfl rfl fun a S=>s_store S rfl rfl rfl (s':=[.b20 z20, .w 0, .w4 [0,0,0,0], .s none 0 0, .s none 0 0]) .h T39 rfl rfl fun w S=>s_as1 S rfl fun a S=>c_end (wp_ret ?_)))
  replace S:=S.cellN 3 yb .h rfl
  replace S:=S.cellN 4 Y82 .h rfl
  obtain rfl:=sI h0
  exact b_ret2 (d1:=(.agg (Y39.segs zt1 ((),(),(),(none,0),(none,0))))) (d2:=(.b false)) S rfl (resD_cell rfl .h T39 rfl rfl) rfl fun ok1 ok2=>S.retX (Hx:=[]) hb _ _ ((none,0,none,0):W5) .nil ⟨ok1,⟨ok2,tv⟩,tv⟩
 refine c_region (s_mv1 S rfl fun a S=>s_lenS S rfl underlying22 rfl fun a S=>s_mv1 S rfl fun a S=>c_end (wp_block ?_))
 refine c_loop (fun q1 a w=>∃ m y1 g14 g15,St 25 m b0 [(9,(.i y1)),(8,(.i ((x1).length:Int))),(4,(.p g14)),(3,(.p g15)),(0,(.q Y39 ch_0_0 ch_0_1 x1))] [Res.cells g14 39 [.b20 z20, .w 0, .w4 [0,0,0,0], .s none 0 0, .s none 0 0],Res.cells g15 31 [.b20 x2]] a w∧fe0_.l1 x1 x2 q1 y1=some r) ?_ ?_ (k:=k) ⟨_,0,g2,g1,(S.sb rfl (.c0 (.c0 .n))),h0⟩
 ·rintro a w ⟨m,y1,g14,g15,S,h0⟩
  exact (nomatch (show (none:Option W4)=some r from h0))
 ·clear S h0
  rintro q1 a w ⟨m,y1,g14,g15,S,h0⟩
  replace h0:fe0_.b1 x1 x2 (fe0_.l1 x1 x2 q1) y1=some r:=h0
  delta fe0_.b1 at h0
  refine c_region (s_bi S rfl fun a S=>c_end (wp_seq ?_))
  rcases ite_of h0 with ⟨c1,h1⟩ | ⟨c1,h1⟩
  ·refine c_condT S rfl c1 (wp_skip (x_thenN (wp_seq (wp_block (c_region (s_mv1 S rfl fun a S=>s_as1 S rfl fun a S=>c_end ?_))))))
   refine wp_seq (c_hS S (.tk 0 7 .done) 7 (.c1 .n) ⟨Res.stay_cells,tv⟩ [(6,(.i y1)),(3,(.p g15)),(0,(.q Y39 ch_0_0 ch_0_1 x1))] rfl (by kernel_rfl) ?_); clear S; intro w S CL hw le
   refine h_mv2 S CL hw le rfl tv tv fun a S CL=>?_
   obtain ⟨c2,h2⟩:=chk_of h1; clear h1
   refine h_iaddrS S CL hw le (subR rfl) rfl rfl rfl underlying22 T39 c2.1 c2.2 rfl rfl tv fun p1 a S CL=>h_faddrP S CL hw le (subR rfl) (tF:=(Ty.arr .u8 20)) (y:=(gt x1 y1).1) rfl I39_0 T31 (by decide) (fun m h=>(at_fst (at_0 h))) rfl rfl tv fun a S CL=>h_ldA S CL hw le (subR rfl) (fun (c:Unit)=>[.b20 ((gt x1 y1).1)]) rfl T31 (fun _=>rfl) rfl rfl tv fun ch1 a S CL=>?_
   refine h_loada S CL hw le (subR rfl) rfl .h T31 (s':=[.b20 x2]) rfl rfl rfl tv fun a S CL=>h_eqa S CL hw le (subR rfl) rfl rfl underlying31 underlying5 T5 Q31 rfl rfl tv fun a S CL=>?_
   refine h_done ?_; clear CL hw le
   refine x_thenN ?_
   rcases ite_of h2 with ⟨c3,h3⟩ | ⟨c3,h3⟩
   ·refine c_condT S rfl c3 (c_region (s_mv2 S rfl fun a S=>s_iaddrS S rfl rfl rfl underlying22 T39 c2.1 c2.2 rfl fun p2 a S=>s_ldA S (fun (c:Unit×Unit×Unit×(Option Addr×Nat)×(Option Addr×Nat))=>(Y39.segs (gt x1 y1) c)) rfl T39 (fun _=>rfl) rfl fun ch2 a S=>?_))
    refine s_store S rfl rfl rfl (s':=(Y39.segs (gt x1 y1) ch2)) .h T39 rfl rfl fun w S=>s_as1 S rfl fun a S=>c_end (wp_ret (x_blockR (x_thenR (x_thenR (x_blockR (x_thenR ?_))))))
    obtain rfl:=sI h3
    exact b_ret2 (d1:=(.agg (Y39.segs (gt x1 y1) ch2))) (d2:=(.b true)) S rfl (resD_cell rfl .h T39 rfl rfl) rfl fun ok1 ok2=>S.retX (Hx:=[]) hb _ _ ((ch2.e4.1,ch2.e4.2,ch2.e5,ch2.t5):W5) .nil ⟨ok1,⟨ok2,tv⟩,tv⟩
   ·refine c_condF S rfl c3 (wp_skip (x_blockN (x_thenN (c_region' (s_bi S rfl fun a S=>s_mv1 S rfl fun a S=>c_end' (x_thenN ?_))))))
    exact ⟨_,(wr .i64 (y1+1)),g14,g15,(S.sb rfl (.c0 (.c0 .n))),h3⟩
  ·refine c_condF S rfl c1 (wp_exit (x_thenX (x_thenX (x_blockX (x_thenN ?_)))))
   exact j1 _ g14 a w (S.sub ⟨rfl,tv⟩ (.c0 .n)) h1
abbrev fb7_.Ty:Type:=(List L51)→(List L51)→Option Bool
def fb7_.Ctr (s:fb7_.Ty):Prop:=∀ {x1:List L51} {x2:List L51} {ch_0_0:Option Addr} {ch_0_1:Nat} {ch_1_0:Option Addr} {ch_1_1:Nat} {r:Bool} (h0:s x1 x2=some r) {mi:Mem} {w0:World},CtrB Try.prog 19 [(.q Y51 ch_0_0 ch_0_1 x1),(.q Y51 ch_1_0 ch_1_1 x2)] [] (fun (ch:Unit)=>((.b r):D)) (fun (ch:Unit)=>[]) mi w0
def fb7_.j1:Option Bool:=some true
def fb7_.j2 (y1:Int)(rec1:Int→Option Bool):Option Bool:=rec1 (wr .i64 (y1+1))
def fb7_.b2 (x1:List L51)(x2:List L51)(y1:Int)(rec1:Int→Option Bool)(rec2:Int→Option Bool)(y7:Int):Option Bool:=if (decide (y7<(((gt x1 y1).2.1).length:Int)))=true then (if (0:Int)≤y7∧y7<(((gt x1 y1).2.1).length:Int) then (if (0:Int)≤y1∧y1<((x2).length:Int) then (if (0:Int)≤y7∧y7<(((gt x2 y1).2.1).length:Int) then (if (!(decide (gt ((gt x1 y1).2.1) y7=gt ((gt x2 y1).2.1) y7)))=true then (some false) else (rec2 (wr .i64 (y7+1)))) else none) else none) else none) else (fb7_.j2 y1 rec1)
def fb7_.l2 (x1:List L51)(x2:List L51)(y1:Int)(rec1:Int→Option Bool):Nat→Int→Option Bool
  | 0,_=>none
  | q+1,y7=>fb7_.b2 x1 x2 y1 rec1 (fb7_.l2 x1 x2 y1 rec1 q) y7
def fb7_.j3 (k:Nat)(x1:List L51)(x2:List L51)(y1:Int)(rec1:Int→Option Bool)(y5:Bool):Option Bool:=if y5=true then (some false) else (if (0:Int)≤y1∧y1<((x1).length:Int) then (fb7_.l2 x1 x2 y1 rec1 k 0) else none)
def fb7_.b1 (k:Nat)(x1:List L51)(x2:List L51)(rec1:Int→Option Bool)(y1:Int):Option Bool:=if (decide (y1<((x1).length:Int)))=true then (if (0:Int)≤y1∧y1<((x1).length:Int) then (if (0:Int)≤y1∧y1<((x2).length:Int) then (if (!(decide ((gt x1 y1).1=(gt x2 y1).1)))=true then (fb7_.j3 k x1 x2 y1 rec1 true) else (if (!((bstr ((gt x1 y1).2.2)).toList==(bstr ((gt x2 y1).2.2)).toList))=true then (fb7_.j3 k x1 x2 y1 rec1 true) else (fb7_.j3 k x1 x2 y1 rec1 ((((gt x1 y1).2.1).length:Int) != (((gt x2 y1).2.1).length:Int))))) else none) else none) else fb7_.j1
def fb7_.l1 (k:Nat)(x1:List L51)(x2:List L51):Nat→Int→Option Bool
  | 0,_=>none
  | q+1,y1=>fb7_.b1 k x1 x2 (fb7_.l1 k x1 x2 q) y1
def fb7_.f (k:Nat)(x1:List L51)(x2:List L51):Option Bool:=if (((x1).length:Int) != ((x2).length:Int))=true then (some false) else (fb7_.l1 k x1 x2 k 0)
theorem fb7_.ok (k:Nat):fb7_.Ctr (fb7_.f k):=by
 intro x1 x2 ch_0_0 ch_0_1 ch_1_0 ch_1_1 r h0 mi w0 ok hm
 delta fb7_.f at h0
 refine c_enterZ (n:=86) ok hm func19 rfl rfl rfl fun b0 hb a S=>c_region (s_as1 S rfl fun a S=>c_end (wp_seq (c_region (s_mv1 S rfl fun a S=>s_lenS S rfl underlying56 rfl fun a S=>s_mv1 S rfl fun a S=>s_lenS S rfl underlying56 rfl fun a S=>s_bi S rfl fun a S=>c_end ?_))))
 rcases ite_of h0 with ⟨c1,h1⟩ | ⟨c1,h1⟩
 ·refine c_condT S rfl c1 (c_region (s_as1 S rfl fun a S=>c_end (wp_ret (x_thenR ?_))))
  obtain rfl:=sI h1
  exact b_ret1 (d:=(.b false)) S rfl rfl (S.rt hb)
 ·refine c_condF S rfl c1 (wp_skip (x_thenN (wp_seq_k fun K1 hK1=>?_)))
  have j1:∀ m a w,St 86 m b0 [] [] a w→fb7_.j1=some r→K1 a w:=by
   intro m a w S h0
   delta fb7_.j1 at h0
   refine hK1 a w (c_region (s_as1 S rfl fun a S=>c_end (wp_ret ?_)))
   obtain rfl:=sI h0
   exact b_ret1 (d:=(.b true)) S rfl rfl (S.rt hb)
  refine c_region (s_mv1 S rfl fun a S=>s_lenS S rfl underlying56 rfl fun a S=>s_mv1 S rfl fun a S=>c_end (wp_block ?_))
  refine c_loop (fun q1 a w=>∃ m y1,St 86 m b0 [(14,(.i y1)),(13,(.i ((x1).length:Int))),(0,(.q Y51 ch_0_0 ch_0_1 x1)),(1,(.q Y51 ch_1_0 ch_1_1 x2))] [] a w∧fb7_.l1 k x1 x2 q1 y1=some r) ?_ ?_ (k:=k) ⟨_,0,(S.sb rfl .nil),h1⟩
  ·rintro a w ⟨m,y1,S,h0⟩
   exact (nomatch (show (none:Option Bool)=some r from h0))
  ·clear S h1
   rintro q1 a w ⟨m,y1,S,h0⟩
   replace h0:fb7_.b1 k x1 x2 (fb7_.l1 k x1 x2 q1) y1=some r:=h0
   delta fb7_.b1 at h0
   refine c_region (s_bi S rfl fun a S=>c_end (wp_seq ?_))
   rcases ite_of h0 with ⟨c2,h1⟩ | ⟨c2,h1⟩
   ·refine c_condT S rfl c2 (wp_skip (x_thenN (wp_seq_k fun K2 hK2=>?_)))
    have j2:∀ m a w,St 86 m b0 [(14,(.i y1)),(13,(.i ((x1).length:Int))),(0,(.q Y51 ch_0_0 ch_0_1 x1)),(1,(.q Y51 ch_1_0 ch_1_1 x2))] [] a w→fb7_.j2 y1 (fb7_.l1 k x1 x2 q1)=some r→K2 a w:=by
     intro m a w S h0
     delta fb7_.j2 at h0
     refine hK2 a w (c_region' (s_bi S rfl fun a S=>s_mv1 S rfl fun a S=>c_end' (x_thenN ?_)))
     exact ⟨_,(wr .i64 (y1+1)),(S.sb rfl .nil),h0⟩
    refine wp_block (c_region (s_mv1 S rfl fun a S=>s_as1 S rfl fun a S=>c_end (wp_seq (wp_seq_k fun K3 hK3=>?_))))
    have j3:∀ m y5 a w,St 86 m b0 [(57,(.b y5)),(5,(.i y1)),(14,(.i y1)),(13,(.i ((x1).length:Int))),(0,(.q Y51 ch_0_0 ch_0_1 x1)),(1,(.q Y51 ch_1_0 ch_1_1 x2))] [] a w→fb7_.j3 k x1 x2 y1 (fb7_.l1 k x1 x2 q1) y5=some r→K3 a w:=by
     intro m y5 a w S h0
     delta fb7_.j3 at h0
     refine hK3 a w ?_
     rcases ite_of h0 with ⟨c3,h1⟩ | ⟨c3,h1⟩
     ·refine c_condT S rfl c3 (c_region (s_as1 S rfl fun a S=>c_end (wp_ret (x_thenR (x_blockR (x_thenR (x_thenR (x_blockR (x_thenR ?_)))))))))
      obtain rfl:=sI h1
      exact b_ret1 (d:=(.b false)) S rfl rfl (S.rt hb)
     ·refine c_condF S rfl c3 (wp_skip (x_thenN (c_region (s_mv2 S rfl fun a S=>?_))))
      obtain ⟨c4,h2⟩:=chk_of h1; clear h1
      refine s_iaddrS S rfl rfl rfl underlying56 T51 c4.1 c4.2 rfl fun p1 a S=>s_faddrP S (tF:=(Ty.slice (Ty.arr .u64 4))) (y:=(gt x1 y1).2.1) rfl I51_1 T49 (by decide) (fun m h=>(at_fst (at_snd (at_0 h)))) rfl fun a S=>s_ldS S (fun c=>c) rfl T49 (fun _=>rfl) rfl fun A1 cp1 a S=>s_lenS S rfl underlying49 rfl fun a S=>s_mv1 S rfl fun a S=>c_end (wp_block ?_)
      refine c_loop (fun q2 a w=>∃ m y7,St 86 m b0 [(64,(.i y7)),(63,(.i (((gt x1 y1).2.1).length:Int))),(5,(.i y1)),(14,(.i y1)),(13,(.i ((x1).length:Int))),(0,(.q Y51 ch_0_0 ch_0_1 x1)),(1,(.q Y51 ch_1_0 ch_1_1 x2))] [] a w∧fb7_.l2 x1 x2 y1 (fb7_.l1 k x1 x2 q1) q2 y7=some r) ?_ ?_ (k:=k) ⟨_,0,(S.sb rfl .nil),h2⟩
      ·rintro a w ⟨m,y7,S,h0⟩
       exact (nomatch (show (none:Option Bool)=some r from h0))
      ·clear S h2
       rintro q2 a w ⟨m,y7,S,h0⟩
       replace h0:fb7_.b2 x1 x2 y1 (fb7_.l1 k x1 x2 q1) (fb7_.l2 x1 x2 y1 (fb7_.l1 k x1 x2 q1) q2) y7=some r:=h0
       delta fb7_.b2 at h0
       refine c_region (s_bi S rfl fun a S=>c_end (wp_seq ?_))
       rcases ite_of h0 with ⟨c5,h1⟩ | ⟨c5,h1⟩
       ·refine c_condT S rfl c5 (wp_skip (x_thenN (wp_seq (wp_block (c_region (s_mv1 S rfl fun a S=>s_as1 S rfl fun a S=>c_end ?_))))))
        refine wp_seq (c_hS S (.tk 0 17 .done) 17 .nil tv [(6,(.i y7)),(5,(.i y1)),(0,(.q Y51 ch_0_0 ch_0_1 x1)),(1,(.q Y51 ch_1_0 ch_1_1 x2))] rfl (by kernel_rfl) ?_); clear S; intro w S CL hw le
        refine h_mv2 S CL hw le rfl tv tv fun a S CL=>h_iaddrS S CL hw le (subR rfl) rfl rfl rfl underlying56 T51 c4.1 c4.2 rfl rfl tv fun p10 a S CL=>h_faddrP S CL hw le (subR rfl) (tF:=(Ty.slice (Ty.arr .u64 4))) (y:=(gt x1 y1).2.1) rfl I51_1 T49 (by decide) (fun m h=>(at_fst (at_snd (at_0 h)))) rfl rfl tv fun a S CL=>h_ldS S CL hw le (subR rfl) (fun c=>c) rfl T49 (fun _=>rfl) rfl rfl tv fun A2 cp6 a S CL=>h_mv1 S CL hw le rfl tv fun a S CL=>?_
        obtain ⟨c6,h2⟩:=chk_of h1; clear h1
        refine h_iaddrS S CL hw le (subR rfl) rfl rfl rfl underlying49 T35 c6.1 c6.2 rfl rfl tv fun p11 a S CL=>h_ldA S CL hw le (subR rfl) (fun (c:Unit)=>[.w4 (gt ((gt x1 y1).2.1) y7)]) rfl T35 (fun _=>rfl) rfl rfl tv fun ch1 a S CL=>?_
        refine h_mv2 S CL hw le rfl tv tv fun a S CL=>?_
        obtain ⟨c7,h3⟩:=chk_of h2; clear h2
        refine h_iaddrS S CL hw le (subR rfl) rfl rfl rfl underlying56 T51 c7.1 c7.2 rfl rfl tv fun p12 a S CL=>h_faddrP S CL hw le (subR rfl) (tF:=(Ty.slice (Ty.arr .u64 4))) (y:=(gt x2 y1).2.1) rfl I51_1 T49 (by decide) (fun m h=>(at_fst (at_snd (at_0 h)))) rfl rfl tv fun a S CL=>h_ldS S CL hw le (subR rfl) (fun c=>c) rfl T49 (fun _=>rfl) rfl rfl tv fun A3 cp7 a S CL=>h_mv1 S CL hw le rfl tv fun a S CL=>?_
        obtain ⟨c8,h4⟩:=chk_of h3; clear h3
        refine h_iaddrS S CL hw le (subR rfl) rfl rfl rfl underlying49 T35 c8.1 c8.2 rfl rfl tv fun p13 a S CL=>h_ldA S CL hw le (subR rfl) (fun (c:Unit)=>[.w4 (gt ((gt x2 y1).2.1) y7)]) rfl T35 (fun _=>rfl) rfl rfl tv fun ch2 a S CL=>?_
        refine h_nea S CL hw le (subR rfl) rfl rfl underlying35 underlying32 T32 Q35 rfl rfl tv fun a S CL=>?_
        refine h_done ?_; clear CL hw le
        refine x_thenN ?_
        rcases ite_of h4 with ⟨c9,h5⟩ | ⟨c9,h5⟩
        ·refine c_condT S rfl c9 (c_region (s_as1 S rfl fun a S=>c_end (wp_ret (x_blockR (x_thenR (x_thenR (x_blockR (x_blockR (x_thenR (x_thenR (x_blockR (x_thenR ?_))))))))))))
         obtain rfl:=sI h5
         exact b_ret1 (d:=(.b false)) S rfl rfl (S.rt hb)
        ·refine c_condF S rfl c9 (wp_skip (x_blockN (x_thenN (c_region' (s_bi S rfl fun a S=>s_mv1 S rfl fun a S=>c_end' (x_thenN ?_))))))
         exact ⟨_,(wr .i64 (y7+1)),(S.sb rfl .nil),h5⟩
       ·refine c_condF S rfl c5 (wp_exit (x_thenX (x_thenX (x_blockX (x_blockN (x_thenN ?_))))))
        exact j2 _ a w (S.sb rfl .nil) h1
    refine c_hS S (.tk 0 41 .done) 41 .nil tv [(5,(.i y1)),(0,(.q Y51 ch_0_0 ch_0_1 x1)),(1,(.q Y51 ch_1_0 ch_1_1 x2))] rfl (by kernel_rfl) fun w S CL hw le=>?_
    refine h_mv2 S CL hw le rfl tv tv fun a S CL=>?_
    obtain ⟨c10,h2⟩:=chk_of h1; clear h1
    refine h_iaddrS S CL hw le (subR rfl) rfl rfl rfl underlying56 T51 c10.1 c10.2 rfl rfl tv fun p14 a S CL=>h_faddrP S CL hw le (subR rfl) (tF:=(Ty.arr .u8 20)) (y:=(gt x1 y1).1) rfl I51_0 T31 (by decide) (fun m h=>(at_fst (at_0 h))) rfl rfl tv fun a S CL=>h_ldA S CL hw le (subR rfl) (fun (c:Unit)=>[.b20 ((gt x1 y1).1)]) rfl T31 (fun _=>rfl) rfl rfl tv fun ch3 a S CL=>?_
    refine h_mv2 S CL hw le rfl tv tv fun a S CL=>?_
    obtain ⟨c11,h3⟩:=chk_of h2; clear h2
    refine h_iaddrS S CL hw le (subR rfl) rfl rfl rfl underlying56 T51 c11.1 c11.2 rfl rfl tv fun p15 a S CL=>h_faddrP S CL hw le (subR rfl) (tF:=(Ty.arr .u8 20)) (y:=(gt x2 y1).1) rfl I51_0 T31 (by decide) (fun m h=>(at_fst (at_0 h))) rfl rfl tv fun a S CL=>h_ldA S CL hw le (subR rfl) (fun (c:Unit)=>[.b20 ((gt x2 y1).1)]) rfl T31 (fun _=>rfl) rfl rfl tv fun ch4 a S CL=>?_
    refine h_nea S CL hw le (subR rfl) rfl rfl underlying31 underlying5 T5 Q31 rfl rfl tv fun a S CL=>h_mv1 S CL hw le rfl tv fun a S CL=>?_
    rcases ite_of h3 with ⟨c12,h4⟩ | ⟨c12,h4⟩
    ·refine h_sk8 S CL rfl (ne_bool c12) fun a S CL=>h_sk4 S CL rfl (ne_bool c12) fun a S CL=>h_sk1 S CL rfl (ne_bool c12) fun a S CL=>h_pick S CL hw le (subR rfl) (b:=true) (hc_of rfl c12) rfl rfl rfl tv fun a S CL=>h_mv1 S CL hw le rfl tv fun a S CL=>h_skip S CL rfl rfl rfl (ne_bool rfl) rfl fun a S CL=>h_skip S CL rfl rfl rfl (ne_bool rfl) rfl fun a S CL=>h_skip S CL rfl rfl rfl (ne_bool rfl) rfl fun a S CL=>h_skip S CL rfl rfl rfl (ne_bool rfl) rfl fun a S CL=>h_skip S CL rfl rfl rfl (ne_bool rfl) rfl fun a S CL=>h_skip S CL rfl rfl rfl (ne_bool rfl) rfl fun a S CL=>h_skip S CL rfl rfl rfl (ne_bool rfl) rfl fun a S CL=>h_skip S CL rfl rfl rfl (ne_bool rfl) rfl fun a S CL=>h_skip S CL rfl rfl rfl (ne_bool rfl) rfl fun a S CL=>h_skip S CL rfl rfl rfl (ne_bool rfl) rfl fun a S CL=>h_skip S CL rfl rfl rfl (ne_bool rfl) rfl fun a S CL=>h_skip S CL rfl rfl rfl (ne_bool rfl) rfl fun a S CL=>h_skip S CL rfl rfl rfl (ne_bool rfl) rfl fun a S CL=>h_pick S CL hw le (subR rfl) (b:=true) (hc_of rfl rfl) rfl rfl rfl tv fun a S CL=>?_
     refine h_done ?_; clear CL hw le
     refine x_thenN ?_
     exact j3 _ true a w (S.sb rfl .nil) h4
    ·refine h_mv2 S CL hw le rfl ⟨_,_,rfl,rfl,c12⟩ ⟨_,_,rfl,rfl,c12⟩ fun a S CL=>h_iaddrS S CL hw le (subR rfl) rfl rfl rfl underlying56 T51 c10.1 c10.2 rfl rfl ⟨_,_,rfl,rfl,c12⟩ fun p16 a S CL=>h_faddrP S CL hw le (subR rfl) (tF:=(Ty.slice yb)) (y:=(gt x1 y1).t2) rfl I51_2 T36 (by decide) (fun m h=>(at_snd (at_snd (at_0 h)))) rfl rfl ⟨_,_,rfl,rfl,c12⟩ fun a S CL=>h_ldS S CL hw le (subR rfl) (fun c=>c) rfl T36 (fun _=>rfl) rfl rfl ⟨_,_,rfl,rfl,c12⟩ fun A4 cp8 a S CL=>h_strS S CL hw le (subR rfl) rfl rfl underlying36 underlying5 underlying9 rfl rfl ⟨_,_,rfl,rfl,c12⟩ fun a S CL=>h_mv2 S CL hw le rfl ⟨_,_,rfl,rfl,c12⟩ ⟨_,_,rfl,rfl,c12⟩ fun a S CL=>h_iaddrS S CL hw le (subR rfl) rfl rfl rfl underlying56 T51 c11.1 c11.2 rfl rfl ⟨_,_,rfl,rfl,c12⟩ fun p17 a S CL=>h_faddrP S CL hw le (subR rfl) (tF:=(Ty.slice yb)) (y:=(gt x2 y1).t2) rfl I51_2 T36 (by decide) (fun m h=>(at_snd (at_snd (at_0 h)))) rfl rfl ⟨_,_,rfl,rfl,c12⟩ fun a S CL=>h_ldS S CL hw le (subR rfl) (fun c=>c) rfl T36 (fun _=>rfl) rfl rfl ⟨_,_,rfl,rfl,c12⟩ fun A5 cp9 a S CL=>h_strS S CL hw le (subR rfl) rfl rfl underlying36 underlying5 underlying9 rfl rfl ⟨_,_,rfl,rfl,c12⟩ fun a S CL=>h_neT S CL hw le (subR rfl) rfl rfl rfl rfl ⟨_,_,rfl,rfl,c12⟩ fun a S CL=>h_pick S CL hw le (subR rfl) (b:=false) (hc_of rfl c12) rfl rfl rfl tv fun a S CL=>h_mv1 S CL hw le rfl tv fun a S CL=>?_
     rcases ite_of h4 with ⟨c13,h5⟩ | ⟨c13,h5⟩
     ·refine h_sk8 S CL rfl (ne_bool c13) fun a S CL=>h_sk4 S CL rfl (ne_bool c13) fun a S CL=>h_sk1 S CL rfl (ne_bool c13) fun a S CL=>h_pick S CL hw le (subR rfl) (b:=true) (hc_of rfl c13) rfl rfl rfl tv fun a S CL=>?_
      refine h_done ?_; clear CL hw le
      refine x_thenN ?_
      exact j3 _ true a w (S.sb rfl .nil) h5
     ·refine h_mv2 S CL hw le rfl ⟨_,_,rfl,rfl,c13⟩ ⟨_,_,rfl,rfl,c13⟩ fun a S CL=>h_iaddrS S CL hw le (subR rfl) rfl rfl rfl underlying56 T51 c10.1 c10.2 rfl rfl ⟨_,_,rfl,rfl,c13⟩ fun p18 a S CL=>h_faddrP S CL hw le (subR rfl) (tF:=(Ty.slice (Ty.arr .u64 4))) (y:=(gt x1 y1).2.1) rfl I51_1 T49 (by decide) (fun m h=>(at_fst (at_snd (at_0 h)))) rfl rfl ⟨_,_,rfl,rfl,c13⟩ fun a S CL=>h_ldS S CL hw le (subR rfl) (fun c=>c) rfl T49 (fun _=>rfl) rfl rfl ⟨_,_,rfl,rfl,c13⟩ fun A6 cp10 a S CL=>h_lenS S CL hw le (subR rfl) rfl underlying49 rfl rfl ⟨_,_,rfl,rfl,c13⟩ fun a S CL=>h_mv2 S CL hw le rfl ⟨_,_,rfl,rfl,c13⟩ ⟨_,_,rfl,rfl,c13⟩ fun a S CL=>h_iaddrS S CL hw le (subR rfl) rfl rfl rfl underlying56 T51 c11.1 c11.2 rfl rfl ⟨_,_,rfl,rfl,c13⟩ fun p19 a S CL=>h_faddrP S CL hw le (subR rfl) (tF:=(Ty.slice (Ty.arr .u64 4))) (y:=(gt x2 y1).2.1) rfl I51_1 T49 (by decide) (fun m h=>(at_fst (at_snd (at_0 h)))) rfl rfl ⟨_,_,rfl,rfl,c13⟩ fun a S CL=>h_ldS S CL hw le (subR rfl) (fun c=>c) rfl T49 (fun _=>rfl) rfl rfl ⟨_,_,rfl,rfl,c13⟩ fun A7 cp11 a S CL=>h_lenS S CL hw le (subR rfl) rfl underlying49 rfl rfl ⟨_,_,rfl,rfl,c13⟩ fun a S CL=>h_bin S CL hw le (subR rfl) rfl rfl rfl rfl rfl ⟨_,_,rfl,rfl,c13⟩ fun a S CL=>h_pick S CL hw le (subR rfl) (b:=false) (hc_of rfl c13) rfl rfl rfl tv fun a S CL=>?_
      refine h_done ?_; clear CL hw le
      refine x_thenN ?_
      exact j3 _ ((((gt x1 y1).2.1).length:Int) != (((gt x2 y1).2.1).length:Int)) a w (S.sb rfl .nil) h5
   ·refine c_condF S rfl c2 (wp_exit (x_thenX (x_thenX (x_blockX (x_thenN ?_)))))
    exact j1 _ a w (S.sub tv .nil) h1
abbrev fe_.Ty:Type:=W1→W1→Option Bool
def fe_.Ctr (s:fe_.Ty):Prop:=∀ {x1:W1} {x2:W1} {ch_0_0:Option Addr} {ch_0_1:Nat} {ch_0_2:Option Addr} {ch_0_3:Nat} {ch_1_0:Option Addr} {ch_1_1:Nat} {ch_1_2:Option Addr} {ch_1_3:Nat} {r:Bool} (h0:s x1 x2=some r) {mi:Mem} {w0:World},CtrB Try.prog 21 [(.agg (Y39.segs x1 ((),(),(),(ch_0_0,ch_0_1),(ch_0_2,ch_0_3)))),(.agg (Y39.segs x2 ((),(),(),(ch_1_0,ch_1_1),(ch_1_2,ch_1_3))))] [] (fun (ch:Unit)=>((.b r):D)) (fun (ch:Unit)=>[]) mi w0
def fe_.j2:Option Bool:=some true
def fe_.b1 (x1:W1)(x2:W1)(rec1:Int→Option Bool)(y5:Int):Option Bool:=if (decide (y5<((x1.2.2.2.2).length:Int)))=true then (if (0:Int)≤y5∧y5<((x1.2.2.2.2).length:Int) then (if (0:Int)≤y5∧y5<((x2.2.2.2.2).length:Int) then (if (!(decide (gt x1.2.2.2.2 y5=gt x2.2.2.2.2 y5)))=true then (some false) else (rec1 (wr .i64 (y5+1)))) else none) else none) else fe_.j2
def fe_.l1 (x1:W1)(x2:W1):Nat→Int→Option Bool
  | 0,_=>none
  | q+1,y5=>fe_.b1 x1 x2 (fe_.l1 x1 x2 q) y5
def fe_.j1 (k:Nat)(x1:W1)(x2:W1)(y1:Bool):Option Bool:=if y1=true then (some false) else (fe_.l1 x1 x2 k 0)
def fe_.f (k:Nat)(x1:W1)(x2:W1):Option Bool:=if (!(decide (x1.1=x2.1)))=true then (fe_.j1 k x1 x2 true) else (if (x1.2.1 != x2.2.1)=true then (fe_.j1 k x1 x2 true) else (if (!(decide (x1.2.2.1=x2.2.2.1)))=true then (fe_.j1 k x1 x2 true) else (if (!((bstr x1.2.2.2.1).toList==(bstr x2.2.2.2.1).toList))=true then (fe_.j1 k x1 x2 true) else (fe_.j1 k x1 x2 (((x1.2.2.2.2).length:Int) != ((x2.2.2.2.2).length:Int))))))
theorem fe_.ok (k:Nat):fe_.Ctr (fe_.f k):=by
 intro x1 x2 ch_0_0 ch_0_1 ch_0_2 ch_0_3 ch_1_0 ch_1_1 ch_1_2 ch_1_3 r h0 mi w0 ok hm
 delta fe_.f at h0
 refine c_enterZ (n:=61) ok hm func21 rfl rfl rfl fun b0 hb a S=>c_region (s_box S rfl rfl rfl fun g1 a w S=>s_box S rfl rfl rfl fun g2 a w S=>s_as1 S rfl fun a S=>c_end (wp_seq (wp_seq_k fun K1 hK1=>?_)))
 have j1:∀ m y1 g3 g4 a w,St 61 m b0 [(42,(.b y1)),(3,(.p g3)),(2,(.p g4))] [Res.cells g3 39 (Y39.segs x2 ((),(),(),(ch_1_0,ch_1_1),(ch_1_2,ch_1_3))),Res.cells g4 39 (Y39.segs x1 ((),(),(),(ch_0_0,ch_0_1),(ch_0_2,ch_0_3)))] a w→fe_.j1 k x1 x2 y1=some r→K1 a w:=by
  intro m y1 g3 g4 a w S h0
  delta fe_.j1 at h0
  refine hK1 a w ?_
  rcases ite_of h0 with ⟨c1,h1⟩ | ⟨c1,h1⟩
  ·refine c_condT S rfl c1 (c_region (s_as1 S rfl fun a S=>c_end (wp_ret (x_thenR ?_))))
   obtain rfl:=sI h1
   exact b_ret1 (d:=(.b false)) S rfl rfl (S.rt hb)
  ·refine c_condF S rfl c1 (wp_skip (x_thenN (wp_seq_k fun K2 hK2=>?_)))
   have j2:∀ m a w,St 61 m b0 [] [] a w→fe_.j2=some r→K2 a w:=by
    intro m a w S h0
    delta fe_.j2 at h0
    refine hK2 a w (c_region (s_as1 S rfl fun a S=>c_end (wp_ret ?_)))
    obtain rfl:=sI h0
    exact b_ret1 (d:=(.b true)) S rfl rfl (S.rt hb)
   refine c_region (s_fieldAddr S rfl I39_4 T37 (by decide) rfl rfl fun a S=>s_loadSl S rfl .h1 T37 (A:=ch_0_2) (len:=(x1.t4).length) (cap:=ch_0_3) rfl rfl fun a S=>s_lenS S rfl underlying37 rfl fun a S=>s_mv1 S rfl fun a S=>c_end (wp_block ?_))
   refine c_loop (fun q1 a w=>∃ m y5 g15 g16,St 61 m b0 [(46,(.i y5)),(45,(.i ((x1.t4).length:Int))),(3,(.p g15)),(2,(.p g16))] [Res.cells g15 39 (Y39.segs x2 ((),(),(),(ch_1_0,ch_1_1),(ch_1_2,ch_1_3))),Res.cells g16 39 (Y39.segs x1 ((),(),(),(ch_0_0,ch_0_1),(ch_0_2,ch_0_3)))] a w∧fe_.l1 x1 x2 q1 y5=some r) ?_ ?_ (k:=k) ⟨_,0,g3,g4,(S.sb rfl (.c0 (.c0 .n))),h1⟩
   ·rintro a w ⟨m,y5,g15,g16,S,h0⟩
    exact (nomatch (show (none:Option Bool)=some r from h0))
   ·clear S h1
    rintro q1 a w ⟨m,y5,g15,g16,S,h0⟩
    replace h0:fe_.b1 x1 x2 (fe_.l1 x1 x2 q1) y5=some r:=h0
    delta fe_.b1 at h0
    refine c_region (s_bi S rfl fun a S=>c_end (wp_seq ?_))
    rcases ite_of h0 with ⟨c2,h1⟩ | ⟨c2,h1⟩
    ·refine c_condT S rfl c2 (wp_skip (x_thenN (wp_seq (wp_block (c_region (s_mv1 S rfl fun a S=>s_as1 S rfl fun a S=>c_end ?_))))))
     refine wp_seq (c_hS S (.tk 0 11 .done) 11 (.c0 (.c0 .n)) ⟨Res.stay_cells,Res.stay_cells,tv⟩ [(5,(.i y5)),(3,(.p g15)),(2,(.p g16))] rfl (by kernel_rfl) ?_); clear S; intro w S CL hw le
     refine h_fieldAddr S CL hw le (subR rfl) rfl I39_4 T37 (by decide) rfl rfl rfl tv fun a S CL=>h_loadSl S CL hw le (subR rfl) rfl .h1 T37 (A:=ch_0_2) (len:=(x1.t4).length) (cap:=ch_0_3) rfl rfl rfl tv fun a S CL=>h_mv1 S CL hw le rfl tv fun a S CL=>?_
     obtain ⟨c3,h2⟩:=chk_of h1; clear h1
     refine h_iaddrS S CL hw le (subR rfl) rfl rfl rfl underlying37 T82 c3.1 c3.2 rfl rfl tv fun p1 a S CL=>h_ldA S CL hw le (subR rfl) (fun (c:Unit×Unit)=>[.w4 ((gt x1.t4 y5).1), .w4 ((gt x1.t4 y5).2)]) rfl T82 (fun _=>rfl) rfl rfl tv fun ch1 a S CL=>?_
     refine h_fieldAddr S CL hw le (subR rfl) rfl I39_4 T37 (by decide) rfl rfl rfl tv fun a S CL=>h_loadSl S CL hw le (subR rfl) rfl .h T37 (A:=ch_1_2) (len:=(x2.t4).length) (cap:=ch_1_3) rfl rfl rfl tv fun a S CL=>h_mv1 S CL hw le rfl tv fun a S CL=>?_
     obtain ⟨c4,h3⟩:=chk_of h2; clear h2
     refine h_iaddrS S CL hw le (subR rfl) rfl rfl rfl underlying37 T82 c4.1 c4.2 rfl rfl tv fun p2 a S CL=>h_ldA S CL hw le (subR rfl) (fun (c:Unit×Unit)=>[.w4 ((gt x2.t4 y5).1), .w4 ((gt x2.t4 y5).2)]) rfl T82 (fun _=>rfl) rfl rfl tv fun ch2 a S CL=>?_
     refine h_neS S CL hw le (subR rfl) (ty':=Y82) (p:=gt x1.t4 y5) (q:=gt x2.t4 y5) ((),()) ((),()) rfl rfl E82 rfl Q82 rfl rfl tv fun a S CL=>?_
     refine h_done ?_; clear CL hw le
     refine x_thenN ?_
     rcases ite_of h3 with ⟨c5,h4⟩ | ⟨c5,h4⟩
     ·refine c_condT S rfl c5 (c_region (s_as1 S rfl fun a S=>c_end (wp_ret (x_blockR (x_thenR (x_thenR (x_blockR (x_thenR ?_))))))))
      obtain rfl:=sI h4
      exact b_ret1 (d:=(.b false)) S rfl rfl (S.rt hb)
     ·refine c_condF S rfl c5 (wp_skip (x_blockN (x_thenN (c_region' (s_bi S rfl fun a S=>s_mv1 S rfl fun a S=>c_end' (x_thenN ?_))))))
      exact ⟨_,(wr .i64 (y5+1)),g15,g16,(S.sb rfl (.c0 (.c0 .n))),h4⟩
    ·refine c_condF S rfl c2 (wp_exit (x_thenX (x_thenX (x_blockX (x_thenN ?_)))))
     exact j2 _ a w (S.sub tv .nil) h1
 refine c_region' (s_fieldAddr S rfl I39_0 T31 (by decide) rfl rfl fun a S=>s_loada S rfl .h1 T31 (s':=[.b20 x1.1]) rfl rfl fun a S=>s_fieldAddr S rfl I39_0 T31 (by decide) rfl rfl fun a S=>s_loada S rfl .h T31 (s':=[.b20 x2.1]) rfl rfl fun a S=>s_nea S rfl rfl underlying31 underlying5 T5 Q31 rfl fun a S=>s_mv1 S rfl fun a S=>?_)
 rcases ite_of h0 with ⟨c6,h1⟩ | ⟨c6,h1⟩
 ·refine s_gF S (b:=(!(decide (x1.1=x2.1)))) rfl rfl c6 rfl fun a S=>s_gF S (b:=(!(decide (x1.1=x2.1)))) rfl rfl c6 rfl fun a S=>s_gF S (b:=(!(decide (x1.1=x2.1)))) rfl rfl c6 rfl fun a S=>s_gF S (b:=(!(decide (x1.1=x2.1)))) rfl rfl c6 rfl fun a S=>s_gF S (b:=(!(decide (x1.1=x2.1)))) rfl rfl c6 rfl fun a S=>s_pick S (b:=true) (hc_of rfl c6) rfl rfl fun a S=>s_mv1 S rfl fun a S=>s_gF S (b:=true) rfl rfl rfl rfl fun a S=>s_gF S (b:=true) rfl rfl rfl rfl fun a S=>s_gF S (b:=true) rfl rfl rfl rfl fun a S=>s_gF S (b:=true) rfl rfl rfl rfl fun a S=>s_gF S (b:=true) rfl rfl rfl rfl fun a S=>s_pick S (b:=true) (hc_of rfl rfl) rfl rfl fun a S=>s_mv1 S rfl fun a S=>s_gF S (b:=true) rfl rfl rfl rfl fun a S=>s_gF S (b:=true) rfl rfl rfl rfl fun a S=>s_gF S (b:=true) rfl rfl rfl rfl fun a S=>s_gF S (b:=true) rfl rfl rfl rfl fun a S=>s_gF S (b:=true) rfl rfl rfl rfl fun a S=>s_gF S (b:=true) rfl rfl rfl rfl fun a S=>s_gF S (b:=true) rfl rfl rfl rfl fun a S=>s_pick S (b:=true) (hc_of rfl rfl) rfl rfl fun a S=>s_mv1 S rfl fun a S=>s_gF S (b:=true) rfl rfl rfl rfl fun a S=>s_gF S (b:=true) rfl rfl rfl rfl fun a S=>s_gF S (b:=true) rfl rfl rfl rfl fun a S=>s_gF S (b:=true) rfl rfl rfl rfl fun a S=>s_gF S (b:=true) rfl rfl rfl rfl fun a S=>s_gF S (b:=true) rfl rfl rfl rfl fun a S=>s_gF S (b:=true) rfl rfl rfl rfl fun a S=>s_pick S (b:=true) (hc_of rfl rfl) rfl rfl fun a S=>c_end' (x_thenN ?_)
  exact j1 _ true g2 g1 a w (S.sb rfl (.c0 (.c0 .n))) h1
 ·refine s_gT S (b:=(!(decide (x1.1=x2.1)))) rfl rfl c6 (s_fieldAddr S rfl I39_1 T32 (by decide) rfl rfl fun a S=>s_gT S (b:=(!(decide (x1.1=x2.1)))) rfl rfl c6 (s_load1 S rfl .h1 T32 (v:=(.int .u64 x1.2.1)) rfl rfl fun a S=>s_gT S (b:=(!(decide (x1.1=x2.1)))) rfl rfl c6 (s_fieldAddr S rfl I39_1 T32 (by decide) rfl rfl fun a S=>s_gT S (b:=(!(decide (x1.1=x2.1)))) rfl rfl c6 (s_load1 S rfl .h T32 (v:=(.int .u64 x2.2.1)) rfl rfl fun a S=>s_gT S (b:=(!(decide (x1.1=x2.1)))) rfl rfl c6 (s_bi S rfl fun a S=>s_pick S (b:=false) (hc_of rfl c6) rfl rfl fun a S=>s_mv1 S rfl fun a S=>?_)))))
  rcases ite_of h1 with ⟨c7,h2⟩ | ⟨c7,h2⟩
  ·refine s_gF S (b:=(x1.2.1 != x2.2.1)) rfl rfl c7 rfl fun a S=>s_gF S (b:=(x1.2.1 != x2.2.1)) rfl rfl c7 rfl fun a S=>s_gF S (b:=(x1.2.1 != x2.2.1)) rfl rfl c7 rfl fun a S=>s_gF S (b:=(x1.2.1 != x2.2.1)) rfl rfl c7 rfl fun a S=>s_gF S (b:=(x1.2.1 != x2.2.1)) rfl rfl c7 rfl fun a S=>s_pick S (b:=true) (hc_of rfl c7) rfl rfl fun a S=>s_mv1 S rfl fun a S=>s_gF S (b:=true) rfl rfl rfl rfl fun a S=>s_gF S (b:=true) rfl rfl rfl rfl fun a S=>s_gF S (b:=true) rfl rfl rfl rfl fun a S=>s_gF S (b:=true) rfl rfl rfl rfl fun a S=>s_gF S (b:=true) rfl rfl rfl rfl fun a S=>s_gF S (b:=true) rfl rfl rfl rfl fun a S=>s_gF S (b:=true) rfl rfl rfl rfl fun a S=>s_pick S (b:=true) (hc_of rfl rfl) rfl rfl fun a S=>s_mv1 S rfl fun a S=>s_gF S (b:=true) rfl rfl rfl rfl fun a S=>s_gF S (b:=true) rfl rfl rfl rfl fun a S=>s_gF S (b:=true) rfl rfl rfl rfl fun a S=>s_gF S (b:=true) rfl rfl rfl rfl fun a S=>s_gF S (b:=true) rfl rfl rfl rfl fun a S=>s_gF S (b:=true) rfl rfl rfl rfl fun a S=>s_gF S (b:=true) rfl rfl rfl rfl fun a S=>s_pick S (b:=true) (hc_of rfl rfl) rfl rfl fun a S=>c_end' (x_thenN ?_)
   exact j1 _ true g2 g1 a w (S.sb rfl (.c0 (.c0 .n))) h2
  ·refine s_gT S (b:=(x1.2.1 != x2.2.1)) rfl rfl c7 (s_fieldAddr S rfl I39_2 T35 (by decide) rfl rfl fun a S=>s_gT S (b:=(x1.2.1 != x2.2.1)) rfl rfl c7 (s_loada S rfl .h1 T35 (s':=[.w4 x1.e3]) rfl rfl fun a S=>s_gT S (b:=(x1.2.1 != x2.2.1)) rfl rfl c7 (s_fieldAddr S rfl I39_2 T35 (by decide) rfl rfl fun a S=>s_gT S (b:=(x1.2.1 != x2.2.1)) rfl rfl c7 (s_loada S rfl .h T35 (s':=[.w4 x2.e3]) rfl rfl fun a S=>s_gT S (b:=(x1.2.1 != x2.2.1)) rfl rfl c7 (s_nea S rfl rfl underlying35 underlying32 T32 Q35 rfl fun a S=>s_pick S (b:=false) (hc_of rfl c7) rfl rfl fun a S=>s_mv1 S rfl fun a S=>?_)))))
   rcases ite_of h2 with ⟨c8,h3⟩ | ⟨c8,h3⟩
   ·refine s_gF S (b:=(!(decide (x1.e3=x2.e3)))) rfl rfl c8 rfl fun a S=>s_gF S (b:=(!(decide (x1.e3=x2.e3)))) rfl rfl c8 rfl fun a S=>s_gF S (b:=(!(decide (x1.e3=x2.e3)))) rfl rfl c8 rfl fun a S=>s_gF S (b:=(!(decide (x1.e3=x2.e3)))) rfl rfl c8 rfl fun a S=>s_gF S (b:=(!(decide (x1.e3=x2.e3)))) rfl rfl c8 rfl fun a S=>s_gF S (b:=(!(decide (x1.e3=x2.e3)))) rfl rfl c8 rfl fun a S=>s_gF S (b:=(!(decide (x1.e3=x2.e3)))) rfl rfl c8 rfl fun a S=>s_pick S (b:=true) (hc_of rfl c8) rfl rfl fun a S=>s_mv1 S rfl fun a S=>s_gF S (b:=true) rfl rfl rfl rfl fun a S=>s_gF S (b:=true) rfl rfl rfl rfl fun a S=>s_gF S (b:=true) rfl rfl rfl rfl fun a S=>s_gF S (b:=true) rfl rfl rfl rfl fun a S=>s_gF S (b:=true) rfl rfl rfl rfl fun a S=>s_gF S (b:=true) rfl rfl rfl rfl fun a S=>s_gF S (b:=true) rfl rfl rfl rfl fun a S=>s_pick S (b:=true) (hc_of rfl rfl) rfl rfl fun a S=>c_end' (x_thenN ?_)
    exact j1 _ true g2 g1 a w (S.sb rfl (.c0 (.c0 .n))) h3
   ·refine s_gT S (b:=(!(decide (x1.e3=x2.e3)))) rfl rfl c8 (s_fieldAddr S rfl I39_3 T36 (by decide) rfl rfl fun a S=>s_gT S (b:=(!(decide (x1.e3=x2.e3)))) rfl rfl c8 (s_loadSl S rfl .h1 T36 (A:=ch_0_0) (len:=(x1.e4).length) (cap:=ch_0_1) rfl rfl fun a S=>s_gT S (b:=(!(decide (x1.e3=x2.e3)))) rfl rfl c8 (s_strS S rfl rfl underlying36 underlying5 underlying9 rfl fun a S=>s_gT S (b:=(!(decide (x1.e3=x2.e3)))) rfl rfl c8 (s_fieldAddr S rfl I39_3 T36 (by decide) rfl rfl fun a S=>s_gT S (b:=(!(decide (x1.e3=x2.e3)))) rfl rfl c8 (s_loadSl S rfl .h T36 (A:=ch_1_0) (len:=(x2.e4).length) (cap:=ch_1_1) rfl rfl fun a S=>s_gT S (b:=(!(decide (x1.e3=x2.e3)))) rfl rfl c8 (s_strS S rfl rfl underlying36 underlying5 underlying9 rfl fun a S=>s_gT S (b:=(!(decide (x1.e3=x2.e3)))) rfl rfl c8 (s_neT S rfl rfl rfl fun a S=>s_pick S (b:=false) (hc_of rfl c8) rfl rfl fun a S=>s_mv1 S rfl fun a S=>?_)))))))
    rcases ite_of h3 with ⟨c9,h4⟩ | ⟨c9,h4⟩
    ·refine s_gF S (b:=(!((bstr x1.e4).toList==(bstr x2.e4).toList))) rfl rfl c9 rfl fun a S=>s_gF S (b:=(!((bstr x1.e4).toList==(bstr x2.e4).toList))) rfl rfl c9 rfl fun a S=>s_gF S (b:=(!((bstr x1.e4).toList==(bstr x2.e4).toList))) rfl rfl c9 rfl fun a S=>s_gF S (b:=(!((bstr x1.e4).toList==(bstr x2.e4).toList))) rfl rfl c9 rfl fun a S=>s_gF S (b:=(!((bstr x1.e4).toList==(bstr x2.e4).toList))) rfl rfl c9 rfl fun a S=>s_gF S (b:=(!((bstr x1.e4).toList==(bstr x2.e4).toList))) rfl rfl c9 rfl fun a S=>s_gF S (b:=(!((bstr x1.e4).toList==(bstr x2.e4).toList))) rfl rfl c9 rfl fun a S=>s_pick S (b:=true) (hc_of rfl c9) rfl rfl fun a S=>c_end' (x_thenN ?_)
     exact j1 _ true g2 g1 a w (S.sb rfl (.c0 (.c0 .n))) h4
    ·refine s_gT S (b:=(!((bstr x1.e4).toList==(bstr x2.e4).toList))) rfl rfl c9 (s_fieldAddr S rfl I39_4 T37 (by decide) rfl rfl fun a S=>s_gT S (b:=(!((bstr x1.e4).toList==(bstr x2.e4).toList))) rfl rfl c9 (s_loadSl S rfl .h1 T37 (A:=ch_0_2) (len:=(x1.t4).length) (cap:=ch_0_3) rfl rfl fun a S=>s_gT S (b:=(!((bstr x1.e4).toList==(bstr x2.e4).toList))) rfl rfl c9 (s_lenS S rfl underlying37 rfl fun a S=>s_gT S (b:=(!((bstr x1.e4).toList==(bstr x2.e4).toList))) rfl rfl c9 (s_fieldAddr S rfl I39_4 T37 (by decide) rfl rfl fun a S=>s_gT S (b:=(!((bstr x1.e4).toList==(bstr x2.e4).toList))) rfl rfl c9 (s_loadSl S rfl .h T37 (A:=ch_1_2) (len:=(x2.t4).length) (cap:=ch_1_3) rfl rfl fun a S=>s_gT S (b:=(!((bstr x1.e4).toList==(bstr x2.e4).toList))) rfl rfl c9 (s_lenS S rfl underlying37 rfl fun a S=>s_gT S (b:=(!((bstr x1.e4).toList==(bstr x2.e4).toList))) rfl rfl c9 (s_bi S rfl fun a S=>s_pick S (b:=false) (hc_of rfl c9) rfl rfl fun a S=>c_end' (x_thenN ?_))))))))
     exact j1 _ (((x1.t4).length:Int) != ((x2.t4).length:Int)) g2 g1 a w (S.sb rfl (.c0 (.c0 .n))) h4
end
end GW
