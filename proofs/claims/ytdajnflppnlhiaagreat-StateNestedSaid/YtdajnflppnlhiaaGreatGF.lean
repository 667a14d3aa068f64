import Derived.Test.YtdajnflppnlhiaaGreatProg
import Derived.Test.YtdajnflppnlhiaaGreatGE
set_option linter.unusedVariables false
set_option linter.unusedSimpArgs false
set_option maxRecDepth 10000
set_option maxHeartbeats 4000000
namespace GW
open Go Go.RowKit Go.Proofs Go.Proofs.Tryz
noncomputable section
abbrev fe4_.Ty:Type:=W30→Option W18
def fe4_.Ctr (s:fe4_.Ty):Prop:=∀ {x1:W30} {ch_0_0:Nat} {ch_0_1:Option Addr} {ch_0_2:Nat} {ch_0_3:Option Addr} {ch_0_4:Nat} {ch_0_5:Option Addr} {ch_0_6:Nat} {ch_0_7:Option Addr} {ch_0_8:Nat} {ch_0_9:Nat} {ch_0_10:Nat} {r:W18} (h0:s x1=some r) {mi:Mem} {w0:World},CtrB Tryz.prog 59 [(.p ch_0_0)] [Res.cells ch_0_0 110 [.b20 x1.1.1, .w x1.1.2.1, .w4 x1.1.e3, .q yb ch_0_1 ch_0_2 x1.1.e4, .q Y83 ch_0_3 ch_0_4 x1.1.t4, .b20 x1.2.1.1, .w x1.2.1.2.1, .w4 x1.2.1.e3, .q yb ch_0_5 ch_0_6 x1.2.1.e4, .q Y83 ch_0_7 ch_0_8 x1.2.1.t4, .b x1.e3, .one (.map (some ch_0_9)), .b x1.e5, .b x1.e6, .one (.map (some ch_0_10))],Res.map true (Ty.arr .u64 4) true (Ty.arr .u64 4) ch_0_9 x1.e4,Res.map true (Ty.arr .u64 4) false Ty.bool ch_0_10 x1.t6] (fun (ch:(Option Addr)×Nat×Nat)=>((.s ch.1 ch.2.1 ch.t2):D)) (fun (ch:(Option Addr)×Nat×Nat)=>[Res.row Y83 83 ch.1 ch.2.1 ch.t2 r,Res.cells ch_0_0 110 [.b20 x1.1.1, .w x1.1.2.1, .w4 x1.1.e3, .q yb ch_0_1 ch_0_2 x1.1.e4, .q Y83 ch_0_3 ch_0_4 x1.1.t4, .b20 x1.2.1.1, .w x1.2.1.2.1, .w4 x1.2.1.e3, .q yb ch_0_5 ch_0_6 x1.2.1.e4, .q Y83 ch_0_7 ch_0_8 x1.2.1.t4, .b x1.e3, .one (.map (some ch_0_9)), .b x1.e5, .b x1.e6, .one (.map (some ch_0_10))],Res.map true (Ty.arr .u64 4) true (Ty.arr .u64 4) ch_0_9 x1.e4,Res.map true (Ty.arr .u64 4) false Ty.bool ch_0_10 x1.t6]) mi w0
def fe4_.j2 (k:Nat)(y6:W18):Option W18:=(fi4_.f G1 k y6).bind fun t1=>(some t1)
def fe4_.b1 (k:Nat)(rec1:W18→W18→Option W18)(y9:W18)(y10:W18):Option W18:=rngL y9 (fe4_.j2 k y10) fun e1=>if (!(decide (e1.2=[0,0,0,0])))=true then (if ((y10).length+([e1]).length)*64≤140737488355328 then (rec1 (adel y9 e1.1) (y10++[e1])) else none) else (rec1 (adel y9 e1.1) y10)
def fe4_.l1 (k:Nat):Nat→W18→W18→Option W18
  | 0,_,_=>none
  | q+1,y9,y10=>fe4_.b1 k (fe4_.l1 k q) y9 y10
def fe4_.j1 (k:Nat)(x1:W30)(y1:W18):Option W18:=fe4_.l1 k k x1.2.2.2.1 y1
def fe4_.j3 (y16:Int)(rec2:W18→Int→Option W18)(y17:W18):Option W18:=rec2 y17 (wr .i64 (y16+1))
def fe4_.j4 (x1:W30)(y15:W18)(y16:Int)(rec2:W18→Int→Option W18):Option W18:=if (!((lk (aget x1.2.2.2.1 ((gt x1.1.2.2.2.2 y16).1)) [0,0,0,0]).2))=true then (if ((y15).length+([gt x1.1.2.2.2.2 y16]).length)*64≤140737488355328 then (fe4_.j3 y16 rec2 (y15++[gt x1.1.2.2.2.2 y16])) else none) else (fe4_.j3 y16 rec2 y15)
def fe4_.b2 (k:Nat)(x1:W30)(rec2:W18→Int→Option W18)(y15:W18)(y16:Int):Option W18:=if (decide (y16<((x1.1.2.2.2.2).length:Int)))=true then (if (0:Int)≤y16∧y16<((x1.1.2.2.2.2).length:Int) then (fe4_.j4 x1 y15 y16 rec2) else none) else (fe4_.j1 k x1 y15)
def fe4_.l2 (k:Nat)(x1:W30):Nat→W18→Int→Option W18
  | 0,_,_=>none
  | q+1,y15,y16=>fe4_.b2 k x1 (fe4_.l2 k x1 q) y15 y16
def fe4_.f (k:Nat)(x1:W30):Option W18:=if (!x1.2.2.1)=true then (fe4_.l2 k x1 k ([]:List ((List Int)×(List Int))) 0) else (fe4_.j1 k x1 ([]:List ((List Int)×(List Int))))
theorem fe4_.ok (k:Nat):fe4_.Ctr (fe4_.f k):=by
 intro x1 ch_0_0 ch_0_1 ch_0_2 ch_0_3 ch_0_4 ch_0_5 ch_0_6 ch_0_7 ch_0_8 ch_0_9 ch_0_10 r h0 mi w0 ok hm
 delta fe4_.f at h0
 refine c_enterZ (n:=64) ok hm func59 rfl rfl rfl fun b0 hb a S=>c_region (s_as1 S rfl fun a S=>c_end (c_region (s_as1 S rfl fun a S=>c_end (wp_seq_k fun K1 hK1=>?_))))
 have j1:∀ m A1 nn1 cp1 y1 a w,St 64 m b0 [(3,(.s A1 nn1 cp1)),(0,(.p ch_0_0))] [Res.row Y83 83 A1 nn1 cp1 y1,Res.cells ch_0_0 110 [.b20 x1.1.1, .w x1.1.2.1, .w4 x1.1.e3, .q yb ch_0_1 ch_0_2 x1.1.e4, .q Y83 ch_0_3 ch_0_4 x1.1.t4, .b20 x1.2.1.1, .w x1.2.1.2.1, .w4 x1.2.1.e3, .q yb ch_0_5 ch_0_6 x1.2.1.e4, .q Y83 ch_0_7 ch_0_8 x1.2.1.t4, .b x1.e3, .one (.map (some ch_0_9)), .b x1.e5, .b x1.e6, .one (.map (some ch_0_10))],Res.map true (Ty.arr .u64 4) true (Ty.arr .u64 4) ch_0_9 x1.e4,Res.map true (Ty.arr .u64 4) false Ty.bool ch_0_10 x1.t6] a w→fe4_.j1 k x1 y1=some r→K1 a w:=by
  intro m A1 nn1 cp1 y1 a w S h0
  delta fe4_.j1 at h0
  refine hK1 a w (wp_seq_k fun K2 hK2=>?_)
  have j2:∀ m A2 nn4 cp6 y6 a w,St 64 m b0 [(3,(.s A2 nn4 cp6))] [Res.row Y83 83 A2 nn4 cp6 y6,Res.cells ch_0_0 110 [.b20 x1.1.1, .w x1.1.2.1, .w4 x1.1.e3, .q yb ch_0_1 ch_0_2 x1.1.e4, .q Y83 ch_0_3 ch_0_4 x1.1.t4, .b20 x1.2.1.1, .w x1.2.1.2.1, .w4 x1.2.1.e3, .q yb ch_0_5 ch_0_6 x1.2.1.e4, .q Y83 ch_0_7 ch_0_8 x1.2.1.t4, .b x1.e3, .one (.map (some ch_0_9)), .b x1.e5, .b x1.e6, .one (.map (some ch_0_10))],Res.map true (Ty.arr .u64 4) true (Ty.arr .u64 4) ch_0_9 x1.e4,Res.map true (Ty.arr .u64 4) false Ty.bool ch_0_10 x1.t6] a w→fe4_.j2 k y6=some r→K2 a w:=by
   intro m A2 nn4 cp6 y6 a w S h0
   delta fe4_.j2 at h0
   refine hK2 a w (c_region (s_mv1 S rfl fun a S=>bindX h0 fun t1 et1 h1=>s_callK S (fi4_.ok G1 H1 k et1) N93 rfl .pre (fun _=> .c1) rfl fun ch1 m le1 a w S=>c_end (c_region (s_mv1 S rfl fun a S=>s_as1 S rfl fun a S=>c_end (wp_ret ?_)))))
   obtain rfl:=sI h1
   exact b_ret1 (d:=(.s A2 nn4 cp6)) S rfl rfl fun ok=>S.retX (Hx:=[]) hb _ _ ((A2,nn4,cp6):(Option Addr)×Nat×Nat) (.c0 (.c0 (.c0 (.c0 .n)))) ok
  refine c_region (s_mv1 S rfl fun a S=>s_nilchk S rfl rfl fun a S=>s_fieldAddr S rfl I110_3 T107 (by decide) rfl rfl fun a S=>s_load1 S rfl .h1 T107 (v:=(.map (some ch_0_9))) rfl rfl fun a S=>s_rangeO S rfl (fun _ _=> .h2) underlying107 rfl fun g1 es1 ck1 a w S=>c_end (wp_block ?_))
  refine c_loop (fun q1 a w=>∃ m g10 y9 cu1 A3 nn6 cp10 y10,St 64 m b0 [(46,(.p g10)),(3,(.s A3 nn6 cp10))] [Res.iterx true (Ty.arr .u64 4) true (Ty.arr .u64 4) g10 ch_0_9 es1 ck1 x1.e4 y9 cu1,Res.row Y83 83 A3 nn6 cp10 y10,Res.cells ch_0_0 110 [.b20 x1.1.1, .w x1.1.2.1, .w4 x1.1.e3, .q yb ch_0_1 ch_0_2 x1.1.e4, .q Y83 ch_0_3 ch_0_4 x1.1.t4, .b20 x1.2.1.1, .w x1.2.1.2.1, .w4 x1.2.1.e3, .q yb ch_0_5 ch_0_6 x1.2.1.e4, .q Y83 ch_0_7 ch_0_8 x1.2.1.t4, .b x1.e3, .one (.map (some ch_0_9)), .b x1.e5, .b x1.e6, .one (.map (some ch_0_10))],Res.mapx true (Ty.arr .u64 4) true (Ty.arr .u64 4) ch_0_9 es1 ck1 x1.e4,Res.map true (Ty.arr .u64 4) false Ty.bool ch_0_10 x1.t6] a w∧fe4_.l1 k q1 y9 y10=some r) ?_ ?_ (k:=k) ⟨_,g1,x1.e4,none,A1,nn1,cp1,y1,(S.sb rfl (.c0 (.c0 (.c0 (.c0 (.c0 .n)))))),h0⟩
  ·rintro a w ⟨m,g10,y9,cu1,A3,nn6,cp10,y10,S,h0⟩
   exact (nomatch (show (none:Option W18)=some r from h0))
  ·clear S h0
   rintro q1 a w ⟨m,g10,y9,cu1,A3,nn6,cp10,y10,S,h0⟩
   replace h0:fe4_.b1 k (fe4_.l1 k q1) y9 y10=some r:=h0
   delta fe4_.b1 at h0
   refine c_region ?_
   refine s_nextO S rfl (fun _ _=> .h) .h3 rfl ?_ ?_
   ·clear S a; intro hR a S
    have h1:=(rng_of h0).1 hR; clear h0
    refine s_extract S rfl rfl rfl rfl fun a S=>c_end (wp_seq (c_condF S rfl rfl (wp_exit (x_thenX (x_thenX (x_blockX (x_thenN ?_)))))))
    exact j2 _ A3 nn6 cp10 y10 a w (S.sub ⟨rfl,tv⟩ (.c1 (.c1 (.c1 (.c1 .n))))) h1
   ·clear S a w; intro e1 hee1 ch2 ch3 a w S
    have h1:=(rng_of h0).2 e1 hee1; clear h0
    refine s_extract S rfl rfl rfl rfl fun a S=>c_end (wp_seq (c_condT S rfl rfl (wp_skip (x_thenN (wp_block (c_region (s_entryO S rfl .h .h3 rfl fun ch4 ch5 a S=>s_extract S rfl rfl rfl rfl fun a S=>s_extract S rfl rfl rfl rfl fun a S=>s_alloc S Z43 rfl ⟨rfl,tv⟩ rfl fun g11 a w S=>s_alloc S Z43 rfl ⟨rfl,tv⟩ rfl fun g12 a w S=>s_store S rfl rfl rfl (s':=[.w4 e1.1]) .h1 T43 rfl rfl fun w S=>s_store S rfl rfl rfl (s':=[.w4 e1.2]) .h T43 rfl rfl fun w S=>c_end (c_region (s_loada S rfl .h T43 (s':=[.w4 e1.2]) rfl rfl fun a S=>s_build S (ds:=[]) (dv:=(.a4 [0,0,0,0])) rfl (fun _=>by kernel_rfl) ⟨rfl,tv⟩ rfl fun a S=>s_nea S rfl rfl underlying43 underlying41 T41 Q43 rfl fun a S=>c_end ?_)))))))))
    rcases ite_of h1 with ⟨c1,h2⟩ | ⟨c1,h2⟩
    ·refine c_condT S rfl c1 (c_region' (s_mv1 S rfl fun a S=>s_loada S rfl .h1 T43 (s':=[.w4 e1.1]) rfl rfl fun a S=>s_loada S rfl .h T43 (s':=[.w4 e1.2]) rfl rfl fun a S=>s_bldS S (ds:=[(0,(.a4 e1.1)),(1,(.a4 e1.2))]) (zs:=[.w4 [0,0,0,0], .w4 [0,0,0,0]]) (s':=[.w4 e1.1, .w4 e1.2]) rfl underlying83 P83 Z83 ⟨rfl,rfl,tv⟩ rfl rfl fun a S=>s_bldSl S (ty':=Y83) (ds:=[(0,(.agg [.w4 e1.1, .w4 e1.2]))]) (z:=([0,0,0,0],[0,0,0,0])) (c0:=((),())) (ys:=[e1]) (cs:=[((),())]) rfl underlying69 J83 Z83 rfl ⟨rfl,rfl,tv⟩ rfl rfl rfl rfl rfl rfl fun g13 a w S=>?_))
     obtain ⟨c2,h3⟩:=chk_of h2; clear h2
     refine s_app S (k2:=1) (ys:=[e1]) rfl (fun _ _=> .h4) rfl rfl (S.holds _ (Pull.mem .h).1).1 (Res.row.src (S.holds _ (Pull.mem .h).1)) underlying69 J83 c2 rfl fun A4 cp11 a w S=>s_as1 S rfl fun a S=>c_end' (x_blockN (x_thenN ?_))
     exact ⟨_,g10,(adel y9 e1.1),(some e1),A4,(nn6+1),cp11,(y10++[e1]),(S.sb rfl (.c3 (.c3 (.c3 (.c3 (.c3 .n)))))),h3⟩
    ·refine c_condF S rfl c1 (wp_skip (x_blockN (x_thenN ?_)))
     exact ⟨_,g10,(adel y9 e1.1),(some e1),A3,nn6,cp10,y10,(S.sb rfl (.c2 (.c2 (.c2 (.c2 (.c2 .n)))))),h2⟩
 refine c_region (s_mv1 S rfl fun a S=>s_nilchk S rfl rfl fun a S=>s_fieldAddr S rfl I110_2 T4 (by decide) rfl rfl fun a S=>s_load1 S rfl .h T4 (v:=(.bool x1.e3)) rfl rfl fun a S=>s_not S rfl rfl fun a S=>c_end ?_)
 rcases ite_of h0 with ⟨c3,h1⟩ | ⟨c3,h1⟩
 ·refine c_condT S rfl c3 (c_region (s_mv1 S rfl fun a S=>s_nilchk S rfl rfl fun a S=>s_fieldAddr S rfl I110_0 T71 (by decide) rfl rfl fun a S=>s_fieldAddr S rfl I71_4 T69 (by decide) rfl rfl fun a S=>s_loadSl S rfl .h T69 (A:=ch_0_3) (len:=(x1.1.t4).length) (cap:=ch_0_4) rfl rfl fun a S=>s_lenS S rfl underlying69 rfl fun a S=>s_mv1 S rfl fun a S=>c_end (wp_block ?_)))
  replace S:=S.nilrow Y83 83
  refine c_loop (fun q2 a w=>∃ m A5 nn10 cp17 y15 y16,St 64 m b0 [(3,(.s A5 nn10 cp17)),(21,(.i y16)),(20,(.i ((x1.1.t4).length:Int))),(19,(.q Y83 ch_0_3 ch_0_4 x1.1.t4)),(0,(.p ch_0_0))] [Res.row Y83 83 A5 nn10 cp17 y15,Res.cells ch_0_0 110 [.b20 x1.1.1, .w x1.1.2.1, .w4 x1.1.e3, .q yb ch_0_1 ch_0_2 x1.1.e4, .q Y83 ch_0_3 ch_0_4 x1.1.t4, .b20 x1.2.1.1, .w x1.2.1.2.1, .w4 x1.2.1.e3, .q yb ch_0_5 ch_0_6 x1.2.1.e4, .q Y83 ch_0_7 ch_0_8 x1.2.1.t4, .b x1.e3, .one (.map (some ch_0_9)), .b x1.e5, .b x1.e6, .one (.map (some ch_0_10))],Res.map true (Ty.arr .u64 4) true (Ty.arr .u64 4) ch_0_9 x1.e4,Res.map true (Ty.arr .u64 4) false Ty.bool ch_0_10 x1.t6] a w∧fe4_.l2 k x1 q2 y15 y16=some r) ?_ ?_ (k:=k) ⟨_,none,0,0,([]:List ((List Int)×(List Int))),0,(S.sb rfl (.c0 (.c0 (.c0 (.c0 .n))))),h1⟩
  ·rintro a w ⟨m,A5,nn10,cp17,y15,y16,S,h0⟩
   exact (nomatch (show (none:Option W18)=some r from h0))
  ·clear S h1
   rintro q2 a w ⟨m,A5,nn10,cp17,y15,y16,S,h0⟩
   replace h0:fe4_.b2 k x1 (fe4_.l2 k x1 q2) y15 y16=some r:=h0
   delta fe4_.b2 at h0
   refine c_region (s_bi S rfl fun a S=>c_end (wp_seq ?_))
   rcases ite_of h0 with ⟨c4,h1⟩ | ⟨c4,h1⟩
   ·refine c_condT S rfl c4 (wp_skip (x_thenN (wp_seq_k fun K3 hK3=>?_)))
    have j3:∀ m A6 nn11 cp19 y17 a w,St 64 m b0 [(3,(.s A6 nn11 cp19)),(21,(.i y16)),(20,(.i ((x1.1.t4).length:Int))),(19,(.q Y83 ch_0_3 ch_0_4 x1.1.t4)),(0,(.p ch_0_0))] [Res.row Y83 83 A6 nn11 cp19 y17,Res.cells ch_0_0 110 [.b20 x1.1.1, .w x1.1.2.1, .w4 x1.1.e3, .q yb ch_0_1 ch_0_2 x1.1.e4, .q Y83 ch_0_3 ch_0_4 x1.1.t4, .b20 x1.2.1.1, .w x1.2.1.2.1, .w4 x1.2.1.e3, .q yb ch_0_5 ch_0_6 x1.2.1.e4, .q Y83 ch_0_7 ch_0_8 x1.2.1.t4, .b x1.e3, .one (.map (some ch_0_9)), .b x1.e5, .b x1.e6, .one (.map (some ch_0_10))],Res.map true (Ty.arr .u64 4) true (Ty.arr .u64 4) ch_0_9 x1.e4,Res.map true (Ty.arr .u64 4) false Ty.bool ch_0_10 x1.t6] a w→fe4_.j3 y16 (fe4_.l2 k x1 q2) y17=some r→K3 a w:=by
     intro m A6 nn11 cp19 y17 a w S h0
     delta fe4_.j3 at h0
     refine hK3 a w (c_region' (s_bi S rfl fun a S=>s_mv1 S rfl fun a S=>c_end' (x_thenN ?_)))
     exact ⟨_,A6,nn11,cp19,y17,(wr .i64 (y16+1)),(S.sb rfl (.c0 (.c0 (.c0 (.c0 .n))))),h0⟩
    refine wp_block (c_region ?_)
    obtain ⟨c5,h2⟩:=chk_of h1; clear h1
    refine s_iaddrS S rfl rfl rfl underlying69 T83 c5.1 c5.2 rfl fun p1 a S=>s_ldA S (fun (c:Unit×Unit)=>[.w4 ((gt x1.1.t4 y16).1), .w4 ((gt x1.1.t4 y16).2)]) rfl T83 (fun _=>rfl) rfl fun ch6 a S=>?_
    refine s_alloc S Z83 rfl ⟨rfl,rfl,tv⟩ rfl fun g18 a w S=>s_store S rfl rfl rfl (s':=[.w4 ((gt x1.1.t4 y16).1), .w4 ((gt x1.1.t4 y16).2)]) .h T83 rfl rfl fun w S=>c_end (wp_seq_k fun K4 hK4=>?_)
    have j4:∀ m g20 a w,St 64 m b0 [(7,(.b ((lk (aget x1.e4 ((gt x1.1.t4 y16).1)) [0,0,0,0]).2))),(5,(.p g20)),(3,(.s A5 nn10 cp17)),(21,(.i y16)),(20,(.i ((x1.1.t4).length:Int))),(19,(.q Y83 ch_0_3 ch_0_4 x1.1.t4)),(0,(.p ch_0_0))] [Res.cells g20 83 [.w4 ((gt x1.1.t4 y16).1), .w4 ((gt x1.1.t4 y16).2)],Res.row Y83 83 A5 nn10 cp17 y15,Res.cells ch_0_0 110 [.b20 x1.1.1, .w x1.1.2.1, .w4 x1.1.e3, .q yb ch_0_1 ch_0_2 x1.1.e4, .q Y83 ch_0_3 ch_0_4 x1.1.t4, .b20 x1.2.1.1, .w x1.2.1.2.1, .w4 x1.2.1.e3, .q yb ch_0_5 ch_0_6 x1.2.1.e4, .q Y83 ch_0_7 ch_0_8 x1.2.1.t4, .b x1.e3, .one (.map (some ch_0_9)), .b x1.e5, .b x1.e6, .one (.map (some ch_0_10))],Res.map true (Ty.arr .u64 4) true (Ty.arr .u64 4) ch_0_9 x1.e4,Res.map true (Ty.arr .u64 4) false Ty.bool ch_0_10 x1.t6] a w→fe4_.j4 x1 y15 y16 (fe4_.l2 k x1 q2)=some r→K4 a w:=by
     intro m g20 a w S h0
     delta fe4_.j4 at h0
     refine hK4 a w (c_region (s_mv1 S rfl fun a S=>s_not S rfl rfl fun a S=>c_end ?_))
     rcases ite_of h0 with ⟨c6,h1⟩ | ⟨c6,h1⟩
     ·refine c_condT S rfl c6 (c_region' (s_mv1 S rfl fun a S=>s_loada S rfl .h T83 (s':=[.w4 ((gt x1.1.t4 y16).1), .w4 ((gt x1.1.t4 y16).2)]) rfl rfl fun a S=>s_bldSl S (ty':=Y83) (ds:=[(0,(.agg [.w4 ((gt x1.1.t4 y16).1), .w4 ((gt x1.1.t4 y16).2)]))]) (z:=([0,0,0,0],[0,0,0,0])) (c0:=((),())) (ys:=[gt x1.1.t4 y16]) (cs:=[((),())]) rfl underlying69 J83 Z83 rfl ⟨rfl,rfl,tv⟩ rfl rfl rfl rfl rfl rfl fun g21 a w S=>?_))
      obtain ⟨c7,h2⟩:=chk_of h1; clear h1
      refine s_app S (k2:=1) (ys:=[gt x1.1.t4 y16]) rfl (fun _ _=> .h2) rfl rfl (S.holds _ (Pull.mem .h).1).1 (Res.row.src (S.holds _ (Pull.mem .h).1)) underlying69 J83 c7 rfl fun A7 cp20 a w S=>s_as1 S rfl fun a S=>c_end' (x_blockN (x_thenN ?_))
      exact j3 _ A7 (nn10+1) cp20 (y15++[gt x1.1.t4 y16]) a w (S.sb rfl (.c2 (.c2 (.c2 (.c2 .n))))) h2
     ·refine c_condF S rfl c6 (wp_skip (x_blockN (x_thenN ?_)))
      exact j3 _ A5 nn10 cp17 y15 a w (S.sb rfl (.c1 (.c1 (.c1 (.c1 .n))))) h1
    refine c_hS S (.tk 0 6 (.alts (.run 6 false (.pure 7 (.pure 8 (.pure 9 (.alts (.run 10 false (.alts (.run 11 false (.alts (.run 12 false .done .nil)) .nil)) .nil))))) (.run 10 true (.alts (.run 6 false (.pure 7 (.pure 8 (.pure 9 (.alts (.run 11 false (.alts (.run 12 false .done .nil)) .nil))))) .nil)) .nil)))) 6 (.c0 (.c1 .n)) ⟨Res.stay_cells,Res.stay_cells,tv⟩ [(5,(.p g18)),(0,(.p ch_0_0))] rfl (by kernel_rfl) fun w S CL hw le=>?_
    refine h_mv1 S CL hw le rfl tv fun a S CL=>h_nilchk S CL hw le (subR rfl) rfl rfl rfl rfl tv fun a S CL=>h_fieldAddr S CL hw le (subR rfl) rfl I110_3 T107 (by decide) rfl rfl rfl tv fun a S CL=>h_load1 S CL hw le (subR rfl) rfl .h1 T107 (v:=(.map (some ch_0_9))) rfl rfl rfl tv fun a S CL=>h_fieldAddr S CL hw le (subR rfl) rfl I83_0 T43 (by decide) rfl rfl rfl tv fun a S CL=>h_loada S CL hw le (subR rfl) rfl .h T43 (s':=[.w4 ((gt x1.1.t4 y16).1)]) rfl rfl rfl tv fun a S CL=>h_alts ?_
    refine h_runO S rfl tv ?_ ?_
    ·refine s_lookO S (z:=[0,0,0,0]) (k:=((gt x1.1.t4 y16).1)) rfl .h3 () rfl (fun h=>⟨(),rfl,h⟩) underlying107 KT43 Z43 ⟨rfl,tv⟩ rfl fun ch7 a S=>?_
     refine h_back ⟨fun h=>(nomatch h),?_⟩
     refine p_move S rfl rfl rfl tv fun a S=>p_extract S rfl rfl rfl rfl rfl tv fun a S=>p_extract S rfl rfl rfl rfl rfl tv fun a S=>h_run' S rfl tv (s_alloc S Z43 rfl ⟨rfl,tv⟩ rfl fun g22 a w S=>?_)
     refine h_back ⟨fun h=>(nomatch h),?_⟩
     refine h_run' S rfl tv (s_storeJ S 0 rfl rfl rfl rfl .h T43 rfl rfl fun w S=>?_)
     refine h_back ⟨fun h=>(nomatch h),?_⟩
     refine h_run' S rfl tv (s_as1 S rfl fun a S=>?_)
     refine h_back ⟨fun h=>(nomatch h),?_⟩
     refine h_done ?_; clear CL hw le
     refine x_thenN ?_
     exact j4 _ g18 a w (S.sb rfl (.c1 (.c1 (.c1 (.c1 (.c1 .n)))))) h2
    refine h_runO S rfl tv ?_ ?_
    ·refine s_alloc S Z43 rfl ⟨rfl,tv⟩ rfl fun g22 a w S=>CL.bk hw S (.c1 (.c2 .n)) le fun hw=>h_run' S rfl tv (s_lookO S (z:=[0,0,0,0]) (k:=((gt x1.1.t4 y16).1)) rfl .h4 () rfl (fun h=>⟨(),rfl,h⟩) underlying107 KT43 Z43 ⟨rfl,tv⟩ rfl fun ch7 a S=>?_)
     refine h_back ⟨fun h=>(nomatch h),?_⟩
     refine p_move S rfl rfl rfl tv fun a S=>p_extract S rfl rfl rfl rfl rfl tv fun a S=>p_extract S rfl rfl rfl rfl rfl tv fun a S=>h_run' S rfl tv (s_storeJ S 0 rfl rfl rfl rfl .h T43 rfl rfl fun w S=>?_)
     refine h_back ⟨fun h=>(nomatch h),?_⟩
     refine h_run' S rfl tv (s_as1 S rfl fun a S=>?_)
     refine h_back ⟨fun h=>(nomatch h),?_⟩
     refine h_done ?_; clear CL hw le
     refine x_thenN ?_
     exact j4 _ g18 a w (S.sb rfl (.c1 (.c1 (.c1 (.c1 (.c1 .n)))))) h2
    exact h_nil
   ·refine c_condF S rfl c4 (wp_exit (x_thenX (x_thenX (x_blockX (x_thenN ?_)))))
    exact j1 _ A5 nn10 cp17 y15 a w (S.sb rfl (.c0 (.c0 (.c0 (.c0 .n))))) h1
 ·refine c_condF S rfl c3 (wp_skip (x_thenN ?_))
  replace S:=S.nilrow Y83 83
  exact j1 _ none 0 0 ([]:List ((List Int)×(List Int))) a w0 (S.sb rfl (.c0 (.c0 (.c0 (.c0 .n))))) h1
abbrev fb9_.Ty:Type:=(List Int)→(List Int)→Option Bool
def fb9_.Ctr (s:fb9_.Ty):Prop:=∀ {x1:List Int} {x2:List Int} {ch_0_0:Option Addr} {ch_0_1:Nat} {ch_1_0:Option Addr} {ch_1_1:Nat} {r:Bool} (h0:s x1 x2=some r) {mi:Mem} {w0:World},CtrB Tryz.prog 95 [(.q yb ch_0_0 ch_0_1 x1),(.q yb ch_1_0 ch_1_1 x2)] [] (fun (ch:Unit)=>((.b r):D)) (fun (ch:Unit)=>[]) mi w0
def fb9_.j1:Option Bool:=some true
def fb9_.b1 (x1:List Int)(x2:List Int)(rec1:Int→Option Bool)(y1:Int):Option Bool:=if (decide (y1<((x1).length:Int)))=true then (if (0:Int)≤y1∧y1<((x1).length:Int) then (if (0:Int)≤y1∧y1<((x2).length:Int) then (if ((rd x1 y1) != (rd x2 y1))=true then (some false) else (rec1 (wr .i64 (y1+1)))) else none) else none) else fb9_.j1
def fb9_.l1 (x1:List Int)(x2:List Int):Nat→Int→Option Bool
  | 0,_=>none
  | q+1,y1=>fb9_.b1 x1 x2 (fb9_.l1 x1 x2 q) y1
def fb9_.f (k:Nat)(x1:List Int)(x2:List Int):Option Bool:=if (((x1).length:Int) != ((x2).length:Int))=true then (some false) else (fb9_.l1 x1 x2 k 0)
theorem fb9_.ok (k:Nat):fb9_.Ctr (fb9_.f k):=by
 intro x1 x2 ch_0_0 ch_0_1 ch_1_0 ch_1_1 r h0 mi w0 ok hm
 delta fb9_.f at h0
 refine c_enterZ (n:=26) ok hm func95 rfl rfl rfl fun b0 hb a S=>c_region (s_as1 S rfl fun a S=>c_end (wp_seq (c_region (s_mv1 S rfl fun a S=>s_lenS S rfl underlying44 rfl fun a S=>s_mv1 S rfl fun a S=>s_lenS S rfl underlying44 rfl fun a S=>s_bi S rfl fun a S=>c_end ?_))))
 rcases ite_of h0 with ⟨c1,h1⟩ | ⟨c1,h1⟩
 ·refine c_condT S rfl c1 (c_region (s_as1 S rfl fun a S=>c_end (wp_ret (x_thenR ?_))))
  obtain rfl:=sI h1
  exact b_ret1 (d:=(.b false)) S rfl rfl (S.rt hb)
 ·refine c_condF S rfl c1 (wp_skip (x_thenN (wp_seq_k fun K1 hK1=>?_)))
  have j1:∀ m a w,St 26 m b0 [] [] a w→fb9_.j1=some r→K1 a w:=by
   intro m a w S h0
   delta fb9_.j1 at h0
   refine hK1 a w (c_region (s_as1 S rfl fun a S=>c_end (wp_ret ?_)))
   obtain rfl:=sI h0
   exact b_ret1 (d:=(.b true)) S rfl rfl (S.rt hb)
  refine c_region (s_mv1 S rfl fun a S=>s_lenS S rfl underlying44 rfl fun a S=>s_mv1 S rfl fun a S=>c_end (wp_block ?_))
  refine c_loop (fun q1 a w=>∃ m y1,St 26 m b0 [(13,(.i y1)),(12,(.i ((x1).length:Int))),(0,(.q yb ch_0_0 ch_0_1 x1)),(1,(.q yb ch_1_0 ch_1_1 x2))] [] a w∧fb9_.l1 x1 x2 q1 y1=some r) ?_ ?_ (k:=k) ⟨_,0,(S.sb rfl .nil),h1⟩
  ·rintro a w ⟨m,y1,S,h0⟩
   exact (nomatch (show (none:Option Bool)=some r from h0))
  ·clear S h1
   rintro q1 a w ⟨m,y1,S,h0⟩
   replace h0:fb9_.b1 x1 x2 (fb9_.l1 x1 x2 q1) y1=some r:=h0
   delta fb9_.b1 at h0
   refine c_region (s_bi S rfl fun a S=>c_end (wp_seq ?_))
   rcases ite_of h0 with ⟨c2,h1⟩ | ⟨c2,h1⟩
   ·refine c_condT S rfl c2 (wp_skip (x_thenN (wp_seq (wp_block (c_region (s_mv1 S rfl fun a S=>s_as1 S rfl fun a S=>c_end ?_))))))
    refine wp_seq (c_hS S (.tk 0 9 .done) 9 .nil tv [(5,(.i y1)),(0,(.q yb ch_0_0 ch_0_1 x1)),(1,(.q yb ch_1_0 ch_1_1 x2))] rfl (by kernel_rfl) ?_); clear S; intro w S CL hw le
    refine h_mv2 S CL hw le rfl tv tv fun a S CL=>?_
    obtain ⟨c3,h2⟩:=chk_of h1; clear h1
    refine h_iaddrS S CL hw le (subR rfl) rfl rfl rfl underlying44 T5 c3.1 c3.2 rfl rfl tv fun p1 a S CL=>h_ld1 S CL hw le (subR rfl) (v:=(.int .u8 (rd x1 y1))) rfl T5 (fun _=>rfl) rfl rfl tv fun a S CL=>h_mv2 S CL hw le rfl tv tv fun a S CL=>?_
    obtain ⟨c4,h3⟩:=chk_of h2; clear h2
    refine h_iaddrS S CL hw le (subR rfl) rfl rfl rfl underlying44 T5 c4.1 c4.2 rfl rfl tv fun p2 a S CL=>h_ld1 S CL hw le (subR rfl) (v:=(.int .u8 (rd x2 y1))) rfl T5 (fun _=>rfl) rfl rfl tv fun a S CL=>h_bin S CL hw le (subR rfl) rfl rfl rfl rfl rfl tv fun a S CL=>?_
    refine h_done ?_; clear CL hw le
    refine x_thenN ?_
    rcases ite_of h3 with ⟨c5,h4⟩ | ⟨c5,h4⟩
    ·refine c_condT S rfl c5 (c_region (s_as1 S rfl fun a S=>c_end (wp_ret (x_blockR (x_thenR (x_thenR (x_blockR (x_thenR ?_))))))))
     obtain rfl:=sI h4
     exact b_ret1 (d:=(.b false)) S rfl rfl (S.rt hb)
    ·refine c_condF S rfl c5 (wp_skip (x_blockN (x_thenN (c_region' (s_bi S rfl fun a S=>s_mv1 S rfl fun a S=>c_end' (x_thenN ?_))))))
     exact ⟨_,(wr .i64 (y1+1)),(S.sb rfl .nil),h4⟩
   ·refine c_condF S rfl c2 (wp_exit (x_thenX (x_thenX (x_blockX (x_thenN ?_)))))
    exact j1 _ a w (S.sub tv .nil) h1
abbrev fi0_.Ty:Type:=W18→W18→Option Bool
def fi0_.Ctr (s:fi0_.Ty):Prop:=∀ {x1:W18} {x2:W18} {ch_0_0:Option Addr} {ch_0_1:Nat} {ch_1_0:Option Addr} {ch_1_1:Nat} {r:Bool} (h0:s x1 x2=some r) {mi:Mem} {w0:World},CtrB Tryz.prog 96 [(.q Y83 ch_0_0 ch_0_1 x1),(.q Y83 ch_1_0 ch_1_1 x2)] [] (fun (ch:Unit)=>((.b r):D)) (fun (ch:Unit)=>[]) mi w0
def fi0_.j1:Option Bool:=some true
def fi0_.b1 (x1:W18)(x2:W18)(rec1:Int→Option Bool)(y1:Int):Option Bool:=if (decide (y1<((x1).length:Int)))=true then (if (0:Int)≤y1∧y1<((x1).length:Int) then (if (0:Int)≤y1∧y1<((x2).length:Int) then (if (!(decide (gt x1 y1=gt x2 y1)))=true then (some false) else (rec1 (wr .i64 (y1+1)))) else none) else none) else fi0_.j1
def fi0_.l1 (x1:W18)(x2:W18):Nat→Int→Option Bool
  | 0,_=>none
  | q+1,y1=>fi0_.b1 x1 x2 (fi0_.l1 x1 x2 q) y1
def fi0_.f (k:Nat)(x1:W18)(x2:W18):Option Bool:=if (((x1).length:Int) != ((x2).length:Int))=true then (some false) else (fi0_.l1 x1 x2 k 0)
theorem fi0_.ok (k:Nat):fi0_.Ctr (fi0_.f k):=by
 intro x1 x2 ch_0_0 ch_0_1 ch_1_0 ch_1_1 r h0 mi w0 ok hm
 delta fi0_.f at h0
 refine c_enterZ (n:=26) ok hm func96 rfl rfl rfl fun b0 hb a S=>c_region (s_as1 S rfl fun a S=>c_end (wp_seq (c_region (s_mv1 S rfl fun a S=>s_lenS S rfl underlying69 rfl fun a S=>s_mv1 S rfl fun a S=>s_lenS S rfl underlying69 rfl fun a S=>s_bi S rfl fun a S=>c_end ?_))))
 rcases ite_of h0 with ⟨c1,h1⟩ | ⟨c1,h1⟩
 ·refine c_condT S rfl c1 (c_region (s_as1 S rfl fun a S=>c_end (wp_ret (x_thenR ?_))))
  obtain rfl:=sI h1
  exact b_ret1 (d:=(.b false)) S rfl rfl (S.rt hb)
 ·refine c_condF S rfl c1 (wp_skip (x_thenN (wp_seq_k fun K1 hK1=>?_)))
  have j1:∀ m a w,St 26 m b0 [] [] a w→fi0_.j1=some r→K1 a w:=by
   intro m a w S h0
   delta fi0_.j1 at h0
   refine hK1 a w (c_region (s_as1 S rfl fun a S=>c_end (wp_ret ?_)))
   obtain rfl:=sI h0
   exact b_ret1 (d:=(.b true)) S rfl rfl (S.rt hb)
  refine c_region (s_mv1 S rfl fun a S=>s_lenS S rfl underlying69 rfl fun a S=>s_mv1 S rfl fun a S=>c_end (wp_block ?_))
  refine c_loop (fun q1 a w=>∃ m y1,St 26 m b0 [(13,(.i y1)),(12,(.i ((x1).length:Int))),(0,(.q Y83 ch_0_0 ch_0_1 x1)),(1,(.q Y83 ch_1_0 ch_1_1 x2))] [] a w∧fi0_.l1 x1 x2 q1 y1=some r) ?_ ?_ (k:=k) ⟨_,0,(S.sb rfl .nil),h1⟩
  ·rintro a w ⟨m,y1,S,h0⟩
   exact (nomatch (show (none:Option Bool)=some r from h0))
  ·clear S h1
   rintro q1 a w ⟨m,y1,S,h0⟩
   replace h0:fi0_.b1 x1 x2 (fi0_.l1 x1 x2 q1) y1=some r:=h0
   delta fi0_.b1 at h0
   refine c_region (s_bi S rfl fun a S=>c_end (wp_seq ?_))
   rcases ite_of h0 with ⟨c2,h1⟩ | ⟨c2,h1⟩
   ·refine c_condT S rfl c2 (wp_skip (x_thenN (wp_seq (wp_block (c_region (s_mv1 S rfl fun a S=>s_as1 S rfl fun a S=>c_end ?_))))))
    refine wp_seq (c_hS S (.tk 0 9 .done) 9 .nil tv [(5,(.i y1)),(0,(.q Y83 ch_0_0 ch_0_1 x1)),(1,(.q Y83 ch_1_0 ch_1_1 x2))] rfl (by kernel_rfl) ?_); clear S; intro w S CL hw le
    refine h_mv2 S CL hw le rfl tv tv fun a S CL=>?_
    obtain ⟨c3,h2⟩:=chk_of h1; clear h1
    refine h_iaddrS S CL hw le (subR rfl) rfl rfl rfl underlying69 T83 c3.1 c3.2 rfl rfl tv fun p1 a S CL=>h_ldA S CL hw le (subR rfl) (fun (c:Unit×Unit)=>[.w4 ((gt x1 y1).1), .w4 ((gt x1 y1).2)]) rfl T83 (fun _=>rfl) rfl rfl tv fun ch1 a S CL=>?_
    refine h_mv2 S CL hw le rfl tv tv fun a S CL=>?_
    obtain ⟨c4,h3⟩:=chk_of h2; clear h2
    refine h_iaddrS S CL hw le (subR rfl) rfl rfl rfl underlying69 T83 c4.1 c4.2 rfl rfl tv fun p2 a S CL=>h_ldA S CL hw le (subR rfl) (fun (c:Unit×Unit)=>[.w4 ((gt x2 y1).1), .w4 ((gt x2 y1).2)]) rfl T83 (fun _=>rfl) rfl rfl tv fun ch2 a S CL=>?_
    refine h_neS S CL hw le (subR rfl) (ty':=Y83) (p:=gt x1 y1) (q:=gt x2 y1) ((),()) ((),()) rfl rfl E83 rfl Q83 rfl rfl tv fun a S CL=>?_
    refine h_done ?_; clear CL hw le
    refine x_thenN ?_
    rcases ite_of h3 with ⟨c5,h4⟩ | ⟨c5,h4⟩
    ·refine c_condT S rfl c5 (c_region (s_as1 S rfl fun a S=>c_end (wp_ret (x_blockR (x_thenR (x_thenR (x_blockR (x_thenR ?_))))))))
     obtain rfl:=sI h4
     exact b_ret1 (d:=(.b false)) S rfl rfl (S.rt hb)
    ·refine c_condF S rfl c5 (wp_skip (x_blockN (x_thenN (c_region' (s_bi S rfl fun a S=>s_mv1 S rfl fun a S=>c_end' (x_thenN ?_))))))
     exact ⟨_,(wr .i64 (y1+1)),(S.sb rfl .nil),h4⟩
   ·refine c_condF S rfl c2 (wp_exit (x_thenX (x_thenX (x_blockX (x_thenN ?_)))))
    exact j1 _ a w (S.sub tv .nil) h1
abbrev fi7_.Ty:Type:=W1→W1→Option Bool
def fi7_.Ctr (s:fi7_.Ty):Prop:=∀ {x1:W1} {x2:W1} {ch_0_0:Option Addr} {ch_0_1:Nat} {ch_0_2:Option Addr} {ch_0_3:Nat} {ch_1_0:Option Addr} {ch_1_1:Nat} {ch_1_2:Option Addr} {ch_1_3:Nat} {r:Bool} (h0:s x1 x2=some r) {mi:Mem} {w0:World},CtrB Tryz.prog 60 [(.agg (Y71.segs x1 ((),(),(),(ch_0_0,ch_0_1),(ch_0_2,ch_0_3)))),(.agg (Y71.segs x2 ((),(),(),(ch_1_0,ch_1_1),(ch_1_2,ch_1_3))))] [] (fun (ch:Unit)=>((.b r):D)) (fun (ch:Unit)=>[]) mi w0
def fi7_.f (k:Nat)(x1:W1)(x2:W1):Option Bool:=if (x1.2.1==x2.2.1)=true then (if (decide (x1.2.2.1=x2.2.2.1))=true then ((fb9_.f k x1.2.2.2.1 x2.2.2.2.1).bind fun t1=>(if t1=true then ((fi0_.f k x1.2.2.2.2 x2.2.2.2.2).bind fun t2=>(some t2)) else (some false))) else (some false)) else (some false)
theorem fi7_.ok (k:Nat):fi7_.Ctr (fi7_.f k):=by
 intro x1 x2 ch_0_0 ch_0_1 ch_0_2 ch_0_3 ch_1_0 ch_1_1 ch_1_2 ch_1_3 r h0 mi w0 ok hm
 delta fi7_.f at h0
 refine c_enterZ (n:=31) ok hm func60 rfl rfl rfl fun b0 hb a S=>c_region (s_box S rfl rfl rfl fun g1 a w S=>s_box S rfl rfl rfl fun g2 a w S=>s_as1 S rfl fun a S=>c_end (c_region (s_fieldAddr S rfl I71_1 T41 (by decide) rfl rfl fun a S=>s_load1 S rfl .h1 T41 (v:=(.int .u64 x1.2.1)) rfl rfl fun a S=>s_fieldAddr S rfl I71_1 T41 (by decide) rfl rfl fun a S=>s_load1 S rfl .h T41 (v:=(.int .u64 x2.2.1)) rfl rfl fun a S=>s_bi S rfl fun a S=>s_mv1 S rfl fun a S=>?_)))
 rcases ite_of h0 with ⟨c1,h1⟩ | ⟨c1,h1⟩
 ·refine s_gT S (b:=(x1.2.1==x2.2.1)) rfl rfl c1 (s_fieldAddr S rfl I71_2 T43 (by decide) rfl rfl fun a S=>s_gT S (b:=(x1.2.1==x2.2.1)) rfl rfl c1 (s_loada S rfl .h1 T43 (s':=[.w4 x1.e3]) rfl rfl fun a S=>s_gT S (b:=(x1.2.1==x2.2.1)) rfl rfl c1 (s_fieldAddr S rfl I71_2 T43 (by decide) rfl rfl fun a S=>s_gT S (b:=(x1.2.1==x2.2.1)) rfl rfl c1 (s_loada S rfl .h T43 (s':=[.w4 x2.e3]) rfl rfl fun a S=>s_gT S (b:=(x1.2.1==x2.2.1)) rfl rfl c1 (s_eqa S rfl rfl underlying43 underlying41 T41 Q43 rfl fun a S=>s_pick S (b:=true) (hc_of rfl c1) rfl rfl fun a S=>s_mv1 S rfl fun a S=>?_)))))
  rcases ite_of h1 with ⟨c2,h2⟩ | ⟨c2,h2⟩
  ·refine s_gT S (b:=(decide (x1.e3=x2.e3))) rfl rfl c2 (s_fieldAddr S rfl I71_3 T44 (by decide) rfl rfl fun a S=>s_gT S (b:=(decide (x1.e3=x2.e3))) rfl rfl c2 (s_loadSl S rfl .h1 T44 (A:=ch_0_0) (len:=(x1.e4).length) (cap:=ch_0_1) rfl rfl fun a S=>s_gT S (b:=(decide (x1.e3=x2.e3))) rfl rfl c2 (s_fieldAddr S rfl I71_3 T44 (by decide) rfl rfl fun a S=>s_gT S (b:=(decide (x1.e3=x2.e3))) rfl rfl c2 (s_loadSl S rfl .h T44 (A:=ch_1_0) (len:=(x2.e4).length) (cap:=ch_1_1) rfl rfl fun a S=>s_gT S (b:=(decide (x1.e3=x2.e3))) rfl rfl c2 (bindX h2 fun t1 et1 h3=>s_callK S (fb9_.ok k et1) N95 rfl .pre (fun _=> .n) rfl fun ch1 m le1 a w S=>s_pick S (b:=true) (hc_of rfl c2) rfl rfl fun a S=>s_mv1 S rfl fun a S=>?_)))))
   rcases ite_of h3 with ⟨c3,h4⟩ | ⟨c3,h4⟩
   ·refine s_gT S (b:=t1) rfl rfl c3 (s_fieldAddr S rfl I71_4 T69 (by decide) rfl rfl fun a S=>s_gT S (b:=t1) rfl rfl c3 (s_loadSl S rfl .h1 T69 (A:=ch_0_2) (len:=(x1.t4).length) (cap:=ch_0_3) rfl rfl fun a S=>s_gT S (b:=t1) rfl rfl c3 (s_fieldAddr S rfl I71_4 T69 (by decide) rfl rfl fun a S=>s_gT S (b:=t1) rfl rfl c3 (s_loadSl S rfl .h T69 (A:=ch_1_2) (len:=(x2.t4).length) (cap:=ch_1_3) rfl rfl fun a S=>s_gT S (b:=t1) rfl rfl c3 (bindX h4 fun t2 et2 h5=>s_callK S (fi0_.ok k et2) N96 rfl .pre (fun _=> .n) rfl fun ch2 m le1 a w S=>s_pick S (b:=true) (hc_of rfl c3) rfl rfl fun a S=>s_as1 S rfl fun a S=>c_end (wp_ret ?_))))))
    obtain rfl:=sI h5
    exact b_ret1 (d:=(.b t2)) S rfl rfl (S.rt hb)
   ·refine s_gF S (b:=t1) rfl rfl c3 rfl fun a S=>s_gF S (b:=t1) rfl rfl c3 rfl fun a S=>s_gF S (b:=t1) rfl rfl c3 rfl fun a S=>s_gF S (b:=t1) rfl rfl c3 rfl fun a S=>s_gF S (b:=t1) rfl rfl c3 rfl fun a S=>s_pick S (b:=false) (hc_of rfl c3) rfl rfl fun a S=>s_as1 S rfl fun a S=>c_end (wp_ret ?_)
    obtain rfl:=sI h4
    exact b_ret1 (d:=(.b false)) S rfl rfl (S.rt hb)
  ·refine s_gF S (b:=(decide (x1.e3=x2.e3))) rfl rfl c2 rfl fun a S=>s_gF S (b:=(decide (x1.e3=x2.e3))) rfl rfl c2 rfl fun a S=>s_gF S (b:=(decide (x1.e3=x2.e3))) rfl rfl c2 rfl fun a S=>s_gF S (b:=(decide (x1.e3=x2.e3))) rfl rfl c2 rfl fun a S=>s_gF S (b:=(decide (x1.e3=x2.e3))) rfl rfl c2 rfl fun a S=>s_pick S (b:=false) (hc_of rfl c2) rfl rfl fun a S=>s_mv1 S rfl fun a S=>s_gF S (b:=false) rfl rfl rfl rfl fun a S=>s_gF S (b:=false) rfl rfl rfl rfl fun a S=>s_gF S (b:=false) rfl rfl rfl rfl fun a S=>s_gF S (b:=false) rfl rfl rfl rfl fun a S=>s_gF S (b:=false) rfl rfl rfl rfl fun a S=>s_pick S (b:=false) (hc_of rfl rfl) rfl rfl fun a S=>s_as1 S rfl fun a S=>c_end (wp_ret ?_)
   obtain rfl:=sI h2
   exact b_ret1 (d:=(.b false)) S rfl rfl (S.rt hb)
 ·refine s_gF S (b:=(x1.2.1==x2.2.1)) rfl rfl c1 rfl fun a S=>s_gF S (b:=(x1.2.1==x2.2.1)) rfl rfl c1 rfl fun a S=>s_gF S (b:=(x1.2.1==x2.2.1)) rfl rfl c1 rfl fun a S=>s_gF S (b:=(x1.2.1==x2.2.1)) rfl rfl c1 rfl fun a S=>s_gF S (b:=(x1.2.1==x2.2.1)) rfl rfl c1 rfl fun a S=>s_pick S (b:=false) (hc_of rfl c1) rfl rfl fun a S=>s_mv1 S rfl fun a S=>s_gF S (b:=false) rfl rfl rfl rfl fun a S=>s_gF S (b:=false) rfl rfl rfl rfl fun a S=>s_gF S (b:=false) rfl rfl rfl rfl fun a S=>s_gF S (b:=false) rfl rfl rfl rfl fun a S=>s_gF S (b:=false) rfl rfl rfl rfl fun a S=>s_pick S (b:=false) (hc_of rfl rfl) rfl rfl fun a S=>s_mv1 S rfl fun a S=>s_gF S (b:=false) rfl rfl rfl rfl fun a S=>s_gF S (b:=false) rfl rfl rfl rfl fun a S=>s_gF S (b:=false) rfl rfl rfl rfl fun a S=>s_gF S (b:=false) rfl rfl rfl rfl fun a S=>s_gF S (b:=false) rfl rfl rfl rfl fun a S=>s_pick S (b:=false) (hc_of rfl rfl) rfl rfl fun a S=>s_as1 S rfl fun a S=>c_end (wp_ret ?_)
  obtain rfl:=sI h1
  exact b_ret1 (d:=(.b false)) S rfl rfl (S.rt hb)
abbrev fh9_.Ty:Type:=(List Int)→(List Int)→Option Int
def fh9_.Ctr (s:fh9_.Ty):Prop:=∀ {x1:List Int} {x2:List Int} {ch_0_0:Option Addr} {ch_0_1:Nat} {ch_1_0:Option Addr} {ch_1_1:Nat} {r:Int} (h0:s x1 x2=some r) {mi:Mem} {w0:World},CtrB Tryz.prog 99 [(.q yb ch_0_0 ch_0_1 x1),(.q yb ch_1_0 ch_1_1 x2)] [] (fun (ch:Unit)=>((.i r):D)) (fun (ch:Unit)=>[]) mi w0
def fh9_.f (x1:List Int)(x2:List Int):Option Int:=some (Lib.compareBytes (u8s x1) (u8s x2))
theorem fh9_.ok:fh9_.Ctr (fh9_.f):=by
 intro x1 x2 ch_0_0 ch_0_1 ch_1_0 ch_1_1 r h0 mi w0 ok hm
 delta fh9_.f at h0
 refine c_enterZ (n:=8) ok hm func99 rfl rfl rfl fun b0 hb a S=>c_region (s_as1 S rfl fun a S=>c_end (c_region (s_mv2 S rfl fun a S=>s_extCmp S X112 rfl rfl rfl fun a S=>s_as1 S rfl fun a S=>c_end (wp_ret ?_))))
 obtain rfl:=sI h0
 exact b_ret1 (d:=(.i (Lib.compareBytes (u8s x1) (u8s x2)))) S rfl rfl (S.rt hb)
abbrev fi2_.Ty:Type:=(List Int)→(List Int)→Option Int
def fi2_.Ctr (s:fi2_.Ty):Prop:=∀ {x1:List Int} {x2:List Int} {r:Int} (h0:s x1 x2=some r) {mi:Mem} {w0:World},CtrB Tryz.prog 63 [(.agg [.b20 x1]),(.agg [.b20 x2])] [] (fun (ch:Unit)=>((.i r):D)) (fun (ch:Unit)=>[]) mi w0
def fi2_.f (x1:List Int)(x2:List Int):Option Int:=(fh9_.f (((x1).drop 0).take 20) (((x2).drop 0).take 20)).bind fun t1=>(some t1)
theorem fi2_.ok:fi2_.Ctr (fi2_.f):=by
 intro x1 x2 r h0 mi w0 ok hm
 delta fi2_.f at h0
 refine c_enterZ (n:=8) ok hm func63 rfl rfl rfl fun b0 hb a S=>c_region (s_box S rfl rfl rfl fun g1 a w S=>s_box S rfl rfl rfl fun g2 a w S=>s_as1 S rfl fun a S=>c_end ?_)
 refine wp_seq (c_hS S (.take 0 (.take 1 (.alts (.run 2 true (.take 3 .done) .nil)))) 4 .nil tv [(3,(.p g2)),(2,(.p g1))] rfl (by kernel_rfl) ?_); clear S; intro w S CL hw le
 refine h_sliceA S CL hw le (subR rfl) (i:=0) (j:=20) (o':=0) (len:=20) (cap:=20) rfl underlying40 T5 (.inl ⟨rfl,rfl⟩) (.inl ⟨rfl,rfl⟩) (by decide) rfl rfl rfl rfl rfl tv fun a S CL=>h_sliceA S CL hw le (subR rfl) (i:=0) (j:=20) (o':=0) (len:=20) (cap:=20) rfl underlying40 T5 (.inl ⟨rfl,rfl⟩) (.inl ⟨rfl,rfl⟩) (by decide) rfl rfl rfl rfl rfl tv fun a S CL=>h_run' S rfl tv ?_
 replace S:=S.freeze .h1
 obtain ⟨m,le1,S⟩:=S
 replace le:=le.trans le1
 replace S:=(S.slup' (u:=5) (lo:=0) (c:=20) (ys:=((x1).drop 0).take 20) rfl (Pull.mem .h1).1 .h (.inl rfl) (by decide) (by decide) rfl).2
 replace S:=S.freeze .h
 obtain ⟨m,le1,S⟩:=S
 replace le:=le.trans le1
 replace S:=(S.slup' (u:=6) (lo:=0) (c:=20) (ys:=((x2).drop 0).take 20) rfl (Pull.mem .h).1 .h (.inl rfl) (by decide) (by decide) rfl).2
 replace CL:=CL.drop (lq':=[(3,(.p g2)),(2,(.p g1))]) (subR rfl)
 refine bindX h0 fun t1 et1 h1=>s_callK S (fh9_.ok et1) N99 rfl .pre (fun _=> .n) rfl fun ch1 m le1 a w S=>?_
 replace le:=le.trans le1
 refine CL.bk hw S .nil le fun hw=>?_
 replace CL:=CL.add (t:=7) (d:=(.i t1)) S rfl rfl
 refine h_assign S CL hw le (subR rfl) rfl rfl rfl tv fun a S CL=>?_
 refine h_done ?_; clear CL hw le
 refine x_thenN (wp_ret ?_)
 obtain rfl:=sI h1
 exact b_ret1 (d:=(.i t1)) S rfl rfl (S.rt hb)
abbrev fc5_.Ty:Type:=W1→W1→Option Int
def fc5_.Ctr (s:fc5_.Ty):Prop:=∀ {x1:W1} {x2:W1} {ch_0_0:Option Addr} {ch_0_1:Nat} {ch_0_2:Option Addr} {ch_0_3:Nat} {ch_1_0:Option Addr} {ch_1_1:Nat} {ch_1_2:Option Addr} {ch_1_3:Nat} {r:Int} (h0:s x1 x2=some r) {mi:Mem} {w0:World},CtrB Tryz.prog 62 [(.agg (Y71.segs x1 ((),(),(),(ch_0_0,ch_0_1),(ch_0_2,ch_0_3)))),(.agg (Y71.segs x2 ((),(),(),(ch_1_0,ch_1_1),(ch_1_2,ch_1_3))))] [] (fun (ch:Unit)=>((.i r):D)) (fun (ch:Unit)=>[]) mi w0
def fc5_.f (x1:W1)(x2:W1):Option Int:=(fi2_.f x1.1 x2.1).bind fun t1=>(some t1)
theorem fc5_.ok:fc5_.Ctr (fc5_.f):=by
 intro x1 x2 ch_0_0 ch_0_1 ch_0_2 ch_0_3 ch_1_0 ch_1_1 ch_1_2 ch_1_3 r h0 mi w0 ok hm
 delta fc5_.f at h0
 refine c_enterZ (n:=10) ok hm func62 rfl rfl rfl fun b0 hb a S=>c_region (s_box S rfl rfl rfl fun g1 a w S=>s_box S rfl rfl rfl fun g2 a w S=>s_as1 S rfl fun a S=>c_end (c_region (s_fieldAddr S rfl I71_0 T40 (by decide) rfl rfl fun a S=>s_loada S rfl .h1 T40 (s':=[.b20 x1.1]) rfl rfl fun a S=>s_fieldAddr S rfl I71_0 T40 (by decide) rfl rfl fun a S=>s_loada S rfl .h T40 (s':=[.b20 x2.1]) rfl rfl fun a S=>bindX h0 fun t1 et1 h1=>s_callK S (fi2_.ok et1) N63 rfl .pre (fun _=> .n) rfl fun ch1 m le1 a w S=>s_as1 S rfl fun a S=>c_end (wp_ret ?_))))
 obtain rfl:=sI h1
 exact b_ret1 (d:=(.i t1)) S rfl rfl (S.rt hb)
abbrev G2:SortG:={ α:=L71,inh:=inferInstance,T:=Y71,e:=71,s:=22,c:=120,φ:=fun f=>bif Nat.beq f 113 then 102 else bif Nat.beq f 126 then 121 else bif Nat.beq f 114 then 103 else bif Nat.beq f 115 then 104 else bif Nat.beq f 130 then 129 else bif Nat.beq f 128 then 125 else bif Nat.beq f 127 then 124 else bif Nat.beq f 116 then 105 else bif Nat.beq f 117 then 106 else bif Nat.beq f 118 then 107 else bif Nat.beq f 119 then 108 else bif Nat.beq f 120 then 109 else bif Nat.beq f 101 then 97 else bif Nat.beq f 93 then 61 else f,fc:=62,cmp:=fun k=>fc5_.f }
theorem H2:SortG.Ok G2 where
  hT:=T71
  hU:=underlying22
  hcmp:=fun {k x y cx cy r} e=>fc5_.ok (ch_0_0:=cx.e4.1) (ch_0_1:=cx.e4.2) (ch_0_2:=cx.e5) (ch_0_3:=cx.t5) (ch_1_0:=cy.e4.1) (ch_1_1:=cy.e4.2) (ch_1_2:=cy.e5) (ch_1_3:=cy.t5) e
  nc:=N62
  n113:=⟨⟨_,func102,by kernel_rfl,rfl,by kernel_rfl,by decide⟩⟩
  n126:=⟨⟨_,func121,by kernel_rfl,rfl,by kernel_rfl,by decide⟩⟩
  n114:=⟨⟨_,func103,by kernel_rfl,rfl,by kernel_rfl,by decide⟩⟩
  n115:=⟨⟨_,func104,by kernel_rfl,rfl,by kernel_rfl,by decide⟩⟩
  n130:=⟨⟨_,func129,by kernel_rfl,rfl,by kernel_rfl,by decide⟩⟩
  n128:=⟨⟨_,func125,by kernel_rfl,rfl,by kernel_rfl,by decide⟩⟩
  n127:=⟨⟨_,func124,by kernel_rfl,rfl,by kernel_rfl,by decide⟩⟩
  n116:=⟨⟨_,func105,by kernel_rfl,rfl,by kernel_rfl,by decide⟩⟩
  n117:=⟨⟨_,func106,by kernel_rfl,rfl,by kernel_rfl,by decide⟩⟩
  n118:=⟨⟨_,func107,by kernel_rfl,rfl,by kernel_rfl,by decide⟩⟩
  n119:=⟨⟨_,func108,by kernel_rfl,rfl,by kernel_rfl,by decide⟩⟩
  n120:=⟨⟨_,func109,by kernel_rfl,rfl,by kernel_rfl,by decide⟩⟩
  n101:=⟨⟨_,func97,by kernel_rfl,rfl,by kernel_rfl,by decide⟩⟩
  n93:=⟨⟨_,func61,by kernel_rfl,rfl,by kernel_rfl,by decide⟩⟩
abbrev fe2_.Ty:Type:=W2→Option (List L71)
def fe2_.Ctr (s:fe2_.Ty):Prop:=∀ {x1:W2} {ch_0:W3} {r:List L71} (h0:s x1=some r) {mi:Mem} {w0:World},CtrB Tryz.prog 26 [(.v (.pointer (some ⟨ch_0.1,0,none⟩)))] (MS1 x1 ch_0) (fun (ch:(Option Addr)×Nat×Nat)=>((.s ch.1 ch.2.1 ch.t2):D)) (fun (ch:(Option Addr)×Nat×Nat)=>([Res.row Y71 71 ch.1 ch.2.1 ch.t2 r]++MS1 x1 ch_0)) mi w0
def fe2_.j1 (k:Nat)(y1:List L71):Option (List L71):=(fi4_.f G2 k y1).bind fun t1=>(some t1)
def fe2_.j2 (k:Nat)(x1:W2)(y14:List L71)(y15:W31)(rec1:(List L71)→W31→Option (List L71))(e1:(List Int)×(Option Nat))(y16:List Int)(y17:Int)(y18:List Int)(y19:List Int)(y20:W18):Option (List L71):=if e1.2.isSome=true then ((fi7_.f k (y16,y17,y18,y19,y20) ((atE x1.2.1.2.1 (e1.2.getD 0)).1)).bind fun t10=>(if (!t10)=true then (if ((y14).length+([(y16,y17,y18,y19,y20)]).length)*112≤140737488355328 then (rec1 (y14++[(y16,y17,y18,y19,y20)]) (adel y15 e1.1)) else none) else (rec1 y14 (adel y15 e1.1)))) else none
def fe2_.b1 (k:Nat)(x1:W2)(rec1:(List L71)→W31→Option (List L71))(y14:List L71)(y15:W31):Option (List L71):=rngL y15 (fe2_.j1 k y14) fun e1=>if e1.2.isSome=true then (if (!((atE x1.2.1.2.1 (e1.2.getD 0)).2.2.2.2.1))=true then ((fc_.f (((atE x1.2.1.2.1 (e1.2.getD 0)).2.1).2.2.2.1)).bind fun t11=>((fe4_.f k ((atE x1.2.1.2.1 (e1.2.getD 0)).1,(atE x1.2.1.2.1 (e1.2.getD 0)).2.1,(atE x1.2.1.2.1 (e1.2.getD 0)).2.2.1,atE x1.2.1.2.2.1 ((atE x1.2.1.2.1 (e1.2.getD 0)).2.2.2.1),(atE x1.2.1.2.1 (e1.2.getD 0)).2.2.2.2.1,(atE x1.2.1.2.1 (e1.2.getD 0)).2.2.2.2.2.1,atE x1.2.1.2.2.2 ((atE x1.2.1.2.1 (e1.2.getD 0)).2.2.2.2.2.2))).bind fun t12=>(fe2_.j2 k x1 y14 y15 rec1 e1 (((atE x1.2.1.2.1 (e1.2.getD 0)).2.1).1) (((atE x1.2.1.2.1 (e1.2.getD 0)).2.1).2.1) (((atE x1.2.1.2.1 (e1.2.getD 0)).2.1).2.2.1) t11 t12))) else (fe2_.j2 k x1 y14 y15 rec1 e1 e1.1 0 [0,0,0,0] ([]:List Int) ([]:List ((List Int)×(List Int))))) else none
def fe2_.l1 (k:Nat)(x1:W2):Nat→(List L71)→W31→Option (List L71)
  | 0,_,_=>none
  | q+1,y14,y15=>fe2_.b1 k x1 (fe2_.l1 k x1 q) y14 y15
def fe2_.f (k:Nat)(x1:W2):Option (List L71):=fe2_.l1 k x1 k ([]:List L71) x1.2.1.1
theorem fe2_.ok (k:Nat):fe2_.Ctr (fe2_.f k):=by
 intro x1 ch_0 r h0 mi w0 ok hm
 delta fe2_.f at h0
 refine c_enterZ (n:=55) ok hm func26 rfl rfl rfl fun b0 hb a S=>c_region (s_as1 S rfl fun a S=>c_end (c_region (s_as1 S rfl fun a S=>c_end (wp_seq (c_region (s_mv1 S rfl fun a S=>s_eqp S (b:=false) rfl rfl underlying26 rfl rfl fun a S=>c_end (c_condF S rfl rfl (wp_skip (x_thenN (wp_seq_k fun K1 hK1=>?_))))))))))
 have j1:∀ m A1 nn1 cp1 y1 a w,St 55 m b0 [(3,(.s A1 nn1 cp1))] ([Res.row Y71 71 A1 nn1 cp1 y1]++MS1 x1 ch_0) a w→fe2_.j1 k y1=some r→K1 a w:=by
  intro m A1 nn1 cp1 y1 a w S h0
  delta fe2_.j1 at h0
  refine hK1 a w (c_region (s_mv1 S rfl fun a S=>bindX h0 fun t1 et1 h1=>s_callK S (fi4_.ok G2 H2 k et1) N61 rfl .pre (fun _=> .c1) rfl fun ch1 m le1 a w S=>c_end (c_region (s_mv1 S rfl fun a S=>s_as1 S rfl fun a S=>c_end (wp_ret ?_)))))
  obtain rfl:=sI h1
  exact b_ret1 (d:=(.s A1 nn1 cp1)) S rfl rfl fun ok=>S.retX (Hx:=[]) hb _ _ ((A1,nn1,cp1):(Option Addr)×Nat×Nat) (.c0 (.c0 (.c0 (.c0 (.c0 (.c0 (.c0 (.c0 (.c0 .n))))))))) ok
 refine c_region (s_mv1 S rfl fun a S=>s_nilchk S rfl rfl fun a S=>s_fieldAddr S rfl I79_1 T76 (by decide) rfl rfl fun a S=>s_load1 S rfl .h T76 (v:=(.map (some ch_0.e4))) rfl rfl fun a S=>s_rangeO S rfl (fun _ _=> .h1) underlying76 rfl fun g1 es1 ck1 a w S=>c_end (wp_block ?_))
 replace S:=S.nilrow Y71 71
 refine c_loop (fun q1 a w=>∃ m A2 nn3 cp9 y14 g14 y15 cu1,St 55 m b0 [(3,(.s A2 nn3 cp9)),(14,(.p g14))] [Res.row Y71 71 A2 nn3 cp9 y14,Res.iterx true (Ty.arr .u8 20) false (Ty.pid ch_0.e5) g14 ch_0.e4 es1 ck1 x1.2.1.1 y15 cu1,Res.cells ch_0.1 79 [.rf (.iface 75 (.agg (cellsOf [.q Y71 ch_0.2.1 ch_0.e3 x1.1]).toArray)) (IfR [.q Y71 ch_0.2.1 ch_0.e3 x1.1]), .one (.map (some ch_0.e4)), .i x1.e3, .s ch_0.e8 ch_0.e9 ch_0.e10, .s ch_0.e11 ch_0.e12 ch_0.e13, .s ch_0.e14 ch_0.e15 ch_0.t15],Res.mapx true (Ty.arr .u8 20) false (Ty.pid ch_0.e5) ch_0.e4 es1 ck1 x1.2.1.1,Res.fam (Res.struct (YE110 ch_0.e6 ch_0.e7) 110) (one_struct _ _) ch_0.e5 [] x1.2.1.2.1,Res.fam (fun g_ kvs_=>Res.map true (Ty.arr .u64 4) true (Ty.arr .u64 4) g_ kvs_) (one_map true (Ty.arr .u64 4) true (Ty.arr .u64 4)) ch_0.e6 [] x1.2.1.e3,Res.fam (fun g_ kvs_=>Res.map true (Ty.arr .u64 4) false Ty.bool g_ kvs_) (one_map true (Ty.arr .u64 4) false Ty.bool) ch_0.e7 [] x1.2.1.t3,Res.row Y100 100 ch_0.e8 ch_0.e9 ch_0.e10 x1.e4,Res.row (YC ch_0.1 ch_0.e5 ch_0.e6 ch_0.e7) 1 ch_0.e11 ch_0.e12 ch_0.e13 x1.e5,Res.row (Ty.arr .u8 20) 40 ch_0.e14 ch_0.e15 ch_0.t15 x1.t5] a w∧fe2_.l1 k x1 q1 y14 y15=some r) ?_ ?_ (k:=k) ⟨_,none,0,0,([]:List L71),g1,x1.2.1.1,none,(S.sb rfl (.c0 (.c0 (.c0 (.c0 (.c0 (.c0 (.c0 (.c0 (.c0 (.c0 .n))))))))))),h0⟩
 ·rintro a w ⟨m,A2,nn3,cp9,y14,g14,y15,cu1,S,h0⟩
  exact (nomatch (show (none:Option (List L71))=some r from h0))
 ·clear S h0
  rintro q1 a w ⟨m,A2,nn3,cp9,y14,g14,y15,cu1,S,h0⟩
  replace h0:fe2_.b1 k x1 (fe2_.l1 k x1 q1) y14 y15=some r:=h0
  delta fe2_.b1 at h0
  refine c_region ?_
  refine s_nextO S rfl (fun _ _=> .h1) .h3 rfl ?_ ?_
  ·clear S a; intro hR a S
   have h1:=(rng_of h0).1 hR; clear h0
   refine s_extract S rfl rfl rfl rfl fun a S=>c_end (wp_seq (c_condF S rfl rfl (wp_exit (x_thenX (x_thenX (x_blockX (x_thenN ?_)))))))
   exact j1 _ A2 nn3 cp9 y14 a w (S.sub ⟨rfl,tv⟩ (.c0 (.c1 (.c1 (.c1 (.c1 (.c1 (.c1 (.c1 (.c1 .n)))))))))) h1
  ·clear S a w; intro e1 hee1 ch24 ch25 a w S
   have h1:=(rng_of h0).2 e1 hee1; clear h0
   refine s_extract S rfl rfl rfl rfl fun a S=>c_end (wp_seq (c_condT S rfl rfl (wp_skip (x_thenN (wp_block (c_region (s_entryO S rfl .h1 .h3 rfl fun ch26 ch27 a S=>s_extract S rfl rfl rfl rfl fun a S=>s_extract S rfl rfl rfl rfl fun a S=>s_alloc S Z40 rfl ⟨rfl,tv⟩ rfl fun g15 a w S=>s_store S rfl rfl rfl (s':=[.b20 e1.1]) .h T40 rfl rfl fun w S=>s_as1 S rfl fun a S=>c_end (c_region (s_loada S rfl .h T40 (s':=[.b20 e1.1]) rfl rfl fun a S=>s_bldS S (ds:=[(0,(.agg [.b20 e1.1]))]) (zs:=[.b20 z20, .w 0, .w4 [0,0,0,0], .s none 0 0, .s none 0 0]) (s':=[.b20 e1.1, .w 0, .w4 [0,0,0,0], .s none 0 0, .s none 0 0]) rfl underlying71 P71 Z71 ⟨rfl,rfl,rfl,rfl,rfl,tv⟩ rfl rfl fun a S=>s_alloc S Z71 rfl ⟨rfl,rfl,rfl,rfl,rfl,tv⟩ rfl fun g16 a w S=>s_store S rfl rfl rfl (s':=[.b20 e1.1, .w 0, .w4 [0,0,0,0], .s none 0 0, .s none 0 0]) .h T71 rfl rfl fun w S=>c_end (wp_seq_k fun K2 hK2=>?_))))))))))
   have j2:∀ m g17 g18 y16 y17 y18 A3 nn4 cp10 y19 A4 nn5 cp11 y20 a w,St 55 m b0 [(6,(.p g17)),(5,(.rf (ptrV ch_0.e5 e1.2) (ptrR ch_0.e5 e1.2))),(3,(.s A2 nn3 cp9)),(14,(.p g18))] [Res.row Y83 83 A4 nn5 cp11 y20,Res.row yb 5 A3 nn4 cp10 y19,Res.cells g17 71 [.b20 y16, .w y17, .w4 y18, .s A3 nn4 cp10, .s A4 nn5 cp11],Res.row Y71 71 A2 nn3 cp9 y14,Res.iterx true (Ty.arr .u8 20) false (Ty.pid ch_0.e5) g18 ch_0.e4 es1 ck1 x1.2.1.1 (adel y15 e1.1) (some e1),Res.cells ch_0.1 79 [.rf (.iface 75 (.agg (cellsOf [.q Y71 ch_0.2.1 ch_0.e3 x1.1]).toArray)) (IfR [.q Y71 ch_0.2.1 ch_0.e3 x1.1]), .one (.map (some ch_0.e4)), .i x1.e3, .s ch_0.e8 ch_0.e9 ch_0.e10, .s ch_0.e11 ch_0.e12 ch_0.e13, .s ch_0.e14 ch_0.e15 ch_0.t15],Res.mapx true (Ty.arr .u8 20) false (Ty.pid ch_0.e5) ch_0.e4 es1 ck1 x1.2.1.1,Res.fam (Res.struct (YE110 ch_0.e6 ch_0.e7) 110) (one_struct _ _) ch_0.e5 [] x1.2.1.2.1,Res.fam (fun g_ kvs_=>Res.map true (Ty.arr .u64 4) true (Ty.arr .u64 4) g_ kvs_) (one_map true (Ty.arr .u64 4) true (Ty.arr .u64 4)) ch_0.e6 [] x1.2.1.e3,Res.fam (fun g_ kvs_=>Res.map true (Ty.arr .u64 4) false Ty.bool g_ kvs_) (one_map true (Ty.arr .u64 4) false Ty.bool) ch_0.e7 [] x1.2.1.t3,Res.row Y100 100 ch_0.e8 ch_0.e9 ch_0.e10 x1.e4,Res.row (YC ch_0.1 ch_0.e5 ch_0.e6 ch_0.e7) 1 ch_0.e11 ch_0.e12 ch_0.e13 x1.e5,Res.row (Ty.arr .u8 20) 40 ch_0.e14 ch_0.e15 ch_0.t15 x1.t5] a w→fe2_.j2 k x1 y14 y15 (fe2_.l1 k x1 q1) e1 y16 y17 y18 y19 y20=some r→K2 a w:=by
    intro m g17 g18 y16 y17 y18 A3 nn4 cp10 y19 A4 nn5 cp11 y20 a w S h0
    delta fe2_.j2 at h0
    refine hK2 a w ?_
    refine wp_seq (c_hS S (.take 0 (.take 1 (.alts (.run 2 true (.take 3 (.alts (.run 4 true (.alts (.run 5 false (.pure 6 .done) .nil)) .nil))) .nil)))) 5 (.c2 .n) ⟨Res.stay_cells,tv⟩ [(6,(.p g17)),(5,(.rf (ptrV ch_0.e5 e1.2) (ptrR ch_0.e5 e1.2)))] rfl (by kernel_rfl) ?_); clear S; intro w S CL hw le
    refine h_loada S CL hw le (subR rfl) rfl .h T71 (s':=[.b20 y16, .w y17, .w4 y18, .s A3 nn4 cp10, .s A4 nn5 cp11]) rfl rfl rfl tv fun a S CL=>h_mv1 S CL hw le rfl tv fun a S CL=>h_run' S rfl tv ?_
    obtain ⟨c1,h1⟩:=chk_of h0; clear h0
    have hl1:=S.slotPlt (u:=42) c1 rfl
    replace S:=S.slotP (u:=42) c1 rfl
    replace CL:=CL.drop (lq':=[(41,(.agg [.b20 y16, .w y17, .w4 y18, .s A3 nn4 cp10, .s A4 nn5 cp11])),(6,(.p g17)),(5,(.rf (ptrV ch_0.e5 e1.2) (ptrR ch_0.e5 e1.2)))]) (subR rfl)
    refine s_nilchk S rfl rfl fun a S=>CL.bk hw S (.c2 .n) le fun hw=>?_
    replace CL:=CL.add (t:=43) (d:=(.v (.pointer (some ⟨(bAt ch_0.e5 (e1.2.getD 0)),0,none⟩)))) S rfl rfl
    refine h_fieldAddr S CL hw le (subR rfl) rfl I110_0 T71 (by decide) rfl rfl rfl tv fun a S CL=>h_run' S rfl tv ?_
    replace S:=S.famOpen (i:=(e1.2.getD 0)) hl1 .h7
    have hS:=S.structOpen (T:=(YE110 ch_0.e6 ch_0.e7)) (fun _=> .h) (((),(),(),(none,0),(none,0)),((),(),(),(none,0),(none,0)),(),(),(),(),())
    clear S; obtain ⟨ch34,S⟩:=hS
    refine s_loada S rfl .h T71 (s':=(Y71.segs ((atE x1.2.1.2.1 (e1.2.getD 0)).1) ch34.1)) rfl rfl fun a S=>?_
    replace S:=S.structClose (T:=(YE110 ch_0.e6 ch_0.e7)) (e:=atE x1.2.1.2.1 (e1.2.getD 0)) (ch34:((YE110 ch_0.e6 ch_0.e7)).Ch) rfl .h
    replace S:=S.famShut hl1 .h .h7
    refine CL.bk hw S (.c2 .n) le fun hw=>h_run' S rfl tv ?_
    replace S:=S.rowfro .h1
    obtain ⟨m,le1,S,hro⟩:=S
    replace le:=le.trans le1
    replace S:=S.slotF 41 3 rfl rfl hro
    replace S:=S.cellF 3 .h1 rfl hro
    replace S:=S.rowfro .h
    obtain ⟨m,le1,S,hro⟩:=S
    replace le:=le.trans le1
    replace S:=S.slotF 41 4 rfl rfl hro
    replace S:=S.cellF 4 .h rfl hro
    replace CL:=CL.drop (lq':=[(44,(.v (.pointer (some ⟨(bAt ch_0.e5 (e1.2.getD 0)),0,none⟩)))),(43,(.v (.pointer (some ⟨(bAt ch_0.e5 (e1.2.getD 0)),0,none⟩)))),(6,(.p g17)),(5,(.rf (ptrV ch_0.e5 e1.2) (ptrR ch_0.e5 e1.2)))]) (subR rfl)
    refine bindX h1 fun t10 et10 h2=>s_callK S (fi7_.ok k et10) N60 rfl .pre (fun _=> .n) rfl fun ch35 m le1 a w S=>?_
    replace le:=le.trans le1
    refine h_back ⟨fun h=>(nomatch h),?_⟩
    refine p_not S rfl rfl rfl tv fun a S=>?_
    refine h_done ?_; clear CL hw le
    refine x_thenN ?_
    rcases ite_of h2 with ⟨c2,h3⟩ | ⟨c2,h3⟩
    ·refine c_condT S rfl c2 (c_region' (s_mv1 S rfl fun a S=>s_loada S rfl .h T71 (s':=(Y71.segs (y16,y17,y18,y19,y20) ((),(),(),(A3,cp10),(A4,cp11)))) rfl rfl fun a S=>s_bldSl S (ty':=Y71) (ds:=[(0,(.agg (Y71.segs (y16,y17,y18,y19,y20) ((),(),(),(A3,cp10),(A4,cp11)))))]) (z:=zt1) (c0:=((),(),(),(none,0),(none,0))) (ys:=[(y16,y17,y18,y19,y20)]) (cs:=[((),(),(),(A3,cp10),(A4,cp11))]) rfl underlying22 J71 Z71 rfl ⟨rfl,rfl,rfl,⟨Nat.le_refl _,Nat.zero_le _,RdS.nil _ _ _,RdS.mono _ _ _⟩,⟨Nat.le_refl _,Nat.zero_le _,RdS.nil _ _ _,RdS.mono _ _ _⟩,tv⟩ rfl rfl rfl rfl rfl rfl fun g19 a w S=>?_))
     obtain ⟨c3,h4⟩:=chk_of h3; clear h3
     refine s_app S (k2:=1) (ys:=[(y16,y17,y18,y19,y20)]) rfl (fun _ _=> .h2) rfl rfl (S.holds _ (Pull.mem .h).1).1 (Res.row.src (S.holds _ (Pull.mem .h).1)) underlying22 J71 c3 rfl fun A5 cp12 a w S=>s_as1 S rfl fun a S=>c_end' (x_blockN (x_thenN ?_))
     exact ⟨_,A5,(nn3+1),cp12,(y14++[(y16,y17,y18,y19,y20)]),g18,(adel y15 e1.1),(some e1),(S.sb rfl (.c2 (.c2 (.c2 (.c2 (.c2 (.c2 (.c2 (.c2 (.c2 (.c2 .n))))))))))),h4⟩
    ·refine c_condF S rfl c2 (wp_skip (x_blockN (x_thenN ?_)))
     exact ⟨_,A2,nn3,cp9,y14,g18,(adel y15 e1.1),(some e1),(S.sb rfl (.c1 (.c1 (.c1 (.c1 (.c1 (.c1 (.c1 (.c1 (.c1 (.c1 .n))))))))))),h3⟩
   refine c_region (s_mv1 S rfl fun a S=>?_)
   obtain ⟨c4,h2⟩:=chk_of h1; clear h1
   have hl1:=S.slotPlt (u:=22) c4 rfl
   replace S:=S.slotP (u:=22) c4 rfl
   refine s_nilchk S rfl rfl fun a S=>s_fieldAddr S rfl I110_4 T4 (by decide) rfl rfl fun a S=>?_
   replace S:=S.famOpen (i:=(e1.2.getD 0)) hl1 .h6
   have hS:=S.structOpen (T:=(YE110 ch_0.e6 ch_0.e7)) (fun _=> .h) (((),(),(),(none,0),(none,0)),((),(),(),(none,0),(none,0)),(),(),(),(),())
   clear S; obtain ⟨ch36,S⟩:=hS
   refine s_load1 S rfl .h T4 (v:=(.bool ((atE x1.2.1.2.1 (e1.2.getD 0)).e5))) rfl rfl fun a S=>?_
   replace S:=S.structClose (T:=(YE110 ch_0.e6 ch_0.e7)) (e:=atE x1.2.1.2.1 (e1.2.getD 0)) (ch36:((YE110 ch_0.e6 ch_0.e7)).Ch) rfl .h
   replace S:=S.famShut hl1 .h .h6
   refine s_not S rfl rfl fun a S=>c_end ?_
   rcases ite_of h2 with ⟨c5,h3⟩ | ⟨c5,h3⟩
   ·refine c_condT S rfl c5 (c_region (s_mv1 S rfl fun a S=>?_))
    have hl1:=S.slotPlt (u:=27) c4 rfl
    replace S:=S.slotP (u:=27) c4 rfl
    refine s_nilchk S rfl rfl fun a S=>s_fieldAddr S rfl I110_1 T71 (by decide) rfl rfl fun a S=>?_
    replace S:=S.famOpen (i:=(e1.2.getD 0)) hl1 .h6
    have hS:=S.structOpen (T:=(YE110 ch_0.e6 ch_0.e7)) (fun _=> .h) (((),(),(),(none,0),(none,0)),((),(),(),(none,0),(none,0)),(),(),(),(),())
    clear S; obtain ⟨ch37,S⟩:=hS
    refine s_loada S rfl .h T71 (s':=(Y71.segs ((atE x1.2.1.2.1 (e1.2.getD 0)).2.1) ch37.2.1)) rfl rfl fun a S=>?_
    replace S:=S.structClose (T:=(YE110 ch_0.e6 ch_0.e7)) (e:=atE x1.2.1.2.1 (e1.2.getD 0)) (ch37:((YE110 ch_0.e6 ch_0.e7)).Ch) rfl .h
    replace S:=S.famShut hl1 .h .h6
    refine s_store S rfl rfl rfl (s':=(Y71.segs ((atE x1.2.1.2.1 (e1.2.getD 0)).2.1) ch37.2.1)) .h T71 rfl rfl fun w S=>c_end (c_region' (s_mv1 S rfl fun a S=>?_))
    have hl1:=S.slotPlt (u:=31) c4 rfl
    replace S:=S.slotP (u:=31) c4 rfl
    refine s_nilchk S rfl rfl fun a S=>s_fieldAddr S rfl I110_1 T71 (by decide) rfl rfl fun a S=>s_fieldAddr S rfl I71_3 T44 (by decide) rfl rfl fun a S=>?_
    replace S:=S.famOpen (i:=(e1.2.getD 0)) hl1 .h6
    have hS:=S.structOpen (T:=(YE110 ch_0.e6 ch_0.e7)) (fun _=> .h) (((),(),(),(none,0),(none,0)),((),(),(),(none,0),(none,0)),(),(),(),(),())
    clear S; obtain ⟨ch38,S⟩:=hS
    refine s_loadSl S rfl .h T44 (A:=ch38.2.1.e4.1) (len:=(((atE x1.2.1.2.1 (e1.2.getD 0)).2.1).e4).length) (cap:=ch38.2.1.e4.2) rfl rfl fun a S=>?_
    replace S:=S.structClose (T:=(YE110 ch_0.e6 ch_0.e7)) (e:=atE x1.2.1.2.1 (e1.2.getD 0)) (ch38:((YE110 ch_0.e6 ch_0.e7)).Ch) rfl .h
    replace S:=S.famShut hl1 .h .h6
    refine bindX h3 fun t11 et11 h4=>s_callK S (fc_.ok et11) N33 rfl .pre (fun _=> .c1) rfl fun ch39 m le1 a w S=>s_mv1 S rfl fun a S=>?_
    have hl1:=S.slotPlt (u:=37) c4 rfl
    replace S:=S.slotP (u:=37) c4 rfl
    replace S:=S.famOpen (i:=(e1.2.getD 0)) hl1 .h7
    have hS:=S.structOpen (T:=(YE110 ch_0.e6 ch_0.e7)) (fun _=> .h) (((),(),(),(none,0),(none,0)),((),(),(),(none,0),(none,0)),(),(),(),(),())
    clear S; obtain ⟨ch40,S⟩:=hS
    have hm1:=S.cellMlt (s1:=[.b20 (((atE x1.2.1.2.1 (e1.2.getD 0)).1).1), .w (((atE x1.2.1.2.1 (e1.2.getD 0)).1).2.1), .w4 (((atE x1.2.1.2.1 (e1.2.getD 0)).1).e3), .q yb ch40.1.e4.1 ch40.1.e4.2 (((atE x1.2.1.2.1 (e1.2.getD 0)).1).e4), .q Y83 ch40.1.e5 ch40.1.t5 (((atE x1.2.1.2.1 (e1.2.getD 0)).1).t4), .b20 (((atE x1.2.1.2.1 (e1.2.getD 0)).2.1).1), .w (((atE x1.2.1.2.1 (e1.2.getD 0)).2.1).2.1), .w4 (((atE x1.2.1.2.1 (e1.2.getD 0)).2.1).e3), .q yb ch40.2.1.e4.1 ch40.2.1.e4.2 (((atE x1.2.1.2.1 (e1.2.getD 0)).2.1).e4), .q Y83 ch40.2.1.e5 ch40.2.1.t5 (((atE x1.2.1.2.1 (e1.2.getD 0)).2.1).t4), .b ((atE x1.2.1.2.1 (e1.2.getD 0)).e3)]) (s2:=[.b ((atE x1.2.1.2.1 (e1.2.getD 0)).e5), .b ((atE x1.2.1.2.1 (e1.2.getD 0)).e6), .rf (.map (some (bAt ch_0.e7 ((atE x1.2.1.2.1 (e1.2.getD 0)).t6)))) (ltR ((atE x1.2.1.2.1 (e1.2.getD 0)).t6) ch_0.e7)]) .h
    replace S:=S.cellMidO (s1:=[.b20 (((atE x1.2.1.2.1 (e1.2.getD 0)).1).1), .w (((atE x1.2.1.2.1 (e1.2.getD 0)).1).2.1), .w4 (((atE x1.2.1.2.1 (e1.2.getD 0)).1).e3), .q yb ch40.1.e4.1 ch40.1.e4.2 (((atE x1.2.1.2.1 (e1.2.getD 0)).1).e4), .q Y83 ch40.1.e5 ch40.1.t5 (((atE x1.2.1.2.1 (e1.2.getD 0)).1).t4), .b20 (((atE x1.2.1.2.1 (e1.2.getD 0)).2.1).1), .w (((atE x1.2.1.2.1 (e1.2.getD 0)).2.1).2.1), .w4 (((atE x1.2.1.2.1 (e1.2.getD 0)).2.1).e3), .q yb ch40.2.1.e4.1 ch40.2.1.e4.2 (((atE x1.2.1.2.1 (e1.2.getD 0)).2.1).e4), .q Y83 ch40.2.1.e5 ch40.2.1.t5 (((atE x1.2.1.2.1 (e1.2.getD 0)).2.1).t4), .b ((atE x1.2.1.2.1 (e1.2.getD 0)).e3)]) (s2:=[.b ((atE x1.2.1.2.1 (e1.2.getD 0)).e5), .b ((atE x1.2.1.2.1 (e1.2.getD 0)).e6), .rf (.map (some (bAt ch_0.e7 ((atE x1.2.1.2.1 (e1.2.getD 0)).t6)))) (ltR ((atE x1.2.1.2.1 (e1.2.getD 0)).t6) ch_0.e7)]) .h
    replace S:=S.famOpen (i:=((atE x1.2.1.2.1 (e1.2.getD 0)).e4)) hm1 .h9
    have hm2:=S.cellMlt (s1:=[.b20 (((atE x1.2.1.2.1 (e1.2.getD 0)).1).1), .w (((atE x1.2.1.2.1 (e1.2.getD 0)).1).2.1), .w4 (((atE x1.2.1.2.1 (e1.2.getD 0)).1).e3), .q yb ch40.1.e4.1 ch40.1.e4.2 (((atE x1.2.1.2.1 (e1.2.getD 0)).1).e4), .q Y83 ch40.1.e5 ch40.1.t5 (((atE x1.2.1.2.1 (e1.2.getD 0)).1).t4), .b20 (((atE x1.2.1.2.1 (e1.2.getD 0)).2.1).1), .w (((atE x1.2.1.2.1 (e1.2.getD 0)).2.1).2.1), .w4 (((atE x1.2.1.2.1 (e1.2.getD 0)).2.1).e3), .q yb ch40.2.1.e4.1 ch40.2.1.e4.2 (((atE x1.2.1.2.1 (e1.2.getD 0)).2.1).e4), .q Y83 ch40.2.1.e5 ch40.2.1.t5 (((atE x1.2.1.2.1 (e1.2.getD 0)).2.1).t4), .b ((atE x1.2.1.2.1 (e1.2.getD 0)).e3), .one (.map (some (bAt ch_0.e6 ((atE x1.2.1.2.1 (e1.2.getD 0)).e4)))), .b ((atE x1.2.1.2.1 (e1.2.getD 0)).e5), .b ((atE x1.2.1.2.1 (e1.2.getD 0)).e6)]) (s2:=[]) .h1
    replace S:=S.cellMidO (s1:=[.b20 (((atE x1.2.1.2.1 (e1.2.getD 0)).1).1), .w (((atE x1.2.1.2.1 (e1.2.getD 0)).1).2.1), .w4 (((atE x1.2.1.2.1 (e1.2.getD 0)).1).e3), .q yb ch40.1.e4.1 ch40.1.e4.2 (((atE x1.2.1.2.1 (e1.2.getD 0)).1).e4), .q Y83 ch40.1.e5 ch40.1.t5 (((atE x1.2.1.2.1 (e1.2.getD 0)).1).t4), .b20 (((atE x1.2.1.2.1 (e1.2.getD 0)).2.1).1), .w (((atE x1.2.1.2.1 (e1.2.getD 0)).2.1).2.1), .w4 (((atE x1.2.1.2.1 (e1.2.getD 0)).2.1).e3), .q yb ch40.2.1.e4.1 ch40.2.1.e4.2 (((atE x1.2.1.2.1 (e1.2.getD 0)).2.1).e4), .q Y83 ch40.2.1.e5 ch40.2.1.t5 (((atE x1.2.1.2.1 (e1.2.getD 0)).2.1).t4), .b ((atE x1.2.1.2.1 (e1.2.getD 0)).e3), .one (.map (some (bAt ch_0.e6 ((atE x1.2.1.2.1 (e1.2.getD 0)).e4)))), .b ((atE x1.2.1.2.1 (e1.2.getD 0)).e5), .b ((atE x1.2.1.2.1 (e1.2.getD 0)).e6)]) (s2:=[]) .h1
    replace S:=S.famOpen (i:=((atE x1.2.1.2.1 (e1.2.getD 0)).t6)) hm2 .h11
    refine bindX h4 fun t12 et12 h5=>s_callK S (fe4_.ok k et12) N59 rfl (.c2 (.c1 (.c0 .n))) (fun _=> .c4) rfl fun ch41 m le1 a w S=>?_
    replace S:=S.famShut hm2 .h3 .h12
    replace S:=S.cellMid (s1:=[.b20 (((atE x1.2.1.2.1 (e1.2.getD 0)).1).1), .w (((atE x1.2.1.2.1 (e1.2.getD 0)).1).2.1), .w4 (((atE x1.2.1.2.1 (e1.2.getD 0)).1).e3), .q yb ch40.1.e4.1 ch40.1.e4.2 (((atE x1.2.1.2.1 (e1.2.getD 0)).1).e4), .q Y83 ch40.1.e5 ch40.1.t5 (((atE x1.2.1.2.1 (e1.2.getD 0)).1).t4), .b20 (((atE x1.2.1.2.1 (e1.2.getD 0)).2.1).1), .w (((atE x1.2.1.2.1 (e1.2.getD 0)).2.1).2.1), .w4 (((atE x1.2.1.2.1 (e1.2.getD 0)).2.1).e3), .q yb ch40.2.1.e4.1 ch40.2.1.e4.2 (((atE x1.2.1.2.1 (e1.2.getD 0)).2.1).e4), .q Y83 ch40.2.1.e5 ch40.2.1.t5 (((atE x1.2.1.2.1 (e1.2.getD 0)).2.1).t4), .b ((atE x1.2.1.2.1 (e1.2.getD 0)).e3), .one (.map (some (bAt ch_0.e6 ((atE x1.2.1.2.1 (e1.2.getD 0)).e4)))), .b ((atE x1.2.1.2.1 (e1.2.getD 0)).e5), .b ((atE x1.2.1.2.1 (e1.2.getD 0)).e6)]) (s2:=[]) rfl hm2 .h1
    replace S:=S.famShut hm1 .h2 .h10
    replace S:=S.cellMid (s1:=[.b20 (((atE x1.2.1.2.1 (e1.2.getD 0)).1).1), .w (((atE x1.2.1.2.1 (e1.2.getD 0)).1).2.1), .w4 (((atE x1.2.1.2.1 (e1.2.getD 0)).1).e3), .q yb ch40.1.e4.1 ch40.1.e4.2 (((atE x1.2.1.2.1 (e1.2.getD 0)).1).e4), .q Y83 ch40.1.e5 ch40.1.t5 (((atE x1.2.1.2.1 (e1.2.getD 0)).1).t4), .b20 (((atE x1.2.1.2.1 (e1.2.getD 0)).2.1).1), .w (((atE x1.2.1.2.1 (e1.2.getD 0)).2.1).2.1), .w4 (((atE x1.2.1.2.1 (e1.2.getD 0)).2.1).e3), .q yb ch40.2.1.e4.1 ch40.2.1.e4.2 (((atE x1.2.1.2.1 (e1.2.getD 0)).2.1).e4), .q Y83 ch40.2.1.e5 ch40.2.1.t5 (((atE x1.2.1.2.1 (e1.2.getD 0)).2.1).t4), .b ((atE x1.2.1.2.1 (e1.2.getD 0)).e3)]) (s2:=[.b ((atE x1.2.1.2.1 (e1.2.getD 0)).e5), .b ((atE x1.2.1.2.1 (e1.2.getD 0)).e6), .rf (.map (some (bAt ch_0.e7 ((atE x1.2.1.2.1 (e1.2.getD 0)).t6)))) (ltR ((atE x1.2.1.2.1 (e1.2.getD 0)).t6) ch_0.e7)]) rfl hm1 .h1
    replace S:=S.structClose (T:=(YE110 ch_0.e6 ch_0.e7)) (e:=atE x1.2.1.2.1 (e1.2.getD 0)) (ch40:((YE110 ch_0.e6 ch_0.e7)).Ch) rfl .h1
    replace S:=S.famShut hl1 .h1 .h8
    refine s_fieldAddr S rfl I71_3 T44 (by decide) rfl rfl fun a S=>s_storeJ S 3 rfl rfl rfl rfl .h2 T44 rfl rfl fun w S=>s_fieldAddr S rfl I71_4 T69 (by decide) rfl rfl fun a S=>s_storeJ S 4 rfl rfl rfl rfl .h2 T69 rfl rfl fun w S=>c_end' (x_thenN ?_)
    exact j2 _ g16 g14 (((atE x1.2.1.2.1 (e1.2.getD 0)).2.1).1) (((atE x1.2.1.2.1 (e1.2.getD 0)).2.1).2.1) (((atE x1.2.1.2.1 (e1.2.getD 0)).2.1).e3) ch39.1 ch39.2.1 ch39.t2 t11 ch41.1 ch41.2.1 ch41.t2 t12 a w (S.sb rfl (.c0 (.c0 (.c0 (.c1 (.c1 (.c1 (.c1 (.c1 (.c1 (.c1 (.c1 (.c1 (.c1 .n)))))))))))))) h5
   ·refine c_condF S rfl c5 (wp_skip (x_thenN ?_))
    replace S:=S.nilrow yb 5
    replace S:=S.nilrow Y83 83
    exact j2 _ g16 g14 e1.1 0 [0,0,0,0] none 0 0 ([]:List Int) none 0 0 ([]:List ((List Int)×(List Int))) a w (S.sb rfl (.c0 (.c0 (.c0 (.c1 (.c1 (.c1 (.c1 (.c1 (.c1 (.c1 (.c1 (.c1 (.c1 .n)))))))))))))) h3
abbrev fg2_.Ty:Type:=W1→W1→Option Bool
def fg2_.Ctr (s:fg2_.Ty):Prop:=∀ {x1:W1} {x2:W1} {ch_0_0:Option Addr} {ch_0_1:Nat} {ch_0_2:Option Addr} {ch_0_3:Nat} {ch_1_0:Option Addr} {ch_1_1:Nat} {ch_1_2:Option Addr} {ch_1_3:Nat} {r:Bool} (h0:s x1 x2=some r) {mi:Mem} {w0:World},CtrB Tryz.prog 86 [(.agg (Y71.segs x1 ((),(),(),(ch_0_0,ch_0_1),(ch_0_2,ch_0_3)))),(.agg (Y71.segs x2 ((),(),(),(ch_1_0,ch_1_1),(ch_1_2,ch_1_3))))] [] (fun (ch:Unit)=>((.b r):D)) (fun (ch:Unit)=>[]) mi w0
def fg2_.j2:Option Bool:=some true
def fg2_.b1 (x1:W1)(x2:W1)(rec1:Int→Option Bool)(y5:Int):Option Bool:=if (decide (y5<((x1.2.2.2.2).length:Int)))=true then (if (0:Int)≤y5∧y5<((x1.2.2.2.2).length:Int) then (if (0:Int)≤y5∧y5<((x2.2.2.2.2).length:Int) then (if (!(decide (gt x1.2.2.2.2 y5=gt x2.2.2.2.2 y5)))=true then (some false) else (rec1 (wr .i64 (y5+1)))) else none) else none) else fg2_.j2
def fg2_.l1 (x1:W1)(x2:W1):Nat→Int→Option Bool
  | 0,_=>none
  | q+1,y5=>fg2_.b1 x1 x2 (fg2_.l1 x1 x2 q) y5
def fg2_.j1 (k:Nat)(x1:W1)(x2:W1)(y1:Bool):Option Bool:=if y1=true then (some false) else (fg2_.l1 x1 x2 k 0)
def fg2_.f (k:Nat)(x1:W1)(x2:W1):Option Bool:=if (!(decide (x1.1=x2.1)))=true then (fg2_.j1 k x1 x2 true) else (if (x1.2.1 != x2.2.1)=true then (fg2_.j1 k x1 x2 true) else (if (!(decide (x1.2.2.1=x2.2.2.1)))=true then (fg2_.j1 k x1 x2 true) else (if (!((bstr x1.2.2.2.1).toList==(bstr x2.2.2.2.1).toList))=true then (fg2_.j1 k x1 x2 true) else (fg2_.j1 k x1 x2 (((x1.2.2.2.2).length:Int) != ((x2.2.2.2.2).length:Int))))))
theorem fg2_.ok (k:Nat):fg2_.Ctr (fg2_.f k):=by
 intro x1 x2 ch_0_0 ch_0_1 ch_0_2 ch_0_3 ch_1_0 ch_1_1 ch_1_2 ch_1_3 r h0 mi w0 ok hm
 delta fg2_.f at h0
 refine c_enterZ (n:=61) ok hm func86 rfl rfl rfl fun b0 hb a S=>c_region (s_box S rfl rfl rfl fun g1 a w S=>s_box S rfl rfl rfl fun g2 a w S=>s_as1 S rfl fun a S=>c_end (wp_seq (wp_seq_k fun K1 hK1=>?_)))
 have j1:∀ m y1 g3 g4 a w,St 61 m b0 [(42,(.b y1)),(3,(.p g3)),(2,(.p g4))] [Res.cells g3 71 (Y71.segs x2 ((),(),(),(ch_1_0,ch_1_1),(ch_1_2,ch_1_3))),Res.cells g4 71 (Y71.segs x1 ((),(),(),(ch_0_0,ch_0_1),(ch_0_2,ch_0_3)))] a w→fg2_.j1 k x1 x2 y1=some r→K1 a w:=by
  intro m y1 g3 g4 a w S h0
  delta fg2_.j1 at h0
  refine hK1 a w ?_
  rcases ite_of h0 with ⟨c1,h1⟩ | ⟨c1,h1⟩
  ·refine c_condT S rfl c1 (c_region (s_as1 S rfl fun a S=>c_end (wp_ret (x_thenR ?_))))
   obtain rfl:=sI h1
   exact b_ret1 (d:=(.b false)) S rfl rfl (S.rt hb)
  ·refine c_condF S rfl c1 (wp_skip (x_thenN (wp_seq_k fun K2 hK2=>?_)))
   have j2:∀ m a w,St 61 m b0 [] [] a w→fg2_.j2=some r→K2 a w:=by
    intro m a w S h0
    delta fg2_.j2 at h0
    refine hK2 a w (c_region (s_as1 S rfl fun a S=>c_end (wp_ret ?_)))
    obtain rfl:=sI h0
    exact b_ret1 (d:=(.b true)) S rfl rfl (S.rt hb)
   refine c_region (s_fieldAddr S rfl I71_4 T69 (by decide) rfl rfl fun a S=>s_loadSl S rfl .h1 T69 (A:=ch_0_2) (len:=(x1.t4).length) (cap:=ch_0_3) rfl rfl fun a S=>s_lenS S rfl underlying69 rfl fun a S=>s_mv1 S rfl fun a S=>c_end (wp_block ?_))
   refine c_loop (fun q1 a w=>∃ m y5 g15 g16,St 61 m b0 [(46,(.i y5)),(45,(.i ((x1.t4).length:Int))),(3,(.p g15)),(2,(.p g16))] [Res.cells g15 71 (Y71.segs x2 ((),(),(),(ch_1_0,ch_1_1),(ch_1_2,ch_1_3))),Res.cells g16 71 (Y71.segs x1 ((),(),(),(ch_0_0,ch_0_1),(ch_0_2,ch_0_3)))] a w∧fg2_.l1 x1 x2 q1 y5=some r) ?_ ?_ (k:=k) ⟨_,0,g3,g4,(S.sb rfl (.c0 (.c0 .n))),h1⟩
   ·rintro a w ⟨m,y5,g15,g16,S,h0⟩
    exact (nomatch (show (none:Option Bool)=some r from h0))
   ·clear S h1
    rintro q1 a w ⟨m,y5,g15,g16,S,h0⟩
    replace h0:fg2_.b1 x1 x2 (fg2_.l1 x1 x2 q1) y5=some r:=h0
    delta fg2_.b1 at h0
    refine c_region (s_bi S rfl fun a S=>c_end (wp_seq ?_))
    rcases ite_of h0 with ⟨c2,h1⟩ | ⟨c2,h1⟩
    ·refine c_condT S rfl c2 (wp_skip (x_thenN (wp_seq (wp_block (c_region (s_mv1 S rfl fun a S=>s_as1 S rfl fun a S=>c_end ?_))))))
     refine wp_seq (c_hS S (.tk 0 11 .done) 11 (.c0 (.c0 .n)) ⟨Res.stay_cells,Res.stay_cells,tv⟩ [(5,(.i y5)),(3,(.p g15)),(2,(.p g16))] rfl (by kernel_rfl) ?_); clear S; intro w S CL hw le
     refine h_fieldAddr S CL hw le (subR rfl) rfl I71_4 T69 (by decide) rfl rfl rfl tv fun a S CL=>h_loadSl S CL hw le (subR rfl) rfl .h1 T69 (A:=ch_0_2) (len:=(x1.t4).length) (cap:=ch_0_3) rfl rfl rfl tv fun a S CL=>h_mv1 S CL hw le rfl tv fun a S CL=>?_
     obtain ⟨c3,h2⟩:=chk_of h1; clear h1
     refine h_iaddrS S CL hw le (subR rfl) rfl rfl rfl underlying69 T83 c3.1 c3.2 rfl rfl tv fun p1 a S CL=>h_ldA S CL hw le (subR rfl) (fun (c:Unit×Unit)=>[.w4 ((gt x1.t4 y5).1), .w4 ((gt x1.t4 y5).2)]) rfl T83 (fun _=>rfl) rfl rfl tv fun ch1 a S CL=>?_
     refine h_fieldAddr S CL hw le (subR rfl) rfl I71_4 T69 (by decide) rfl rfl rfl tv fun a S CL=>h_loadSl S CL hw le (subR rfl) rfl .h T69 (A:=ch_1_2) (len:=(x2.t4).length) (cap:=ch_1_3) rfl rfl rfl tv fun a S CL=>h_mv1 S CL hw le rfl tv fun a S CL=>?_
     obtain ⟨c4,h3⟩:=chk_of h2; clear h2
     refine h_iaddrS S CL hw le (subR rfl) rfl rfl rfl underlying69 T83 c4.1 c4.2 rfl rfl tv fun p2 a S CL=>h_ldA S CL hw le (subR rfl) (fun (c:Unit×Unit)=>[.w4 ((gt x2.t4 y5).1), .w4 ((gt x2.t4 y5).2)]) rfl T83 (fun _=>rfl) rfl rfl tv fun ch2 a S CL=>?_
     refine h_neS S CL hw le (subR rfl) (ty':=Y83) (p:=gt x1.t4 y5) (q:=gt x2.t4 y5) ((),()) ((),()) rfl rfl E83 rfl Q83 rfl rfl tv fun a S CL=>?_
     refine h_done ?_; clear CL hw le
     refine x_thenN ?_
     rcases ite_of h3 with ⟨c5,h4⟩ | ⟨c5,h4⟩
     ·refine c_condT S rfl c5 (c_region (s_as1 S rfl fun a S=>c_end (wp_ret (x_blockR (x_thenR (x_thenR (x_blockR (x_thenR ?_))))))))
      obtain rfl:=sI h4
      exact b_ret1 (d:=(.b false)) S rfl rfl (S.rt hb)
     ·refine c_condF S rfl c5 (wp_skip (x_blockN (x_thenN (c_region' (s_bi S rfl fun a S=>s_mv1 S rfl fun a S=>c_end' (x_thenN ?_))))))
      exact ⟨_,(wr .i64 (y5+1)),g15,g16,(S.sb rfl (.c0 (.c0 .n))),h4⟩
    ·refine c_condF S rfl c2 (wp_exit (x_thenX (x_thenX (x_blockX (x_thenN ?_)))))
     exact j2 _ a w (S.sub tv .nil) h1
 refine c_region' (s_fieldAddr S rfl I71_0 T40 (by decide) rfl rfl fun a S=>s_loada S rfl .h1 T40 (s':=[.b20 x1.1]) rfl rfl fun a S=>s_fieldAddr S rfl I71_0 T40 (by decide) rfl rfl fun a S=>s_loada S rfl .h T40 (s':=[.b20 x2.1]) rfl rfl fun a S=>s_nea S rfl rfl underlying40 underlying5 T5 Q40 rfl fun a S=>s_mv1 S rfl fun a S=>?_)
 rcases ite_of h0 with ⟨c6,h1⟩ | ⟨c6,h1⟩
 ·refine s_gF S (b:=(!(decide (x1.1=x2.1)))) rfl rfl c6 rfl fun a S=>s_gF S (b:=(!(decide (x1.1=x2.1)))) rfl rfl c6 rfl fun a S=>s_gF S (b:=(!(decide (x1.1=x2.1)))) rfl rfl c6 rfl fun a S=>s_gF S (b:=(!(decide (x1.1=x2.1)))) rfl rfl c6 rfl fun a S=>s_gF S (b:=(!(decide (x1.1=x2.1)))) rfl rfl c6 rfl fun a S=>s_pick S (b:=true) (hc_of rfl c6) rfl rfl fun a S=>s_mv1 S rfl fun a S=>s_gF S (b:=true) rfl rfl rfl rfl fun a S=>s_gF S (b:=true) rfl rfl rfl rfl fun a S=>s_gF S (b:=true) rfl rfl rfl rfl fun a S=>s_gF S (b:=true) rfl rfl rfl rfl fun a S=>s_gF S (b:=true) rfl rfl rfl rfl fun a S=>s_pick S (b:=true) (hc_of rfl rfl) rfl rfl fun a S=>s_mv1 S rfl fun a S=>s_gF S (b:=true) rfl rfl rfl rfl fun a S=>s_gF S (b:=true) rfl rfl rfl rfl fun a S=>s_gF S (b:=true) rfl rfl rfl rfl fun a S=>s_gF S (b:=true) rfl rfl rfl rfl fun a S=>s_gF S (b:=true) rfl rfl rfl rfl fun a S=>s_gF S (b:=true) rfl rfl rfl rfl fun a S=>s_gF S (b:=true) rfl rfl rfl rfl fun a S=>s_pick S (b:=true) (hc_of rfl rfl) rfl rfl fun a S=>s_mv1 S rfl fun a S=>s_gF S (b:=true) rfl rfl rfl rfl fun a S=>s_gF S (b:=true) rfl rfl rfl rfl fun a S=>s_gF S (b:=true) rfl rfl rfl rfl fun a S=>s_gF S (b:=true) rfl rfl rfl rfl fun a S=>s_gF S (b:=true) rfl rfl rfl rfl fun a S=>s_gF S (b:=true) rfl rfl rfl rfl fun a S=>s_gF S (b:=true) rfl rfl rfl rfl fun a S=>s_pick S (b:=true) (hc_of rfl rfl) rfl rfl fun a S=>c_end' (x_thenN ?_)
  exact j1 _ true g2 g1 a w (S.sb rfl (.c0 (.c0 .n))) h1
 ·refine s_gT S (b:=(!(decide (x1.1=x2.1)))) rfl rfl c6 (s_fieldAddr S rfl I71_1 T41 (by decide) rfl rfl fun a S=>s_gT S (b:=(!(decide (x1.1=x2.1)))) rfl rfl c6 (s_load1 S rfl .h1 T41 (v:=(.int .u64 x1.2.1)) rfl rfl fun a S=>s_gT S (b:=(!(decide (x1.1=x2.1)))) rfl rfl c6 (s_fieldAddr S rfl I71_1 T41 (by decide) rfl rfl fun a S=>s_gT S (b:=(!(decide (x1.1=x2.1)))) rfl rfl c6 (s_load1 S rfl .h T41 (v:=(.int .u64 x2.2.1)) rfl rfl fun a S=>s_gT S (b:=(!(decide (x1.1=x2.1)))) rfl rfl c6 (s_bi S rfl fun a S=>s_pick S (b:=false) (hc_of rfl c6) rfl rfl fun a S=>s_mv1 S rfl fun a S=>?_)))))
  rcases ite_of h1 with ⟨c7,h2⟩ | ⟨c7,h2⟩
  ·refine s_gF S (b:=(x1.2.1 != x2.2.1)) rfl rfl c7 rfl fun a S=>s_gF S (b:=(x1.2.1 != x2.2.1)) rfl rfl c7 rfl fun a S=>s_gF S (b:=(x1.2.1 != x2.2.1)) rfl rfl c7 rfl fun a S=>s_gF S (b:=(x1.2.1 != x2.2.1)) rfl rfl c7 rfl fun a S=>s_gF S (b:=(x1.2.1 != x2.2.1)) rfl rfl c7 rfl fun a S=>s_pick S (b:=true) (hc_of rfl c7) rfl rfl fun a S=>s_mv1 S rfl fun a S=>s_gF S (b:=true) rfl rfl rfl rfl fun a S=>s_gF S (b:=true) rfl rfl rfl rfl fun a S=>s_gF S (b:=true) rfl rfl rfl rfl fun a S=>s_gF S (b:=true) rfl rfl rfl rfl fun a S=>s_gF S (b:=true) rfl rfl rfl rfl fun a S=>s_gF S (b:=true) rfl rfl rfl rfl fun a S=>s_gF S (b:=true) rfl rfl rfl rfl fun a S=>s_pick S (b:=true) (hc_of rfl rfl) rfl rfl fun a S=>s_mv1 S rfl fun a S=>s_gF S (b:=true) rfl rfl rfl rfl fun a S=>s_gF S (b:=true) rfl rfl rfl rfl fun a S=>s_gF S (b:=true) rfl rfl rfl rfl fun a S=>s_gF S (b:=true) rfl rfl rfl rfl fun a S=>s_gF S (b:=true) rfl rfl rfl rfl fun a S=>s_gF S (b:=true) rfl rfl rfl rfl fun a S=>s_gF S (b:=true) rfl rfl rfl rfl fun a S=>s_pick S (b:=true) (hc_of rfl rfl) rfl rfl fun a S=>c_end' (x_thenN ?_)
   exact j1 _ true g2 g1 a w (S.sb rfl (.c0 (.c0 .n))) h2
  ·refine s_gT S (b:=(x1.2.1 != x2.2.1)) rfl rfl c7 (s_fieldAddr S rfl I71_2 T43 (by decide) rfl rfl fun a S=>s_gT S (b:=(x1.2.1 != x2.2.1)) rfl rfl c7 (s_loada S rfl .h1 T43 (s':=[.w4 x1.e3]) rfl rfl fun a S=>s_gT S (b:=(x1.2.1 != x2.2.1)) rfl rfl c7 (s_fieldAddr S rfl I71_2 T43 (by decide) rfl rfl fun a S=>s_gT S (b:=(x1.2.1 != x2.2.1)) rfl rfl c7 (s_loada S rfl .h T43 (s':=[.w4 x2.e3]) rfl rfl fun a S=>s_gT S (b:=(x1.2.1 != x2.2.1)) rfl rfl c7 (s_nea S rfl rfl underlying43 underlying41 T41 Q43 rfl fun a S=>s_pick S (b:=false) (hc_of rfl c7) rfl rfl fun a S=>s_mv1 S rfl fun a S=>?_)))))
   rcases ite_of h2 with ⟨c8,h3⟩ | ⟨c8,h3⟩
   ·refine s_gF S (b:=(!(decide (x1.e3=x2.e3)))) rfl rfl c8 rfl fun a S=>s_gF S (b:=(!(decide (x1.e3=x2.e3)))) rfl rfl c8 rfl fun a S=>s_gF S (b:=(!(decide (x1.e3=x2.e3)))) rfl rfl c8 rfl fun a S=>s_gF S (b:=(!(decide (x1.e3=x2.e3)))) rfl rfl c8 rfl fun a S=>s_gF S (b:=(!(decide (x1.e3=x2.e3)))) rfl rfl c8 rfl fun a S=>s_gF S (b:=(!(decide (x1.e3=x2.e3)))) rfl rfl c8 rfl fun a S=>s_gF S (b:=(!(decide (x1.e3=x2.e3)))) rfl rfl c8 rfl fun a S=>s_pick S (b:=true) (hc_of rfl c8) rfl rfl fun a S=>s_mv1 S rfl fun a S=>s_gF S (b:=true) rfl rfl rfl rfl fun a S=>s_gF S (b:=true) rfl rfl rfl rfl fun a S=>s_gF S (b:=true) rfl rfl rfl rfl fun a S=>s_gF S (b:=true) rfl rfl rfl rfl fun a S=>s_gF S (b:=true) rfl rfl rfl rfl fun a S=>s_gF S (b:=true) rfl rfl rfl rfl fun a S=>s_gF S (b:=true) rfl rfl rfl rfl fun a S=>s_pick S (b:=true) (hc_of rfl rfl) rfl rfl fun a S=>c_end' (x_thenN ?_)
    exact j1 _ true g2 g1 a w (S.sb rfl (.c0 (.c0 .n))) h3
   ·refine s_gT S (b:=(!(decide (x1.e3=x2.e3)))) rfl rfl c8 (s_fieldAddr S rfl I71_3 T44 (by decide) rfl rfl fun a S=>s_gT S (b:=(!(decide (x1.e3=x2.e3)))) rfl rfl c8 (s_loadSl S rfl .h1 T44 (A:=ch_0_0) (len:=(x1.e4).length) (cap:=ch_0_1) rfl rfl fun a S=>s_gT S (b:=(!(decide (x1.e3=x2.e3)))) rfl rfl c8 (s_strS S rfl rfl underlying44 underlying5 underlying9 rfl fun a S=>s_gT S (b:=(!(decide (x1.e3=x2.e3)))) rfl rfl c8 (s_fieldAddr S rfl I71_3 T44 (by decide) rfl rfl fun a S=>s_gT S (b:=(!(decide (x1.e3=x2.e3)))) rfl rfl c8 (s_loadSl S rfl .h T44 (A:=ch_1_0) (len:=(x2.e4).length) (cap:=ch_1_1) rfl rfl fun a S=>s_gT S (b:=(!(decide (x1.e3=x2.e3)))) rfl rfl c8 (s_strS S rfl rfl underlying44 underlying5 underlying9 rfl fun a S=>s_gT S (b:=(!(decide (x1.e3=x2.e3)))) rfl rfl c8 (s_neT S rfl rfl rfl fun a S=>s_pick S (b:=false) (hc_of rfl c8) rfl rfl fun a S=>s_mv1 S rfl fun a S=>?_)))))))
    rcases ite_of h3 with ⟨c9,h4⟩ | ⟨c9,h4⟩
    ·refine s_gF S (b:=(!((bstr x1.e4).toList==(bstr x2.e4).toList))) rfl rfl c9 rfl fun a S=>s_gF S (b:=(!((bstr x1.e4).toList==(bstr x2.e4).toList))) rfl rfl c9 rfl fun a S=>s_gF S (b:=(!((bstr x1.e4).toList==(bstr x2.e4).toList))) rfl rfl c9 rfl fun a S=>s_gF S (b:=(!((bstr x1.e4).toList==(bstr x2.e4).toList))) rfl rfl c9 rfl fun a S=>s_gF S (b:=(!((bstr x1.e4).toList==(bstr x2.e4).toList))) rfl rfl c9 rfl fun a S=>s_gF S (b:=(!((bstr x1.e4).toList==(bstr x2.e4).toList))) rfl rfl c9 rfl fun a S=>s_gF S (b:=(!((bstr x1.e4).toList==(bstr x2.e4).toList))) rfl rfl c9 rfl fun a S=>s_pick S (b:=true) (hc_of rfl c9) rfl rfl fun a S=>c_end' (x_thenN ?_)
     exact j1 _ true g2 g1 a w (S.sb rfl (.c0 (.c0 .n))) h4
    ·refine s_gT S (b:=(!((bstr x1.e4).toList==(bstr x2.e4).toList))) rfl rfl c9 (s_fieldAddr S rfl I71_4 T69 (by decide) rfl rfl fun a S=>s_gT S (b:=(!((bstr x1.e4).toList==(bstr x2.e4).toList))) rfl rfl c9 (s_loadSl S rfl .h1 T69 (A:=ch_0_2) (len:=(x1.t4).length) (cap:=ch_0_3) rfl rfl fun a S=>s_gT S (b:=(!((bstr x1.e4).toList==(bstr x2.e4).toList))) rfl rfl c9 (s_lenS S rfl underlying69 rfl fun a S=>s_gT S (b:=(!((bstr x1.e4).toList==(bstr x2.e4).toList))) rfl rfl c9 (s_fieldAddr S rfl I71_4 T69 (by decide) rfl rfl fun a S=>s_gT S (b:=(!((bstr x1.e4).toList==(bstr x2.e4).toList))) rfl rfl c9 (s_loadSl S rfl .h T69 (A:=ch_1_2) (len:=(x2.t4).length) (cap:=ch_1_3) rfl rfl fun a S=>s_gT S (b:=(!((bstr x1.e4).toList==(bstr x2.e4).toList))) rfl rfl c9 (s_lenS S rfl underlying69 rfl fun a S=>s_gT S (b:=(!((bstr x1.e4).toList==(bstr x2.e4).toList))) rfl rfl c9 (s_bi S rfl fun a S=>s_pick S (b:=false) (hc_of rfl c9) rfl rfl fun a S=>c_end' (x_thenN ?_))))))))
     exact j1 _ (((x1.t4).length:Int) != ((x2.t4).length:Int)) g2 g1 a w (S.sb rfl (.c0 (.c0 .n))) h4
abbrev fg4_.Ty:Type:=(List Int)→(List Int)→Option Bool
def fg4_.Ctr (s:fg4_.Ty):Prop:=∀ {x1:List Int} {x2:List Int} {r:Bool} (h0:s x1 x2=some r) {mi:Mem} {w0:World},CtrB Tryz.prog 88 [(.agg [.b20 x1]),(.agg [.b20 x2])] [] (fun (ch:Unit)=>((.b r):D)) (fun (ch:Unit)=>[]) mi w0
def fg4_.j1:Option Bool:=some false
def fg4_.b1 (x1:List Int)(x2:List Int)(rec1:Int→Option Bool)(y1:Int):Option Bool:=if (decide (y1<20))=true then (if (0:Int)≤y1∧y1<20 then (if ((rd x1 y1) != (rd x2 y1))=true then (some (decide ((rd x1 y1)<(rd x2 y1)))) else (rec1 (wr .i64 (y1+1)))) else none) else fg4_.j1
def fg4_.l1 (x1:List Int)(x2:List Int):Nat→Int→Option Bool
  | 0,_=>none
  | q+1,y1=>fg4_.b1 x1 x2 (fg4_.l1 x1 x2 q) y1
def fg4_.f (k:Nat)(x1:List Int)(x2:List Int):Option Bool:=fg4_.l1 x1 x2 k 0
theorem fg4_.ok (k:Nat):fg4_.Ctr (fg4_.f k):=by
 intro x1 x2 r h0 mi w0 ok hm
 delta fg4_.f at h0
 refine c_enterZ (n:=24) ok hm func88 rfl rfl rfl fun b0 hb a S=>c_region (s_box S rfl rfl rfl fun g1 a w S=>s_box S rfl rfl rfl fun g2 a w S=>s_as1 S rfl fun a S=>c_end (wp_seq_k fun K1 hK1=>?_))
 have j1:∀ m a w,St 24 m b0 [] [] a w→fg4_.j1=some r→K1 a w:=by
  intro m a w S h0
  delta fg4_.j1 at h0
  refine hK1 a w (c_region (s_as1 S rfl fun a S=>c_end (wp_ret ?_)))
  obtain rfl:=sI h0
  exact b_ret1 (d:=(.b false)) S rfl rfl (S.rt hb)
 refine c_region (s_as1 S rfl fun a S=>c_end (wp_block ?_))
 refine c_loop (fun q1 a w=>∃ m y1 g13 g14,St 24 m b0 [(5,(.i y1)),(3,(.p g13)),(2,(.p g14))] [Res.cells g13 40 [.b20 x2],Res.cells g14 40 [.b20 x1]] a w∧fg4_.l1 x1 x2 q1 y1=some r) ?_ ?_ (k:=k) ⟨_,0,g2,g1,(S.sb rfl (.c0 (.c0 .n))),h0⟩
 ·rintro a w ⟨m,y1,g13,g14,S,h0⟩
  exact (nomatch (show (none:Option Bool)=some r from h0))
 ·clear S h0
  rintro q1 a w ⟨m,y1,g13,g14,S,h0⟩
  replace h0:fg4_.b1 x1 x2 (fg4_.l1 x1 x2 q1) y1=some r:=h0
  delta fg4_.b1 at h0
  refine wp_seq (c_region (s_mv1 S rfl fun a S=>s_bi S rfl fun a S=>c_end ?_))
  rcases ite_of h0 with ⟨c1,h1⟩ | ⟨c1,h1⟩
  ·refine c_condT S rfl c1 (wp_skip (x_thenN (wp_seq (wp_block ?_))))
   refine wp_seq (c_hS S (.tk 0 7 .done) 7 (.c0 (.c0 .n)) ⟨Res.stay_cells,Res.stay_cells,tv⟩ [(5,(.i y1)),(3,(.p g13)),(2,(.p g14))] rfl (by kernel_rfl) ?_); clear S; intro w S CL hw le
   refine h_mv1 S CL hw le rfl tv fun a S CL=>?_
   obtain ⟨c2,h2⟩:=chk_of h1; clear h1
   refine h_iaddr S CL hw le (subR rfl) rfl rfl underlying40 T5 c2.1 c2.2 (mul1 _ _) rfl rfl tv fun a S CL=>h_loadi S CL hw le (subR rfl) (i:=y1) rfl .h1 T5 .h rfl c2.1 c2.2 rfl rfl tv fun a S CL=>h_mv1 S CL hw le rfl tv fun a S CL=>h_iaddr S CL hw le (subR rfl) rfl rfl underlying40 T5 c2.1 c2.2 (mul1 _ _) rfl rfl tv fun a S CL=>h_loadi S CL hw le (subR rfl) (i:=y1) rfl .h T5 .h rfl c2.1 c2.2 rfl rfl tv fun a S CL=>h_bin S CL hw le (subR rfl) rfl rfl rfl rfl rfl tv fun a S CL=>?_
   refine h_done ?_; clear CL hw le
   refine x_thenN ?_
   rcases ite_of h2 with ⟨c3,h3⟩ | ⟨c3,h3⟩
   ·refine c_condT S rfl c3 ?_
    refine wp_seq (c_hS S (.tk 0 8 .done) 8 (.c0 (.c0 .n)) ⟨Res.stay_cells,Res.stay_cells,tv⟩ [(5,(.i y1)),(3,(.p g13)),(2,(.p g14))] rfl (by kernel_rfl) ?_); clear S; intro w S CL hw le
    refine h_mv1 S CL hw le rfl tv fun a S CL=>h_iaddr S CL hw le (subR rfl) rfl rfl underlying40 T5 c2.1 c2.2 (mul1 _ _) rfl rfl tv fun a S CL=>h_loadi S CL hw le (subR rfl) (i:=y1) rfl .h1 T5 .h rfl c2.1 c2.2 rfl rfl tv fun a S CL=>h_mv1 S CL hw le rfl tv fun a S CL=>h_iaddr S CL hw le (subR rfl) rfl rfl underlying40 T5 c2.1 c2.2 (mul1 _ _) rfl rfl tv fun a S CL=>h_loadi S CL hw le (subR rfl) (i:=y1) rfl .h T5 .h rfl c2.1 c2.2 rfl rfl tv fun a S CL=>h_bin S CL hw le (subR rfl) rfl rfl rfl rfl rfl tv fun a S CL=>h_assign S CL hw le (subR rfl) rfl rfl rfl tv fun a S CL=>?_
    refine h_done ?_; clear CL hw le
    refine x_thenN (wp_ret (x_blockR (x_thenR (x_thenR (x_blockR (x_thenR ?_))))))
    obtain rfl:=sI h3
    exact b_ret1 (d:=(.b (decide ((rd x1 y1)<(rd x2 y1))))) S rfl rfl (S.rt hb)
   ·refine c_condF S rfl c3 (wp_skip (x_blockN (x_thenN (c_region' (s_mv1 S rfl fun a S=>s_bi S rfl fun a S=>s_as1 S rfl fun a S=>c_end' (x_thenN ?_))))))
    exact ⟨_,(wr .i64 (y1+1)),g13,g14,(S.sb rfl (.c0 (.c0 .n))),h3⟩
  ·refine c_condF S rfl c1 (wp_exit (x_thenX (x_thenX (x_blockX (x_thenN ?_)))))
   exact j1 _ a w (S.sub tv .nil) h1
abbrev fa7_.Ty:Type:=ST37→Option (List L71)
def fa7_.Ctr (s:fa7_.Ty):Prop:=∀ {x1:ST37} {ch_0_0:(Option Addr×Nat)×(Option Addr×Nat)×(Option Addr×Nat)×(Option Addr×Nat)×Unit×(Option Addr×Nat)×Unit×(Option Addr×Nat)} {r:List L71} (h0:s x1=some r) {mi:Mem} {w0:World},CtrB Tryz.prog 55 [(.agg (SY37.segs x1 ch_0_0))] [] (fun (ch:(Option Addr)×Nat×Nat)=>((.s ch.1 ch.2.1 ch.t2):D)) (fun (ch:(Option Addr)×Nat×Nat)=>[Res.row Y71 71 ch.1 ch.2.1 ch.t2 r]) mi w0
def fa7_.j1 (y1:List L71):Option (List L71):=some y1
def fa7_.j2 (y20:Int)(rec1:Int→(List L71)→Option (List L71))(y29:List L71):Option (List L71):=rec1 (wr .i64 (y20+1)) y29
def fa7_.j4 (y20:Int)(y21:List L71)(rec1:Int→(List L71)→Option (List L71))(y30:L71)(y36:Int):Option (List L71):=if (0:Int)≤0∧(0:Int)≤y36∧y36≤((y21).length:Int) then (if ((([]:List L71)).length+(((y21).drop (Int.toNat 0)).take (Int.toNat y36 - Int.toNat 0)).length)*112≤140737488355328 then (if ((([]:List L71)++(((y21).drop (Int.toNat 0)).take (Int.toNat y36 - Int.toNat 0))).length+([y30]).length)*112≤140737488355328 then (if (0:Int)≤y36∧(y36:Int)≤((y21).length:Int)∧((y21).length:Int)≤((y21).length:Int) then (if (((([]:List L71)++(((y21).drop (Int.toNat 0)).take (Int.toNat y36 - Int.toNat 0)))++[y30]).length+(((y21).drop (Int.toNat y36)).take (Int.toNat ((y21).length:Int) - Int.toNat y36)).length)*112≤140737488355328 then (fa7_.j2 y20 rec1 (((([]:List L71)++(((y21).drop (Int.toNat 0)).take (Int.toNat y36 - Int.toNat 0)))++[y30])++(((y21).drop (Int.toNat y36)).take (Int.toNat ((y21).length:Int) - Int.toNat y36)))) else none) else none) else none) else none) else none
def fa7_.j5 (y20:Int)(y21:List L71)(rec1:Int→(List L71)→Option (List L71))(y30:L71)(y40:Int)(rec2:Int→Option (List L71))(y41:Bool):Option (List L71):=if y41=true then (rec2 (wr .i64 (y40 - 1))) else (fa7_.j4 y20 y21 rec1 y30 y40)
def fa7_.b2 (k:Nat)(y20:Int)(y21:List L71)(rec1:Int→(List L71)→Option (List L71))(y30:L71)(rec2:Int→Option (List L71))(y40:Int):Option (List L71):=if (decide (0<y40))=true then (if (0:Int)≤(wr .i64 (y40 - 1))∧(wr .i64 (y40 - 1))<((y21).length:Int) then ((fg4_.f k y30.1 ((gt y21 (wr .i64 (y40 - 1))).1)).bind fun t4=>(fa7_.j5 y20 y21 rec1 y30 y40 rec2 t4)) else none) else (fa7_.j5 y20 y21 rec1 y30 y40 rec2 false)
def fa7_.l2 (k:Nat)(y20:Int)(y21:List L71)(rec1:Int→(List L71)→Option (List L71))(y30:L71):Nat→Int→Option (List L71)
  | 0,_=>none
  | q+1,y40=>fa7_.b2 k y20 y21 rec1 y30 (fa7_.l2 k y20 y21 rec1 y30 q) y40
def fa7_.j3 (k:Nat)(x1:ST37)(y20:Int)(y21:List L71)(rec1:Int→(List L71)→Option (List L71))(y30:L71):Option (List L71):=(fc0_.f k x1 y30.1).bind fun t1=>((fg2_.f k y30 t1).bind fun t2=>(if t2=true then (fa7_.j2 y20 rec1 y21) else (fa7_.l2 k y20 y21 rec1 y30 k ((y21).length:Int))))
def fa7_.b1 (k:Nat)(x1:ST37)(rec1:Int→(List L71)→Option (List L71))(y20:Int)(y21:List L71):Option (List L71):=if (decide (y20<(((ST37.un x1).2.1).length:Int)))=true then (if (0:Int)≤y20∧y20<(((ST37.un x1).2.1).length:Int) then (if ((gt ((ST37.un x1).2.1) y20).2.2)=true then (fa7_.j3 k x1 y20 y21 rec1 (((gt ((ST37.un x1).2.1) y20).1).1,0,[0,0,0,0],([]:List Int),([]:List ((List Int)×(List Int))))) else (fa7_.j3 k x1 y20 y21 rec1 ((gt ((ST37.un x1).2.1) y20).1))) else none) else (fa7_.j1 y21)
def fa7_.l1 (k:Nat)(x1:ST37):Nat→Int→(List L71)→Option (List L71)
  | 0,_,_=>none
  | q+1,y20,y21=>fa7_.b1 k x1 (fa7_.l1 k x1 q) y20 y21
def fa7_.f (k:Nat)(x1:ST37):Option (List L71):=fa7_.l1 k x1 k 0 ([]:List L71)
theorem fa7_.ok (k:Nat):fa7_.Ctr (fa7_.f k):=by
 intro x1 ch_0_0 r h0 mi w0 ok hm
 delta fa7_.f at h0
 refine c_enterZ (n:=70) ok hm func55 rfl rfl rfl fun b0 hb a S=>c_region (s_box S rfl rfl rfl fun g1 a w S=>s_as1 S rfl fun a S=>c_end (c_region (s_bldSl S (ty':=Y71) (ds:=[]) (z:=zt1) (c0:=((),(),(),(none,0),(none,0))) (ys:=([]:List L71)) (cs:=[]) rfl underlying22 J71 Z71 rfl ⟨rfl,rfl,rfl,⟨Nat.le_refl _,Nat.zero_le _,RdS.nil _ _ _,RdS.mono _ _ _⟩,⟨Nat.le_refl _,Nat.zero_le _,RdS.nil _ _ _,RdS.mono _ _ _⟩,tv⟩ rfl rfl rfl rfl rfl rfl fun g2 a w S=>s_as1 S rfl fun a S=>c_end (wp_seq_k fun K1 hK1=>?_))))
 have j1:∀ m A1 nn1 cp1 y1 a w,St 70 m b0 [(3,(.s A1 nn1 cp1))] [Res.row Y71 71 A1 nn1 cp1 y1] a w→fa7_.j1 y1=some r→K1 a w:=by
  intro m A1 nn1 cp1 y1 a w S h0
  delta fa7_.j1 at h0
  refine hK1 a w (c_region (s_mv1 S rfl fun a S=>s_as1 S rfl fun a S=>c_end (wp_ret ?_)))
  obtain rfl:=sI h0
  exact b_ret1 (d:=(.s A1 nn1 cp1)) S rfl rfl fun ok=>S.retX (Hx:=[]) hb _ _ ((A1,nn1,cp1):(Option Addr)×Nat×Nat) (.c0 .n) ok
 refine c_region (s_fieldAddr S rfl I37_1 T31 (by decide) rfl rfl fun a S=>s_loadSl S rfl .h1 T31 (A:=ch_0_0.2.1.1) (len:=((ST37.un x1).2.1).length) (cap:=ch_0_0.2.1.2) rfl rfl fun a S=>s_lenS S rfl underlying31 rfl fun a S=>s_mv1 S rfl fun a S=>c_end (wp_block ?_))
 refine c_loop (fun q1 a w=>∃ m y20 A2 nn5 cp11 y21 g104,St 70 m b0 [(13,(.i y20)),(12,(.i (((ST37.un x1).2.1).length:Int))),(3,(.s A2 nn5 cp11)),(1,(.p g104))] [Res.row Y71 71 A2 nn5 cp11 y21,Res.cells g104 37 (SY37.segs x1 ch_0_0)] a w∧fa7_.l1 k x1 q1 y20 y21=some r) ?_ ?_ (k:=k) ⟨_,0,(ad g2),0,0,([]:List L71),g1,(S.sb rfl (.c0 (.c0 .n))),h0⟩
 ·rintro a w ⟨m,y20,A2,nn5,cp11,y21,g104,S,h0⟩
  exact (nomatch (show (none:Option (List L71))=some r from h0))
 ·clear S h0
  rintro q1 a w ⟨m,y20,A2,nn5,cp11,y21,g104,S,h0⟩
  replace h0:fa7_.b1 k x1 (fa7_.l1 k x1 q1) y20 y21=some r:=h0
  delta fa7_.b1 at h0
  refine c_region (s_bi S rfl fun a S=>c_end (wp_seq ?_))
  rcases ite_of h0 with ⟨c1,h1⟩ | ⟨c1,h1⟩
  ·refine c_condT S rfl c1 (wp_skip (x_thenN (wp_seq_k fun K2 hK2=>?_)))
   have j2:∀ m A3 nn6 cp15 y29 g128 a w,St 70 m b0 [(13,(.i y20)),(12,(.i (((ST37.un x1).2.1).length:Int))),(3,(.s A3 nn6 cp15)),(1,(.p g128))] [Res.row Y71 71 A3 nn6 cp15 y29,Res.cells g128 37 (SY37.segs x1 ch_0_0)] a w→fa7_.j2 y20 (fa7_.l1 k x1 q1) y29=some r→K2 a w:=by
    intro m A3 nn6 cp15 y29 g128 a w S h0
    delta fa7_.j2 at h0
    refine hK2 a w (c_region' (s_bi S rfl fun a S=>s_mv1 S rfl fun a S=>c_end' (x_thenN ?_)))
    exact ⟨_,(wr .i64 (y20+1)),A3,nn6,cp15,y29,g128,(S.sb rfl (.c0 (.c0 .n))),h0⟩
   refine wp_block (c_region (s_mv1 S rfl fun a S=>s_as1 S rfl fun a S=>c_end (c_region (s_fieldAddr S rfl I37_1 T31 (by decide) rfl rfl fun a S=>s_loadSl S rfl .h1 T31 (A:=ch_0_0.2.1.1) (len:=((ST37.un x1).2.1).length) (cap:=ch_0_0.2.1.2) rfl rfl fun a S=>s_mv1 S rfl fun a S=>?_))))
   obtain ⟨c2,h2⟩:=chk_of h1; clear h1
   refine s_iaddrS S rfl rfl rfl underlying31 T122 c2.1 c2.2 rfl fun p1 a S=>s_ldA S (fun (c:(Unit×Unit×Unit×(Option Addr×Nat)×(Option Addr×Nat))×Unit×Unit)=>(Y122.segs (gt ((ST37.un x1).2.1) y20) (c.1,(),()))) rfl T122 (fun _=>rfl) rfl fun ch1 a S=>?_
   refine s_alloc S Z122 rfl ⟨rfl,rfl,rfl,rfl,rfl,rfl,rfl,tv⟩ rfl fun g129 a w S=>s_store S rfl rfl rfl (s':=(Y122.segs (gt ((ST37.un x1).2.1) y20) (ch1.1,(),()))) .h T122 rfl rfl fun w S=>c_end (c_region (s_fieldAddr S rfl I122_0 T71 (by decide) rfl rfl fun a S=>s_loada S rfl .h T71 (s':=(Y71.segs ((gt ((ST37.un x1).2.1) y20).1) ch1.1)) rfl rfl fun a S=>s_alloc S Z71 rfl ⟨rfl,rfl,rfl,rfl,rfl,tv⟩ rfl fun g130 a w S=>s_store S rfl rfl rfl (s':=(Y71.segs ((gt ((ST37.un x1).2.1) y20).1) ch1.1)) .h T71 rfl rfl fun w S=>c_end (wp_seq_k fun K3 hK3=>?_)))
   have j3:∀ m g131 g132 y30 cc1 a w,St 70 m b0 [(6,(.p g131)),(13,(.i y20)),(12,(.i (((ST37.un x1).2.1).length:Int))),(3,(.s A2 nn5 cp11)),(1,(.p g132))] [Res.cells g131 71 (Y71.segs y30 cc1),Res.row Y71 71 A2 nn5 cp11 y21,Res.cells g132 37 (SY37.segs x1 ch_0_0)] a w→fa7_.j3 k x1 y20 y21 (fa7_.l1 k x1 q1) y30=some r→K3 a w:=by
    intro m g131 g132 y30 cc1 a w S h0
    delta fa7_.j3 at h0
    refine hK3 a w (wp_seq ?_)
    refine wp_seq (c_hS S (.tk 0 4 (.alts (.run 4 true (.alts (.run 5 true .done .nil)) .nil))) 6 (.c0 (.c1 .n)) ⟨Res.stay_cells,Res.stay_cells,tv⟩ [(6,(.p g131)),(1,(.p g132))] rfl (by kernel_rfl) ?_); clear S; intro w S CL hw le
    refine h_loada S CL hw le (subR rfl) rfl .h T71 (s':=(Y71.segs y30 cc1)) rfl rfl rfl tv fun a S CL=>h_loada S CL hw le (subR rfl) rfl .h1 T37 (s':=(SY37.segs x1 ch_0_0)) rfl rfl rfl tv fun a S CL=>h_fieldAddr S CL hw le (subR rfl) rfl I71_0 T40 (by decide) rfl rfl rfl tv fun a S CL=>h_loada S CL hw le (subR rfl) rfl .h T40 (s':=[.b20 y30.1]) rfl rfl rfl tv fun a S CL=>h_run' S rfl tv (bindX h0 fun t1 et1 h1=>s_callK S (fc0_.ok k (ch_0_0:=ch_0_0) et1) N87 rfl .pre (fun _=> .n) rfl fun ch2 m le1 a w S=>?_)
    replace le:=le.trans le1
    refine CL.bk hw S (.c0 (.c1 .n)) le fun hw=>h_run' S rfl tv (bindX h1 fun t2 et2 h2=>s_callK S (fg2_.ok k et2) N86 rfl .pre (fun _=> .n) rfl fun ch3 m le1 a w S=>?_)
    replace le:=le.trans le1
    refine CL.bk hw S (.c0 (.c1 .n)) le fun hw=>?_
    refine h_done ?_; clear CL hw le
    refine x_thenN ?_
    rcases ite_of h2 with ⟨c3,h3⟩ | ⟨c3,h3⟩
    ·refine c_condT S rfl c3 (wp_exit (x_thenX (x_blockX (x_thenN ?_))))
     exact j2 _ A2 nn5 cp11 y21 g132 a w (S.sb rfl (.c1 (.c1 .n))) h3
    ·refine c_condF S rfl c3 (wp_skip (x_thenN (c_region (s_mv1 S rfl fun a S=>s_lenO S rfl .h1 underlying22 rfl fun a S=>s_as1 S rfl fun a S=>c_end (wp_seq_k fun K4 hK4=>?_)))))
     have j4:∀ m y36 g148 g149 a w,St 70 m b0 [(7,(.i y36)),(6,(.p g148)),(13,(.i y20)),(12,(.i (((ST37.un x1).2.1).length:Int))),(3,(.s A2 nn5 cp11)),(1,(.p g149))] [Res.cells g148 71 (Y71.segs y30 cc1),Res.row Y71 71 A2 nn5 cp11 y21,Res.cells g149 37 (SY37.segs x1 ch_0_0)] a w→fa7_.j4 y20 y21 (fa7_.l1 k x1 q1) y30 y36=some r→K4 a w:=by
      intro m y36 g148 g149 a w S h0
      delta fa7_.j4 at h0
      refine hK4 a w (c_region (s_bldSl S (ty':=Y71) (ds:=[]) (z:=zt1) (c0:=((),(),(),(none,0),(none,0))) (ys:=([]:List L71)) (cs:=[]) rfl underlying22 J71 Z71 rfl ⟨rfl,rfl,rfl,⟨Nat.le_refl _,Nat.zero_le _,RdS.nil _ _ _,RdS.mono _ _ _⟩,⟨Nat.le_refl _,Nat.zero_le _,RdS.nil _ _ _,RdS.mono _ _ _⟩,tv⟩ rfl rfl rfl rfl rfl rfl fun g150 a w S=>s_as1 S rfl fun a S=>c_end (c_region (s_mv3 S rfl fun a S=>?_))))
      obtain ⟨c4,h1⟩:=chk_of h0; clear h0
      refine s_cutR S (ty':=Y71) (i:=0) (j:=y36) rfl .h2 underlying22 T71 (.inl ⟨rfl,rfl⟩) (.inr ⟨_,_,rfl,rfl⟩) (by have h0:=(S.holds _ (Pull.mem .h2).1).1; have h1:=c4; omega) rfl fun a S=>?_
      obtain ⟨c5,h2⟩:=chk_of h1; clear h1
      refine s_app S (k2:=(Int.toNat y36 - Int.toNat 0)) (ys:=(((y21).drop (Int.toNat 0)).take (Int.toNat y36 - Int.toNat 0))) rfl (fun _ _=> .h) rfl rfl (show (((y21).drop (Int.toNat 0)).take (Int.toNat y36 - Int.toNat 0)).length=Int.toNat y36 - Int.toNat 0 by have h0:=(S.holds _ (Pull.mem .h2).1).1; have h1:=c4; rw [List.length_take,List.length_drop]; omega) (Res.row.srcV (S.holds _ (Pull.mem .h2).1) (by have h0:=(S.holds _ (Pull.mem .h2).1).1; have h1:=c4; omega)) underlying22 J71 c5 rfl fun A4 cp16 a w S=>s_as1 S rfl fun a S=>c_end (c_region (s_mv1 S rfl fun a S=>s_loada S rfl .h1 T71 (s':=(Y71.segs y30 cc1)) rfl rfl fun a S=>s_bldSl S (ty':=Y71) (ds:=[(0,(.agg (Y71.segs y30 cc1)))]) (z:=zt1) (c0:=((),(),(),(none,0),(none,0))) (ys:=[y30]) (cs:=[cc1]) rfl underlying22 J71 Z71 rfl ⟨rfl,rfl,rfl,⟨Nat.le_refl _,Nat.zero_le _,RdS.nil _ _ _,RdS.mono _ _ _⟩,⟨Nat.le_refl _,Nat.zero_le _,RdS.nil _ _ _,RdS.mono _ _ _⟩,tv⟩ rfl rfl rfl rfl rfl rfl fun g151 a w S=>?_))
      obtain ⟨c6,h3⟩:=chk_of h2; clear h2
      refine s_app S (k2:=1) (ys:=[y30]) rfl (fun _ _=> .h1) rfl rfl (S.holds _ (Pull.mem .h).1).1 (Res.row.src (S.holds _ (Pull.mem .h).1)) underlying22 J71 c6 rfl fun A5 cp17 a w S=>s_as1 S rfl fun a S=>c_end (c_region (s_mv3 S rfl fun a S=>?_))
      obtain ⟨c7,h4⟩:=chk_of h3; clear h3
      refine s_cutR S (ty':=Y71) (i:=y36) (j:=((y21).length:Int)) rfl .h3 underlying22 T71 (.inr ⟨_,_,rfl,rfl⟩) (.inl ⟨rfl,congrArg (Nat.cast:Nat→Int) (S.holds _ (Pull.mem .h3).1).1⟩) (by have h0:=(S.holds _ (Pull.mem .h3).1).1; have h1:=c7; omega) rfl fun a S=>?_
      obtain ⟨c8,h5⟩:=chk_of h4; clear h4
      refine s_app S (k2:=(Int.toNat ((y21).length:Int) - Int.toNat y36)) (ys:=(((y21).drop (Int.toNat y36)).take (Int.toNat ((y21).length:Int) - Int.toNat y36))) rfl (fun _ _=> .h1) rfl rfl (show (((y21).drop (Int.toNat y36)).take (Int.toNat ((y21).length:Int) - Int.toNat y36)).length=Int.toNat ((y21).length:Int) - Int.toNat y36 by have h0:=(S.holds _ (Pull.mem .h3).1).1; have h1:=c7; rw [List.length_take,List.length_drop]; omega) (Res.row.srcV (S.holds _ (Pull.mem .h3).1) (by have h0:=(S.holds _ (Pull.mem .h3).1).1; have h1:=c7; omega)) underlying22 J71 c8 rfl fun A6 cp18 a w S=>s_as1 S rfl fun a S=>c_end (c_region' (s_mv1 S rfl fun a S=>s_as1 S rfl fun a S=>c_end' (x_blockN (x_thenN ?_))))
      exact j2 _ A6 (((0+(Int.toNat y36 - Int.toNat 0))+1)+(Int.toNat ((y21).length:Int) - Int.toNat y36)) cp18 (((([]:List L71)++(((y21).drop (Int.toNat 0)).take (Int.toNat y36 - Int.toNat 0)))++[y30])++(((y21).drop (Int.toNat y36)).take (Int.toNat ((y21).length:Int) - Int.toNat y36))) g149 a w (S.sb rfl (.c1 (.c3 .n))) h5
     refine wp_block ?_
     refine c_loop (fun q2 a w=>∃ m y40 g162 g163,St 70 m b0 [(7,(.i y40)),(6,(.p g162)),(13,(.i y20)),(12,(.i (((ST37.un x1).2.1).length:Int))),(3,(.s A2 nn5 cp11)),(1,(.p g163))] [Res.cells g162 71 (Y71.segs y30 cc1),Res.row Y71 71 A2 nn5 cp11 y21,Res.cells g163 37 (SY37.segs x1 ch_0_0)] a w∧fa7_.l2 k y20 y21 (fa7_.l1 k x1 q1) y30 q2 y40=some r) ?_ ?_ (k:=k) ⟨_,((y21).length:Int),g131,g132,(S.sb rfl (.c0 (.c0 (.c0 .n)))),h3⟩
     ·rintro a w ⟨m,y40,g162,g163,S,h0⟩
      exact (nomatch (show (none:Option (List L71))=some r from h0))
     ·clear S h3
      rintro q2 a w ⟨m,y40,g162,g163,S,h0⟩
      replace h0:fa7_.b2 k y20 y21 (fa7_.l1 k x1 q1) y30 (fa7_.l2 k y20 y21 (fa7_.l1 k x1 q1) y30 q2) y40=some r:=h0
      delta fa7_.b2 at h0
      refine wp_seq (wp_seq_k fun K5 hK5=>?_)
      have j5:∀ m y41 g165 g166 a w,St 70 m b0 [(49,(.b y41)),(7,(.i y40)),(6,(.p g165)),(13,(.i y20)),(12,(.i (((ST37.un x1).2.1).length:Int))),(3,(.s A2 nn5 cp11)),(1,(.p g166))] [Res.cells g165 71 (Y71.segs y30 cc1),Res.row Y71 71 A2 nn5 cp11 y21,Res.cells g166 37 (SY37.segs x1 ch_0_0)] a w→fa7_.j5 y20 y21 (fa7_.l1 k x1 q1) y30 y40 (fa7_.l2 k y20 y21 (fa7_.l1 k x1 q1) y30 q2) y41=some r→K5 a w:=by
       intro m y41 g165 g166 a w S h0
       delta fa7_.j5 at h0
       refine hK5 a w ?_
       rcases ite_of h0 with ⟨c9,h1⟩ | ⟨c9,h1⟩
       ·refine c_condT S rfl c9 (wp_skip (x_thenN (wp_block (c_region' (s_mv1 S rfl fun a S=>s_bi S rfl fun a S=>s_as1 S rfl fun a S=>c_end' (x_blockN (x_thenN ?_)))))))
        exact ⟨_,(wr .i64 (y40 - 1)),g165,g166,(S.sb rfl (.c0 (.c0 (.c0 .n)))),h1⟩
       ·refine c_condF S rfl c9 (wp_exit (x_thenX (x_thenX (x_blockX (x_thenN ?_)))))
        exact j4 _ y40 g165 g166 a w (S.sb rfl (.c0 (.c0 (.c0 .n)))) h1
      have hS:=S.rowx (fun _=> .h1)
      clear S; obtain ⟨cs1,S⟩:=hS
      refine c_hS S (.tk 0 11 (.alts (.run 11 true (.take 12 .done) .nil))) 13 (.c0 (.c0 .n)) ⟨Res.stay_cells,Res.stay_rowx,tv⟩ [(7,(.i y40)),(6,(.p g162)),(3,(.s A2 nn5 cp11))] rfl (by kernel_rfl) fun w S CL hw le=>?_
      refine h_mv1 S CL hw le rfl tv fun a S CL=>h_bin S CL hw le (subR rfl) rfl rfl rfl rfl rfl tv fun a S CL=>h_mv1 S CL hw le rfl tv fun a S CL=>?_
      rcases ite_of h0 with ⟨c10,h1⟩ | ⟨c10,h1⟩
      ·refine h_fieldAddr S CL hw le (subR rfl) rfl I71_0 T40 (by decide) rfl rfl rfl ⟨_,_,rfl,rfl,c10⟩ fun a S CL=>h_loada S CL hw le (subR rfl) rfl .h T40 (s':=[.b20 y30.1]) rfl rfl rfl ⟨_,_,rfl,rfl,c10⟩ fun a S CL=>h_mv2 S CL hw le rfl ⟨_,_,rfl,rfl,c10⟩ ⟨_,_,rfl,rfl,c10⟩ fun a S CL=>h_bin S CL hw le (subR rfl) rfl rfl rfl rfl rfl ⟨_,_,rfl,rfl,c10⟩ fun a S CL=>?_
       obtain ⟨c11,h2⟩:=chk_of h1; clear h1
       refine h_iaddrX S CL hw le (subR rfl) (ty':=Y71) rfl .h1 rfl underlying22 T71 c11.1 c11.2 rfl rfl ⟨_,_,rfl,rfl,c10⟩ fun g167 a hA1 S CL=>h_fieldAddr S CL hw le (subR rfl) rfl I71_0 T40 (by decide) rfl rfl rfl ⟨_,_,rfl,rfl,c10⟩ fun a S CL=>h_ldXA S CL hw le (subR rfl) (ty':=Y71) (i:=(wr .i64 (y40 - 1))) (off:=0) (fun c=>[.b20 ((gt y21 (wr .i64 (y40 - 1))).1)]) rfl hA1 .h1 T40 c11.1 c11.2 rfl (fun _=>rfl) rfl rfl ⟨_,_,rfl,rfl,c10⟩ fun ch4 a S CL=>h_run' S rfl ⟨_,_,rfl,rfl,c10⟩ (bindX h2 fun t4 et4 h3=>s_callK S (fg4_.ok k et4) N88 rfl .pre (fun _=> .n) rfl fun ch5 m le1 a w S=>?_)
       replace le:=le.trans le1
       refine CL.bk hw S (.c0 (.c0 .n)) le fun hw=>?_
       replace CL:=CL.add (t:=48) (d:=(.b t4)) S rfl rfl
       refine h_pick S CL hw le (subR rfl) (b:=true) (hc_of rfl c10) rfl rfl rfl tv fun a S CL=>?_
       refine h_done ?_; clear CL hw le
       replace S:=S.rowu .h1
       refine x_thenN ?_
       exact j5 _ t4 g162 g163 a w (S.sb rfl (.c0 (.c0 (.c0 .n)))) h3
      ·refine h_sk8 S CL rfl (ne_bool c10) fun a S CL=>h_skipRt S rfl rfl rfl (ne_bool c10) rfl fun a S=>CL.bk hw S (.c0 (.c0 .n)) le fun hw=>?_
       replace CL:=CL.add (t:=48) (d:= .u) S rfl rfl
       refine h_pick S CL hw le (subR rfl) (b:=false) (hc_of rfl c10) rfl rfl rfl tv fun a S CL=>?_
       refine h_done ?_; clear CL hw le
       replace S:=S.rowu .h1
       refine x_thenN ?_
       exact j5 _ false g162 g163 a w (S.sb rfl (.c0 (.c0 (.c0 .n)))) h1
   refine c_region (s_fieldAddr S rfl I122_2 T4 (by decide) rfl rfl fun a S=>s_load1 S rfl .h1 T4 (v:=(.bool ((gt ((ST37.un x1).2.1) y20).t2))) rfl rfl fun a S=>c_end ?_)
   rcases ite_of h2 with ⟨c12,h3⟩ | ⟨c12,h3⟩
   ·refine c_condT S rfl c12 (c_region' (s_fieldAddr S rfl I122_0 T71 (by decide) rfl rfl fun a S=>s_fieldAddr S rfl I71_0 T40 (by decide) rfl rfl fun a S=>s_loada S rfl .h1 T40 (s':=[.b20 (((gt ((ST37.un x1).2.1) y20).1).1)]) rfl rfl fun a S=>s_bldS S (ds:=[(0,(.agg [.b20 (((gt ((ST37.un x1).2.1) y20).1).1)]))]) (zs:=[.b20 z20, .w 0, .w4 [0,0,0,0], .s none 0 0, .s none 0 0]) (s':=[.b20 (((gt ((ST37.un x1).2.1) y20).1).1), .w 0, .w4 [0,0,0,0], .s none 0 0, .s none 0 0]) rfl underlying71 P71 Z71 ⟨rfl,rfl,rfl,rfl,rfl,tv⟩ rfl rfl fun a S=>s_store S rfl rfl rfl (s':=[.b20 (((gt ((ST37.un x1).2.1) y20).1).1), .w 0, .w4 [0,0,0,0], .s none 0 0, .s none 0 0]) .h T71 rfl rfl fun w S=>c_end' (x_thenN ?_)))
    replace S:=S.cellN 3 yb .h rfl
    replace S:=S.cellN 4 Y83 .h rfl
    exact j3 _ g130 g104 (((gt ((ST37.un x1).2.1) y20).1).1,0,[0,0,0,0],([]:List Int),([]:List ((List Int)×(List Int)))) ((),(),(),(none,0),(none,0)) a w (S.sb rfl (.c0 (.c1 (.c1 .n)))) h3
   ·refine c_condF S rfl c12 (wp_skip (x_thenN ?_))
    exact j3 _ g130 g104 ((gt ((ST37.un x1).2.1) y20).1) ch1.1 a w (S.sb rfl (.c0 (.c1 (.c1 .n)))) h3
  ·refine c_condF S rfl c1 (wp_exit (x_thenX (x_thenX (x_blockX (x_thenN ?_)))))
   exact j1 _ A2 nn5 cp11 y21 a w (S.sub ⟨rfl,tv⟩ (.c0 .n)) h1
abbrev fe6_.Ty:Type:=(List L71)→(List L71)→Option Bool
def fe6_.Ctr (s:fe6_.Ty):Prop:=∀ {x1:List L71} {x2:List L71} {ch_0_0:Option Addr} {ch_0_1:Nat} {ch_1_0:Option Addr} {ch_1_1:Nat} {r:Bool} (h0:s x1 x2=some r) {mi:Mem} {w0:World},CtrB Tryz.prog 54 [(.q Y71 ch_0_0 ch_0_1 x1),(.q Y71 ch_1_0 ch_1_1 x2)] [] (fun (ch:Unit)=>((.b r):D)) (fun (ch:Unit)=>[]) mi w0
def fe6_.j1:Option Bool:=some true
def fe6_.b1 (k:Nat)(x1:List L71)(x2:List L71)(rec1:Int→Option Bool)(y1:Int):Option Bool:=if (decide (y1<((x1).length:Int)))=true then (if (0:Int)≤y1∧y1<((x1).length:Int) then (if (0:Int)≤y1∧y1<((x2).length:Int) then ((fg2_.f k (gt x1 y1) (gt x2 y1)).bind fun t1=>(if (!t1)=true then (some false) else (rec1 (wr .i64 (y1+1))))) else none) else none) else fe6_.j1
def fe6_.l1 (k:Nat)(x1:List L71)(x2:List L71):Nat→Int→Option Bool
  | 0,_=>none
  | q+1,y1=>fe6_.b1 k x1 x2 (fe6_.l1 k x1 x2 q) y1
def fe6_.f (k:Nat)(x1:List L71)(x2:List L71):Option Bool:=if (((x1).length:Int) != ((x2).length:Int))=true then (some false) else (fe6_.l1 k x1 x2 k 0)
theorem fe6_.ok (k:Nat):fe6_.Ctr (fe6_.f k):=by
 intro x1 x2 ch_0_0 ch_0_1 ch_1_0 ch_1_1 r h0 mi w0 ok hm
 delta fe6_.f at h0
 refine c_enterZ (n:=27) ok hm func54 rfl rfl rfl fun b0 hb a S=>c_region (s_as1 S rfl fun a S=>c_end (wp_seq (c_region (s_mv1 S rfl fun a S=>s_lenS S rfl underlying22 rfl fun a S=>s_mv1 S rfl fun a S=>s_lenS S rfl underlying22 rfl fun a S=>s_bi S rfl fun a S=>c_end ?_))))
 rcases ite_of h0 with ⟨c1,h1⟩ | ⟨c1,h1⟩
 ·refine c_condT S rfl c1 (c_region (s_as1 S rfl fun a S=>c_end (wp_ret (x_thenR ?_))))
  obtain rfl:=sI h1
  exact b_ret1 (d:=(.b false)) S rfl rfl (S.rt hb)
 ·refine c_condF S rfl c1 (wp_skip (x_thenN (wp_seq_k fun K1 hK1=>?_)))
  have j1:∀ m a w,St 27 m b0 [] [] a w→fe6_.j1=some r→K1 a w:=by
   intro m a w S h0
   delta fe6_.j1 at h0
   refine hK1 a w (c_region (s_as1 S rfl fun a S=>c_end (wp_ret ?_)))
   obtain rfl:=sI h0
   exact b_ret1 (d:=(.b true)) S rfl rfl (S.rt hb)
  refine c_region (s_mv1 S rfl fun a S=>s_lenS S rfl underlying22 rfl fun a S=>s_mv1 S rfl fun a S=>c_end (wp_block ?_))
  refine c_loop (fun q1 a w=>∃ m y1,St 27 m b0 [(13,(.i y1)),(12,(.i ((x1).length:Int))),(0,(.q Y71 ch_0_0 ch_0_1 x1)),(1,(.q Y71 ch_1_0 ch_1_1 x2))] [] a w∧fe6_.l1 k x1 x2 q1 y1=some r) ?_ ?_ (k:=k) ⟨_,0,(S.sb rfl .nil),h1⟩
  ·rintro a w ⟨m,y1,S,h0⟩
   exact (nomatch (show (none:Option Bool)=some r from h0))
  ·clear S h1
   rintro q1 a w ⟨m,y1,S,h0⟩
   replace h0:fe6_.b1 k x1 x2 (fe6_.l1 k x1 x2 q1) y1=some r:=h0
   delta fe6_.b1 at h0
   refine c_region (s_bi S rfl fun a S=>c_end (wp_seq ?_))
   rcases ite_of h0 with ⟨c2,h1⟩ | ⟨c2,h1⟩
   ·refine c_condT S rfl c2 (wp_skip (x_thenN (wp_seq (wp_block (c_region (s_mv1 S rfl fun a S=>s_as1 S rfl fun a S=>c_end ?_))))))
    refine wp_seq (c_hS S (.tk 0 8 (.alts (.run 8 true (.take 9 .done) .nil))) 10 .nil tv [(5,(.i y1)),(0,(.q Y71 ch_0_0 ch_0_1 x1)),(1,(.q Y71 ch_1_0 ch_1_1 x2))] rfl (by kernel_rfl) ?_); clear S; intro w S CL hw le
    refine h_mv2 S CL hw le rfl tv tv fun a S CL=>?_
    obtain ⟨c3,h2⟩:=chk_of h1; clear h1
    refine h_iaddrS S CL hw le (subR rfl) rfl rfl rfl underlying22 T71 c3.1 c3.2 rfl rfl tv fun p1 a S CL=>h_ldA S CL hw le (subR rfl) (fun (c:Unit×Unit×Unit×(Option Addr×Nat)×(Option Addr×Nat))=>(Y71.segs (gt x1 y1) c)) rfl T71 (fun _=>rfl) rfl rfl tv fun ch1 a S CL=>?_
    refine h_mv2 S CL hw le rfl tv tv fun a S CL=>?_
    obtain ⟨c4,h3⟩:=chk_of h2; clear h2
    refine h_iaddrS S CL hw le (subR rfl) rfl rfl rfl underlying22 T71 c4.1 c4.2 rfl rfl tv fun p2 a S CL=>h_ldA S CL hw le (subR rfl) (fun (c:Unit×Unit×Unit×(Option Addr×Nat)×(Option Addr×Nat))=>(Y71.segs (gt x2 y1) c)) rfl T71 (fun _=>rfl) rfl rfl tv fun ch2 a S CL=>?_
    refine h_run' S rfl tv (bindX h3 fun t1 et1 h4=>s_callK S (fg2_.ok k et1) N86 rfl .pre (fun _=> .n) rfl fun ch3 m le1 a w S=>?_)
    replace le:=le.trans le1
    refine CL.bk hw S .nil le fun hw=>?_
    replace CL:=CL.add (t:=24) (d:=(.b t1)) S rfl rfl
    refine h_not S CL hw le (subR rfl) rfl rfl rfl tv fun a S CL=>?_
    refine h_done ?_; clear CL hw le
    refine x_thenN ?_
    rcases ite_of h4 with ⟨c5,h5⟩ | ⟨c5,h5⟩
    ·refine c_condT S rfl c5 (c_region (s_as1 S rfl fun a S=>c_end (wp_ret (x_blockR (x_thenR (x_thenR (x_blockR (x_thenR ?_))))))))
     obtain rfl:=sI h5
     exact b_ret1 (d:=(.b false)) S rfl rfl (S.rt hb)
    ·refine c_condF S rfl c5 (wp_skip (x_blockN (x_thenN (c_region' (s_bi S rfl fun a S=>s_mv1 S rfl fun a S=>c_end' (x_thenN ?_))))))
     exact ⟨_,(wr .i64 (y1+1)),(S.sb rfl .nil),h5⟩
   ·refine c_condF S rfl c2 (wp_exit (x_thenX (x_thenX (x_blockX (x_thenN ?_)))))
    exact j1 _ a w (S.sub tv .nil) h1
abbrev fh1_.Ty:Type:=W2→ST37→Option Bool
def fh1_.Ctr (s:fh1_.Ty):Prop:=∀ {x1:W2} {x2:ST37} {ch_0:W3} {ch_1_0:(Option Addr×Nat)×(Option Addr×Nat)×(Option Addr×Nat)×(Option Addr×Nat)×Unit×(Option Addr×Nat)×Unit×(Option Addr×Nat)} {r:Bool} (h0:s x1 x2=some r) {mi:Mem} {w0:World},CtrB Tryz.prog 15 [(.v (.pointer (some ⟨ch_0.1,0,none⟩))),(.agg (SY37.segs x2 ch_1_0))] (MS1 x1 ch_0) (fun (ch:Unit)=>((.b r):D)) (fun (ch:Unit)=>(MS1 x1 ch_0)) mi w0
def fh1_.f (k:Nat)(x1:W2)(x2:ST37):Option Bool:=(ff_.f x1).bind fun t1=>(if (t1==((ST37.un x2).2.2.2.2.1))=true then ((fg5_.f k x1).bind fun t2=>((fd6_.f k t2 ((ST37.un x2).2.2.2.2.2.1)).bind fun t3=>(if t3=true then ((fe2_.f k x1).bind fun t4=>((fa7_.f k x2).bind fun t5=>((fe6_.f k t4 t5).bind fun t6=>(some t6)))) else (some false)))) else (some false))
theorem fh1_.ok (k:Nat):fh1_.Ctr (fh1_.f k):=by
 intro x1 x2 ch_0 ch_1_0 r h0 mi w0 ok hm
 delta fh1_.f at h0
 refine c_enterZ (n:=24) ok hm func15 rfl rfl rfl fun b0 hb a S=>c_region (s_box S rfl rfl rfl fun g1 a w S=>s_as1 S rfl fun a S=>c_end ?_)
 refine wp_seq (c_hS S (.take 0 (.take 2 (.take 3 (.alts (.run 1 true (.tk 4 3 (.take 8 (.take 9 (.alts (.run 7 true (.alts (.run 10 true (.tk 11 3 (.take 15 (.alts (.run 14 true (.alts (.run 16 true (.alts (.run 17 true (.take 18 (.take 19 .done)) .nil)) .nil)) .nil)))) .nil)) .nil))))) .nil))))) 20 (.c0 .n) ⟨Res.stay_cells,tv⟩ [(3,(.p g1)),(0,(.v (.pointer (some ⟨ch_0.1,0,none⟩))))] rfl (by kernel_rfl) ?_); clear S; intro w S CL hw le
 refine h_mv1 S CL hw le rfl tv fun a S CL=>h_fieldAddr S CL hw le (subR rfl) rfl I37_4 T2 (by decide) rfl rfl rfl tv fun a S CL=>h_load1 S CL hw le (subR rfl) rfl .h T2 (v:=(.int .i64 ((ST37.un x2).e5))) rfl rfl rfl tv fun a S CL=>h_run' S rfl tv (bindX h0 fun t1 et1 h1=>s_callK S (ff_.ok (ch_0:=ch_0) et1) N23 rfl (.sk .pre) (fun _=> .c8) rfl fun ch1 m le1 a w S=>?_)
 replace le:=le.trans le1
 refine CL.bk hw S (.c8 .n) le fun hw=>?_
 replace CL:=CL.add (t:=6) (d:=(.i t1)) S rfl rfl
 refine h_bin S CL hw le (subR rfl) rfl rfl rfl rfl rfl tv fun a S CL=>h_mv1 S CL hw le rfl tv fun a S CL=>?_
 rcases ite_of h1 with ⟨c1,h2⟩ | ⟨c1,h2⟩
 ·refine h_mv1 S CL hw le rfl ⟨_,_,rfl,rfl,c1⟩ fun a S CL=>h_fieldAddr S CL hw le (subR rfl) rfl I37_5 T34 (by decide) rfl rfl rfl ⟨_,_,rfl,rfl,c1⟩ fun a S CL=>h_loadSl S CL hw le (subR rfl) rfl .h T34 (A:=ch_1_0.e6.1) (len:=((ST37.un x2).e6).length) (cap:=ch_1_0.e6.2) rfl rfl rfl ⟨_,_,rfl,rfl,c1⟩ fun a S CL=>h_run' S rfl ⟨_,_,rfl,rfl,c1⟩ (bindX h2 fun t2 et2 h3=>s_callK S (fg5_.ok k (ch_0:=ch_0) et2) N24 rfl .pre (fun _=> .c9) rfl fun ch2 m le1 a w S=>?_)
  replace le:=le.trans le1
  refine CL.bk hw S (.c9 .n) le fun hw=>h_run' S rfl ⟨_,_,rfl,rfl,c1⟩ ?_
  replace S:=S.rowfro .h
  obtain ⟨m,le1,S,hro⟩:=S
  replace le:=le.trans le1
  replace S:=S.slotro (u:=12) rfl hro
  refine bindX h3 fun t3 et3 h4=>s_callK S (fd6_.ok k et3) N53 rfl .pre (fun _=> .n) rfl fun ch3 m le1 a w S=>?_
  replace le:=le.trans le1
  refine CL.bk hw S (.c8 .n) le fun hw=>?_
  replace CL:=CL.add (t:=15) (d:=(.b t3)) S rfl rfl
  refine h_pick S CL hw le (subR rfl) (b:=true) (hc_of rfl c1) rfl rfl rfl tv fun a S CL=>h_mv1 S CL hw le rfl tv fun a S CL=>?_
  rcases ite_of h4 with ⟨c2,h5⟩ | ⟨c2,h5⟩
  ·refine h_mv1 S CL hw le rfl ⟨_,_,rfl,rfl,c2⟩ fun a S CL=>h_loada S CL hw le (subR rfl) rfl .h T37 (s':=(SY37.segs x2 ch_1_0)) rfl rfl rfl ⟨_,_,rfl,rfl,c2⟩ fun a S CL=>h_run' S rfl ⟨_,_,rfl,rfl,c2⟩ (bindX h5 fun t4 et4 h6=>s_callK S (fe2_.ok k (ch_0:=ch_0) et4) N26 rfl .pre (fun _=> .c9) rfl fun ch4 m le1 a w S=>?_)
   replace le:=le.trans le1
   refine CL.bk hw S (.c9 .n) le fun hw=>h_run' S rfl ⟨_,_,rfl,rfl,c2⟩ (bindX h6 fun t5 et5 h7=>s_callK S (fa7_.ok k (ch_0_0:=ch_1_0) et5) N55 rfl .pre (fun _=> .c1) rfl fun ch5 m le1 a w S=>?_)
   replace le:=le.trans le1
   refine CL.bk hw S (.c10 .n) le fun hw=>h_run' S rfl ⟨_,_,rfl,rfl,c2⟩ ?_
   replace S:=S.rowfro .h1
   obtain ⟨m,le1,S,hro⟩:=S
   replace le:=le.trans le1
   replace S:=S.slotro (u:=19) rfl hro
   replace S:=S.rowfro .h
   obtain ⟨m,le1,S,hro⟩:=S
   replace le:=le.trans le1
   replace S:=S.slotro (u:=21) rfl hro
   refine bindX h7 fun t6 et6 h8=>s_callK S (fe6_.ok k et6) N54 rfl .pre (fun _=> .n) rfl fun ch6 m le1 a w S=>?_
   replace le:=le.trans le1
   refine CL.bk hw S (.c8 .n) le fun hw=>?_
   replace CL:=CL.add (t:=22) (d:=(.b t6)) S rfl rfl
   refine h_pick S CL hw le (subR rfl) (b:=true) (hc_of rfl c2) rfl rfl rfl tv fun a S CL=>h_assign S CL hw le (subR rfl) rfl rfl rfl tv fun a S CL=>?_
   refine h_done ?_; clear CL hw le
   refine x_thenN (wp_ret ?_)
   obtain rfl:=sI h8
   exact b_ret1 (d:=(.b t6)) S rfl rfl fun ok=>S.retX (Hx:=[]) hb _ _ (():Unit) (.c0 (.c0 (.c0 (.c0 (.c0 (.c0 (.c0 (.c0 .n)))))))) ok
  ·refine h_sk2 S CL rfl (ne_bool c2) fun a S CL=>h_skipRt S rfl rfl rfl (ne_bool c2) rfl fun a S=>CL.bk hw S (.c8 .n) le fun hw=>h_skipRt S rfl rfl rfl (ne_bool c2) rfl fun a S=>CL.bk hw S (.c8 .n) le fun hw=>h_skipRt S rfl rfl rfl (ne_bool c2) rfl fun a S=>CL.bk hw S (.c8 .n) le fun hw=>?_
   replace CL:=CL.add (t:=22) (d:= .u) S rfl rfl
   refine h_pick S CL hw le (subR rfl) (b:=false) (hc_of rfl c2) rfl rfl rfl tv fun a S CL=>h_assign S CL hw le (subR rfl) rfl rfl rfl tv fun a S CL=>?_
   refine h_done ?_; clear CL hw le
   refine x_thenN (wp_ret ?_)
   obtain rfl:=sI h5
   exact b_ret1 (d:=(.b false)) S rfl rfl fun ok=>S.retX (Hx:=[]) hb _ _ (():Unit) (.c0 (.c0 (.c0 (.c0 (.c0 (.c0 (.c0 (.c0 .n)))))))) ok
 ·refine h_sk2 S CL rfl (ne_bool c1) fun a S CL=>h_sk1 S CL rfl (ne_bool c1) fun a S CL=>h_skipRt S rfl rfl rfl (ne_bool c1) rfl fun a S=>CL.bk hw S (.c8 .n) le fun hw=>h_skipRt S rfl rfl rfl (ne_bool c1) rfl fun a S=>CL.bk hw S (.c8 .n) le fun hw=>?_
  replace CL:=CL.add (t:=15) (d:= .u) S rfl rfl
  refine h_pick S CL hw le (subR rfl) (b:=false) (hc_of rfl c1) rfl rfl rfl tv fun a S CL=>h_mv1 S CL hw le rfl tv fun a S CL=>h_skip S CL rfl rfl rfl (ne_bool rfl) rfl fun a S CL=>h_skip S CL rfl rfl rfl (ne_bool rfl) rfl fun a S CL=>h_skipRt S rfl rfl rfl (ne_bool rfl) rfl fun a S=>CL.bk hw S (.c8 .n) le fun hw=>h_skipRt S rfl rfl rfl (ne_bool rfl) rfl fun a S=>CL.bk hw S (.c8 .n) le fun hw=>h_skipRt S rfl rfl rfl (ne_bool rfl) rfl fun a S=>CL.bk hw S (.c8 .n) le fun hw=>?_
  replace CL:=CL.add (t:=22) (d:= .u) S rfl rfl
  refine h_pick S CL hw le (subR rfl) (b:=false) (hc_of rfl rfl) rfl rfl rfl tv fun a S CL=>h_assign S CL hw le (subR rfl) rfl rfl rfl tv fun a S CL=>?_
  refine h_done ?_; clear CL hw le
  refine x_thenN (wp_ret ?_)
  obtain rfl:=sI h2
  exact b_ret1 (d:=(.b false)) S rfl rfl fun ok=>S.retX (Hx:=[]) hb _ _ (():Unit) (.c0 (.c0 (.c0 (.c0 (.c0 (.c0 (.c0 (.c0 .n)))))))) ok
end
end GW
