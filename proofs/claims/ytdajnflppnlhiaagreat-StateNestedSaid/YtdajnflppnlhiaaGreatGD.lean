import Derived.Test.YtdajnflppnlhiaaGreatProg
import Derived.Test.YtdajnflppnlhiaaGreatGC
set_option linter.unusedVariables false
set_option linter.unusedSimpArgs false
set_option maxRecDepth 10000
set_option maxHeartbeats 4000000
namespace GW
open Go Go.RowKit Go.Proofs Go.Proofs.Tryz
noncomputable section
abbrev fg1_.Ty:Type:=W2→ST37→(List (List Int))→W29→Option W27
def fg1_.Ctr (s:fg1_.Ty):Prop:=∀ {x1:W2} {x2:ST37} {x3:List (List Int)} {x4:W29} {ch_0:W3} {ch_1_0:(Option Addr×Nat)×(Option Addr×Nat)×(Option Addr×Nat)×(Option Addr×Nat)×Unit×(Option Addr×Nat)×Unit×(Option Addr×Nat)} {ch_2_0:Option Addr} {ch_2_1:Nat} {ch_2_2:Nat} {ch_3_0:Option Addr} {ch_3_1:Nat} {r:W27} (h0:s x1 x2 x3 x4=some r) {mi:Mem} {w0:World},CtrB Tryz.prog 12 [(.v (.pointer (some ⟨ch_0.1,0,none⟩))),(.agg (SY37.segs x2 ch_1_0)),(.s ch_2_0 ch_2_1 ch_2_2),(.agg (Y46.segs x4 ((),(),(),(),(),(ch_3_0,ch_3_1))))] (MS1 x1 ch_0++[Res.row (Ty.arr .i64 2) 103 ch_2_0 ch_2_1 ch_2_2 x3]) (fun (ch:W28)=>((.tup [(false,[.b r.1]),(true,(SY37.segs r.2.1 ch.1)),(false,[.s ch.2.1 ch.e3 ch.e4])]):D)) (fun (ch:W28)=>([Res.row (Ty.arr .i64 2) 103 ch.2.1 ch.e3 ch.e4 r.e3]++MS1 r.t3 (ch_0.1,ch.e5,ch.e6,ch.e7,ch.e8,ch.e9,ch.e10,ch.e11,ch.e12,ch.e13,ch.e14,ch.e15,ch.e16,ch.e17,ch.e18,ch.t18))) mi w0
def fg1_.j1 (y1:Bool)(y2:List (List Int))(y3:List L71)(y4:W15)(y5:List L110)(y6:W16)(y7:W17)(y8:Int)(y9:List L100)(y10:List Clo)(y11:List (List Int))(y12:ST37):Option W27:=some (y1,y12,y2,(y3,(y4,y5,y6,y7),y8,y9,y10,y11))
def fg1_.f (k:Nat)(x1:W2)(x2:ST37)(x3:List (List Int))(x4:W29):Option W27:=if (x4.1==0)=true then ((fd5_.f k x1 x4.2.1 x4.2.2.2.2.1).bind fun t1=>((fa3_.f k x2 x4.2.1 x4.2.2.2.2.1).bind fun t2=>(fg1_.j1 true x3 x1.1 t1.2.1.1 t1.2.1.2.1 t1.2.1.2.2.1 t1.2.1.2.2.2 x1.2.2.1 t1.2.2.2.1 t1.2.2.2.2.1 t1.2.2.2.2.2 t2))) else (if (x4.1==1)=true then ((fc3_.f k x1 x4.2.1 x4.2.2.2.1).bind fun t3=>((fa0_.f k x2 x4.2.1 x4.2.2.2.1).bind fun t4=>(fg1_.j1 true x3 x1.1 t3.2.1.1 t3.2.1.2.1 t3.2.1.2.2.1 t3.2.1.2.2.2 x1.2.2.1 t3.2.2.2.1 t3.2.2.2.2.1 t3.2.2.2.2.2 t4))) else (if (x4.1==2)=true then ((fe1_.f k x1 x4.2.1 x4.2.2.2.2.2).bind fun t5=>((fa4_.f k x2 x4.2.1 x4.2.2.2.2.2).bind fun t6=>(fg1_.j1 true x3 x1.1 t5.2.1.1 t5.2.1.2.1 t5.2.1.2.2.1 t5.2.1.2.2.2 x1.2.2.1 t5.2.2.2.1 t5.2.2.2.2.1 t5.2.2.2.2.2 t6))) else (if (x4.1==3)=true then ((fg9_.f k x1 x4.2.1).bind fun t7=>((fb5_.f k x2 x4.2.1).bind fun t8=>(fg1_.j1 true x3 x1.1 t7.2.1.1 t7.2.1.2.1 t7.2.1.2.2.1 t7.2.1.2.2.2 x1.2.2.1 t7.2.2.2.1 t7.2.2.2.2.1 t7.2.2.2.2.2 t8))) else (if (x4.1==4)=true then ((fh3_.f k x1 x4.2.1 x4.2.2.1 x4.2.2.2.1).bind fun t9=>((fd2_.f k x2 x4.2.1 x4.2.2.1 x4.2.2.2.1).bind fun t10=>(fg1_.j1 true x3 x1.1 t9.2.1.1 t9.2.1.2.1 t9.2.1.2.2.1 t9.2.1.2.2.2 x1.2.2.1 t9.2.2.2.1 t9.2.2.2.2.1 t9.2.2.2.2.2 t10))) else (if (x4.1==5)=true then ((fb3_.f k x2 x4.2.1).bind fun t11=>((ff6_.f k x1 x4.2.1).bind fun t12=>(fg1_.j1 (t12.1==t11.1) x3 x1.1 t12.2.2.1.1 t12.2.2.1.2.1 t12.2.2.1.2.2.1 t12.2.2.1.2.2.2 x1.2.2.1 t12.2.2.2.2.1 t12.2.2.2.2.2.1 t12.2.2.2.2.2.2 t11.2))) else (if (x4.1==6)=true then ((fa1_.f k x2 x4.2.1 x4.2.2.1).bind fun t13=>((fc6_.f k x1 x4.2.1 x4.2.2.1).bind fun t14=>(fg1_.j1 (t14.1==t13.1) x3 x1.1 t14.2.2.1.1 t14.2.2.1.2.1 t14.2.2.1.2.2.1 t14.2.2.1.2.2.2 x1.2.2.1 t14.2.2.2.2.1 t14.2.2.2.2.2.1 t14.2.2.2.2.2.2 t13.2))) else (if (x4.1==7)=true then ((fh_.f x1 (wr .i64 x4.2.2.2.2.1)).bind fun t15=>((fc7_.f x2 (wr .i64 x4.2.2.2.2.1)).bind fun t16=>(fg1_.j1 true x3 x1.1 x1.2.1.1 x1.2.1.2.1 x1.2.1.2.2.1 x1.2.1.2.2.2 t15.2.2.1 x1.2.2.2.1 t15.2.2.2.2.1 x1.2.2.2.2.2 t16))) else (if (x4.1==8)=true then ((fh2_.f x1 (x4.2.1,[x4.2.2.1,x4.2.2.2.1],x4.2.2.2.2.2)).bind fun t17=>((fc9_.f x2 (x4.2.1,[x4.2.2.1,x4.2.2.2.1],x4.2.2.2.2.2)).bind fun t18=>(fg1_.j1 true x3 x1.1 x1.2.1.1 x1.2.1.2.1 x1.2.1.2.2.1 x1.2.1.2.2.2 x1.2.2.1 t17.2.2.2.1 t17.2.2.2.2.1 x1.2.2.2.2.2 t18))) else (if (x4.1==9)=true then ((fe_.f k x1 x4.2.1).bind fun t19=>((fa6_.f k x2 x4.2.1).bind fun t20=>(fg1_.j1 true x3 x1.1 t19.2.1.1 t19.2.1.2.1 t19.2.1.2.2.1 t19.2.1.2.2.2 x1.2.2.1 t19.2.2.2.1 t19.2.2.2.2.1 t19.2.2.2.2.2 t20))) else (if (x4.1==10)=true then ((fg7_.f x1).bind fun t21=>(if ((x3).length+([[t21,(((ST37.un x2).2.2.2.2.2.2.2).length:Int)]]).length)*16≤140737488355328 then (fg1_.j1 true (x3++[[t21,(((ST37.un x2).2.2.2.2.2.2.2).length:Int)]]) x1.1 x1.2.1.1 x1.2.1.2.1 x1.2.1.2.2.1 x1.2.1.2.2.2 x1.2.2.1 x1.2.2.2.1 x1.2.2.2.2.1 x1.2.2.2.2.2 x2) else none)) else (if (decide (0<((x3).length:Int)))=true then (if (wr .u64 ((x3).length:Int))≠0 then (if (0:Int)≤(wr .i64 (Int.tmod x4.2.2.2.2.1 (wr .u64 ((x3).length:Int))))∧(wr .i64 (Int.tmod x4.2.2.2.2.1 (wr .u64 ((x3).length:Int))))<((x3).length:Int) then ((fg8_.f k x1 (rd (gt x3 (wr .i64 (Int.tmod x4.2.2.2.2.1 (wr .u64 ((x3).length:Int))))) 0)).bind fun t22=>((fc4_.f x2 (rd (gt x3 (wr .i64 (Int.tmod x4.2.2.2.2.1 (wr .u64 ((x3).length:Int))))) 1)).bind fun t23=>(if (0:Int)≤(wr .i64 ((wr .i64 (Int.tmod x4.2.2.2.2.1 (wr .u64 ((x3).length:Int))))+1))∧(wr .i64 ((wr .i64 (Int.tmod x4.2.2.2.2.1 (wr .u64 ((x3).length:Int))))+1))≤((x3).length:Int) then (fg1_.j1 true (x3.take (Int.toNat (wr .i64 ((wr .i64 (Int.tmod x4.2.2.2.2.1 (wr .u64 ((x3).length:Int))))+1)))) t22.1 t22.2.1.1 t22.2.1.2.1 t22.2.1.2.2.1 t22.2.1.2.2.2 t22.2.2.1 t22.2.2.2.1 t22.2.2.2.2.1 t22.2.2.2.2.2 t23) else none))) else none) else none) else (fg1_.j1 true x3 x1.1 x1.2.1.1 x1.2.1.2.1 x1.2.1.2.2.1 x1.2.1.2.2.2 x1.2.2.1 x1.2.2.2.1 x1.2.2.2.2.1 x1.2.2.2.2.2 x2))))))))))))
theorem fg1_.ok (k:Nat):fg1_.Ctr (fg1_.f k):=by
 intro x1 x2 x3 x4 ch_0 ch_1_0 ch_2_0 ch_2_1 ch_2_2 ch_3_0 ch_3_1 r h0 mi w0 ok hm
 delta fg1_.f at h0
 refine c_enterZ (n:=205) ok hm func12 rfl rfl rfl fun b0 hb a S=>c_region (s_box S rfl rfl rfl fun g1 a w S=>s_box S rfl rfl rfl fun g2 a w S=>s_as1 S rfl fun a S=>s_alloc S Z37 rfl ⟨rfl,rfl,rfl,rfl,rfl,rfl,rfl,rfl,tv⟩ rfl fun g3 a w S=>s_as1 S rfl fun a S=>c_end (c_region (s_as1 S rfl fun a S=>c_end (wp_seq_k fun K1 hK1=>?_))))
 have j1:∀ (m:Mem) (y1:Bool) (g9:Nat) (g10:Nat) (A1:Option Addr) (nn1:Nat) (cp1:Nat) (y2:List (List Int)) (A2:Option Addr) (cp2:Nat) (y3:List L71) (g11:Nat) (y4:List ((List Int)×Option Nat)) (G1:List Nat) (G2:List Nat) (G3:List Nat) (y5:List L110) (y6:List (List ((List Int)×(List Int)))) (y7:List (List ((List Int)×Bool))) (y8:Int) (A3:Option Addr) (nn2:Nat) (cp3:Nat) (y9:List L100) (A4:Option Addr) (nn3:Nat) (cp4:Nat) (y10:List Clo) (A5:Option Addr) (nn4:Nat) (cp5:Nat) (y11:List (List Int)) (y12:ST37) (cc1:(Option Addr×Nat)×(Option Addr×Nat)×(Option Addr×Nat)×(Option Addr×Nat)×Unit×(Option Addr×Nat)×Unit×(Option Addr×Nat)) (a:Act) (w:World),St 205 m b0 [(11,(.b y1)),(9,(.p g9)),(5,(.p g10)),(2,(.s A1 nn1 cp1))] (MS1 (y3,(y4,y5,y6,y7),y8,y9,y10,y11) (ch_0.1,A2,cp2,g11,G1,G2,G3,A3,nn2,cp3,A4,nn3,cp4,A5,nn4,cp5)++[Res.cells g9 37 [.s none 0 0, .s none 0 0, .s none 0 0, .s none 0 0, .i 0, .s none 0 0, .b false, .s none 0 0],Res.cells g10 37 (SY37.segs y12 cc1),Res.row (Ty.arr .i64 2) 103 A1 nn1 cp1 y2]) a w→fg1_.j1 y1 y2 y3 y4 y5 y6 y7 y8 y9 y10 y11 y12=some r→K1 a w:=by
  intro m y1 g9 g10 A1 nn1 cp1 y2 A2 cp2 y3 g11 y4 G1 G2 G3 y5 y6 y7 y8 A3 nn2 cp3 y9 A4 nn3 cp4 y10 A5 nn4 cp5 y11 y12 cc1 a w S h0
  delta fg1_.j1 at h0
  refine hK1 a w ?_
  refine wp_seq (c_hS S (.take 0 (.take 1 (.take 3 (.pure 2 (.alts (.run 4 false (.alts (.run 5 false .done .nil)) .nil)))))) 4 (.c9 .n) ⟨Res.stay_cells,tv⟩ [(11,(.b y1)),(5,(.p g10))] rfl (by kernel_rfl) ?_); clear S; intro w S CL hw le
  refine h_mv1 S CL hw le rfl tv fun a S CL=>h_loada S CL hw le (subR rfl) rfl .h T37 (s':=(SY37.segs y12 cc1)) rfl rfl rfl tv fun a S CL=>h_assign S CL hw le (subR rfl) rfl rfl rfl tv fun a S CL=>p_move S rfl rfl rfl tv fun a S=>h_run' S rfl tv (s_store S rfl rfl rfl (s':=(SY37.segs y12 cc1)) .h8 T37 rfl rfl fun w S=>?_)
  refine h_back ⟨fun h=>(nomatch h),?_⟩
  refine h_run' S rfl tv (s_as1 S rfl fun a S=>?_)
  refine h_back ⟨fun h=>(nomatch h),?_⟩
  refine h_done ?_; clear CL hw le
  refine x_thenN (wp_ret ?_)
  obtain rfl:=sI h0
  exact b_retN S [(.b y1),(.agg (SY37.segs y12 cc1)),(.s A1 nn1 cp1)] rfl rfl ⟨rfl,(resD_cell rfl .h8 T37 rfl rfl),rfl,tv⟩ fun ⟨ok1,ok2,ok3,_⟩=>S.retX (Hx:=[]) hb _ _ ((cc1,A1,nn1,cp1,A2,cp2,g11,G1,G2,G3,A3,nn2,cp3,A4,nn3,cp4,A5,nn4,cp5):W28) (.c10 (.c0 (.c0 (.c0 (.c0 (.c0 (.c0 (.c0 (.c0 .n))))))))) ⟨⟨ok1,tv⟩,ok2,⟨ok3,tv⟩,tv⟩
 refine c_region (s_fieldAddr S rfl I46_0 T3 (by decide) rfl rfl fun a S=>s_load1 S rfl .h1 T3 (v:=(.int .i64 x4.1)) rfl rfl fun a S=>c_end (wp_block (c_region (s_bi S rfl fun a S=>s_as1 S rfl fun a S=>c_end ?_))))
 rcases ite_of h0 with ⟨c1,h1⟩ | ⟨c1,h1⟩
 ·refine c_condT S rfl c1 (c_region (s_mv1 S rfl fun a S=>s_fieldAddr S rfl I46_1 T40 (by decide) rfl rfl fun a S=>s_loada S rfl .h1 T40 (s':=[.b20 x4.2.1]) rfl rfl fun a S=>s_fieldAddr S rfl I46_4 T41 (by decide) rfl rfl fun a S=>s_load1 S rfl .h1 T41 (v:=(.int .u64 x4.e5)) rfl rfl fun a S=>bindX h1 fun t1 et1 h2=>s_callK S (fd5_.ok k (ch_0:=ch_0) et1) N35 rfl (.sk (.sk (.sk .pre))) (fun _=> .c8) rfl fun ch1 m le1 a w S=>c_end (c_region' (s_loada S rfl .h10 T37 (s':=(SY37.segs x2 ch_1_0)) rfl rfl fun a S=>s_fieldAddr S rfl I46_1 T40 (by decide) rfl rfl fun a S=>s_loada S rfl .h9 T40 (s':=[.b20 x4.2.1]) rfl rfl fun a S=>s_fieldAddr S rfl I46_4 T41 (by decide) rfl rfl fun a S=>s_load1 S rfl .h9 T41 (v:=(.int .u64 x4.e5)) rfl rfl fun a S=>bindX h2 fun t2 et2 h3=>s_callK S (fa3_.ok k (ch_0_0:=ch_1_0) et2) N36 rfl .pre (fun _=> .n) rfl fun ch2 m le1 a w S=>s_store S rfl rfl rfl (s':=(SY37.segs t2 ch2)) .h10 T37 rfl rfl fun w S=>c_end' (x_blockN (x_thenN ?_))))))
  exact j1 _ true g3 g1 ch_2_0 ch_2_1 ch_2_2 x3 ch_0.2.1 ch_0.e3 x1.1 ch1.1 t1.2.1.1 ch1.2.1 ch1.e3 ch1.e4 t1.2.1.2.1 t1.2.1.e3 t1.2.1.t3 x1.e3 ch1.e5 ch1.e6 ch1.e7 t1.e4 ch1.e8 ch1.e9 ch1.e10 t1.e5 ch1.e11 ch1.e12 ch1.t12 t1.t5 t2 ch2 a w (S.sb rfl (.c0 (.c0 (.c0 (.c0 (.c0 (.c0 (.c0 (.c0 (.c0 (.c1 (.c1 .n)))))))))))) h3
 ·refine c_condF S rfl c1 (c_region (s_bi S rfl fun a S=>s_as1 S rfl fun a S=>c_end ?_))
  rcases ite_of h1 with ⟨c2,h2⟩ | ⟨c2,h2⟩
  ·refine c_condT S rfl c2 (c_region (s_mv1 S rfl fun a S=>s_fieldAddr S rfl I46_1 T40 (by decide) rfl rfl fun a S=>s_loada S rfl .h1 T40 (s':=[.b20 x4.2.1]) rfl rfl fun a S=>s_fieldAddr S rfl I46_3 T43 (by decide) rfl rfl fun a S=>s_loada S rfl .h1 T43 (s':=[.w4 x4.e4]) rfl rfl fun a S=>bindX h2 fun t3 et3 h3=>s_callK S (fc3_.ok k (ch_0:=ch_0) et3) N37 rfl (.sk (.sk (.sk .pre))) (fun _=> .c8) rfl fun ch3 m le1 a w S=>c_end (c_region' (s_loada S rfl .h10 T37 (s':=(SY37.segs x2 ch_1_0)) rfl rfl fun a S=>s_fieldAddr S rfl I46_1 T40 (by decide) rfl rfl fun a S=>s_loada S rfl .h9 T40 (s':=[.b20 x4.2.1]) rfl rfl fun a S=>s_fieldAddr S rfl I46_3 T43 (by decide) rfl rfl fun a S=>s_loada S rfl .h9 T43 (s':=[.w4 x4.e4]) rfl rfl fun a S=>bindX h3 fun t4 et4 h4=>s_callK S (fa0_.ok k (ch_0_0:=ch_1_0) et4) N38 rfl .pre (fun _=> .n) rfl fun ch4 m le1 a w S=>s_store S rfl rfl rfl (s':=(SY37.segs t4 ch4)) .h10 T37 rfl rfl fun w S=>c_end' (x_blockN (x_thenN ?_))))))
   exact j1 _ true g3 g1 ch_2_0 ch_2_1 ch_2_2 x3 ch_0.2.1 ch_0.e3 x1.1 ch3.1 t3.2.1.1 ch3.2.1 ch3.e3 ch3.e4 t3.2.1.2.1 t3.2.1.e3 t3.2.1.t3 x1.e3 ch3.e5 ch3.e6 ch3.e7 t3.e4 ch3.e8 ch3.e9 ch3.e10 t3.e5 ch3.e11 ch3.e12 ch3.t12 t3.t5 t4 ch4 a w (S.sb rfl (.c0 (.c0 (.c0 (.c0 (.c0 (.c0 (.c0 (.c0 (.c0 (.c1 (.c1 .n)))))))))))) h4
  ·refine c_condF S rfl c2 (c_region (s_bi S rfl fun a S=>s_as1 S rfl fun a S=>c_end ?_))
   rcases ite_of h2 with ⟨c3,h3⟩ | ⟨c3,h3⟩
   ·refine c_condT S rfl c3 (c_region (s_mv1 S rfl fun a S=>s_fieldAddr S rfl I46_1 T40 (by decide) rfl rfl fun a S=>s_loada S rfl .h1 T40 (s':=[.b20 x4.2.1]) rfl rfl fun a S=>s_fieldAddr S rfl I46_5 T44 (by decide) rfl rfl fun a S=>s_loadSl S rfl .h1 T44 (A:=ch_3_0) (len:=(x4.t5).length) (cap:=ch_3_1) rfl rfl fun a S=>bindX h3 fun t5 et5 h4=>s_callK S (fe1_.ok k (ch_0:=ch_0) et5) N39 rfl (.sk (.sk (.sk .pre))) (fun _=> .c8) rfl fun ch5 m le1 a w S=>c_end (c_region' (s_loada S rfl .h10 T37 (s':=(SY37.segs x2 ch_1_0)) rfl rfl fun a S=>s_fieldAddr S rfl I46_1 T40 (by decide) rfl rfl fun a S=>s_loada S rfl .h9 T40 (s':=[.b20 x4.2.1]) rfl rfl fun a S=>s_fieldAddr S rfl I46_5 T44 (by decide) rfl rfl fun a S=>s_loadSl S rfl .h9 T44 (A:=ch_3_0) (len:=(x4.t5).length) (cap:=ch_3_1) rfl rfl fun a S=>bindX h4 fun t6 et6 h5=>s_callK S (fa4_.ok k (ch_0_0:=ch_1_0) et6) N40 rfl .pre (fun _=> .n) rfl fun ch6 m le1 a w S=>s_store S rfl rfl rfl (s':=(SY37.segs t6 ch6)) .h10 T37 rfl rfl fun w S=>c_end' (x_blockN (x_thenN ?_))))))
    exact j1 _ true g3 g1 ch_2_0 ch_2_1 ch_2_2 x3 ch_0.2.1 ch_0.e3 x1.1 ch5.1 t5.2.1.1 ch5.2.1 ch5.e3 ch5.e4 t5.2.1.2.1 t5.2.1.e3 t5.2.1.t3 x1.e3 ch5.e5 ch5.e6 ch5.e7 t5.e4 ch5.e8 ch5.e9 ch5.e10 t5.e5 ch5.e11 ch5.e12 ch5.t12 t5.t5 t6 ch6 a w (S.sb rfl (.c0 (.c0 (.c0 (.c0 (.c0 (.c0 (.c0 (.c0 (.c0 (.c1 (.c1 .n)))))))))))) h5
   ·refine c_condF S rfl c3 (c_region (s_bi S rfl fun a S=>s_as1 S rfl fun a S=>c_end ?_))
    rcases ite_of h3 with ⟨c4,h4⟩ | ⟨c4,h4⟩
    ·refine c_condT S rfl c4 (c_region (s_mv1 S rfl fun a S=>s_fieldAddr S rfl I46_1 T40 (by decide) rfl rfl fun a S=>s_loada S rfl .h1 T40 (s':=[.b20 x4.2.1]) rfl rfl fun a S=>bindX h4 fun t7 et7 h5=>s_callK S (fg9_.ok k (ch_0:=ch_0) et7) N41 rfl (.sk (.sk (.sk .pre))) (fun _=> .c8) rfl fun ch7 m le1 a w S=>c_end (c_region' (s_loada S rfl .h10 T37 (s':=(SY37.segs x2 ch_1_0)) rfl rfl fun a S=>s_fieldAddr S rfl I46_1 T40 (by decide) rfl rfl fun a S=>s_loada S rfl .h9 T40 (s':=[.b20 x4.2.1]) rfl rfl fun a S=>bindX h5 fun t8 et8 h6=>s_callK S (fb5_.ok k (ch_0_0:=ch_1_0) et8) N42 rfl .pre (fun _=> .n) rfl fun ch8 m le1 a w S=>s_store S rfl rfl rfl (s':=(SY37.segs t8 ch8)) .h10 T37 rfl rfl fun w S=>c_end' (x_blockN (x_thenN ?_))))))
     exact j1 _ true g3 g1 ch_2_0 ch_2_1 ch_2_2 x3 ch_0.2.1 ch_0.e3 x1.1 ch7.1 t7.2.1.1 ch7.2.1 ch7.e3 ch7.e4 t7.2.1.2.1 t7.2.1.e3 t7.2.1.t3 x1.e3 ch7.e5 ch7.e6 ch7.e7 t7.e4 ch7.e8 ch7.e9 ch7.e10 t7.e5 ch7.e11 ch7.e12 ch7.t12 t7.t5 t8 ch8 a w (S.sb rfl (.c0 (.c0 (.c0 (.c0 (.c0 (.c0 (.c0 (.c0 (.c0 (.c1 (.c1 .n)))))))))))) h6
    ·refine c_condF S rfl c4 (c_region (s_bi S rfl fun a S=>s_as1 S rfl fun a S=>c_end ?_))
     rcases ite_of h4 with ⟨c5,h5⟩ | ⟨c5,h5⟩
     ·refine c_condT S rfl c5 (c_region (s_mv1 S rfl fun a S=>s_fieldAddr S rfl I46_1 T40 (by decide) rfl rfl fun a S=>s_loada S rfl .h1 T40 (s':=[.b20 x4.2.1]) rfl rfl fun a S=>s_fieldAddr S rfl I46_2 T43 (by decide) rfl rfl fun a S=>s_loada S rfl .h1 T43 (s':=[.w4 x4.e3]) rfl rfl fun a S=>s_fieldAddr S rfl I46_3 T43 (by decide) rfl rfl fun a S=>s_loada S rfl .h1 T43 (s':=[.w4 x4.e4]) rfl rfl fun a S=>bindX h5 fun t9 et9 h6=>s_callK S (fh3_.ok k (ch_0:=ch_0) et9) N32 rfl (.sk (.sk (.sk .pre))) (fun _=> .c8) rfl fun ch9 m le1 a w S=>c_end (c_region' (s_loada S rfl .h10 T37 (s':=(SY37.segs x2 ch_1_0)) rfl rfl fun a S=>s_fieldAddr S rfl I46_1 T40 (by decide) rfl rfl fun a S=>s_loada S rfl .h9 T40 (s':=[.b20 x4.2.1]) rfl rfl fun a S=>s_fieldAddr S rfl I46_2 T43 (by decide) rfl rfl fun a S=>s_loada S rfl .h9 T43 (s':=[.w4 x4.e3]) rfl rfl fun a S=>s_fieldAddr S rfl I46_3 T43 (by decide) rfl rfl fun a S=>s_loada S rfl .h9 T43 (s':=[.w4 x4.e4]) rfl rfl fun a S=>bindX h6 fun t10 et10 h7=>s_callK S (fd2_.ok k (ch_0_0:=ch_1_0) et10) N43 rfl .pre (fun _=> .n) rfl fun ch10 m le1 a w S=>s_store S rfl rfl rfl (s':=(SY37.segs t10 ch10)) .h10 T37 rfl rfl fun w S=>c_end' (x_blockN (x_thenN ?_))))))
      exact j1 _ true g3 g1 ch_2_0 ch_2_1 ch_2_2 x3 ch_0.2.1 ch_0.e3 x1.1 ch9.1 t9.2.1.1 ch9.2.1 ch9.e3 ch9.e4 t9.2.1.2.1 t9.2.1.e3 t9.2.1.t3 x1.e3 ch9.e5 ch9.e6 ch9.e7 t9.e4 ch9.e8 ch9.e9 ch9.e10 t9.e5 ch9.e11 ch9.e12 ch9.t12 t9.t5 t10 ch10 a w (S.sb rfl (.c0 (.c0 (.c0 (.c0 (.c0 (.c0 (.c0 (.c0 (.c0 (.c1 (.c1 .n)))))))))))) h7
     ·refine c_condF S rfl c5 (c_region (s_bi S rfl fun a S=>s_as1 S rfl fun a S=>c_end ?_))
      rcases ite_of h5 with ⟨c6,h6⟩ | ⟨c6,h6⟩
      ·refine c_condT S rfl c6 (c_region (s_as1 S rfl fun a S=>c_end (c_region (s_loada S rfl .h2 T37 (s':=(SY37.segs x2 ch_1_0)) rfl rfl fun a S=>s_fieldAddr S rfl I46_1 T40 (by decide) rfl rfl fun a S=>s_loada S rfl .h1 T40 (s':=[.b20 x4.2.1]) rfl rfl fun a S=>bindX h6 fun t11 et11 h7=>s_callK S (fb3_.ok k (ch_0_0:=ch_1_0) et11) N44 rfl .pre (fun _=> .n) rfl fun ch11 m le1 a w S=>s_mv1 S rfl fun a S=>s_extract S rfl rfl rfl rfl fun a S=>s_extract S rfl rfl rfl rfl fun a S=>s_as1 S rfl fun a S=>s_store S rfl rfl rfl (s':=(SY37.segs t11.2 ch11)) .h2 T37 rfl rfl fun w S=>c_end (c_region' (s_mv1 S rfl fun a S=>s_fieldAddr S rfl I46_1 T40 (by decide) rfl rfl fun a S=>s_loada S rfl .h1 T40 (s':=[.b20 x4.2.1]) rfl rfl fun a S=>bindX h7 fun t12 et12 h8=>s_callK S (ff6_.ok k (ch_0:=ch_0) et12) N28 rfl (.sk (.sk (.sk .pre))) (fun _=> .c8) rfl fun ch12 m le1 a w S=>s_mv1 S rfl fun a S=>s_eqb S rfl rfl underlying4 rfl fun a S=>s_as1 S rfl fun a S=>c_end' (x_blockN (x_thenN ?_))))))))
       exact j1 _ (t12.1==t11.1) g3 g1 ch_2_0 ch_2_1 ch_2_2 x3 ch_0.2.1 ch_0.e3 x1.1 ch12.1 t12.e3.1 ch12.2.1 ch12.e3 ch12.e4 t12.e3.2.1 t12.e3.e3 t12.e3.t3 x1.e3 ch12.e5 ch12.e6 ch12.e7 t12.e5 ch12.e8 ch12.e9 ch12.e10 t12.e6 ch12.e11 ch12.e12 ch12.t12 t12.t6 t11.2 ch11 a w (S.sb rfl (.c0 (.c0 (.c0 (.c0 (.c0 (.c0 (.c0 (.c0 (.c0 (.c1 (.c1 .n)))))))))))) h8
      ·refine c_condF S rfl c6 (c_region (s_bi S rfl fun a S=>s_as1 S rfl fun a S=>c_end ?_))
       rcases ite_of h6 with ⟨c7,h7⟩ | ⟨c7,h7⟩
       ·refine c_condT S rfl c7 (c_region (s_as1 S rfl fun a S=>c_end (c_region (s_loada S rfl .h2 T37 (s':=(SY37.segs x2 ch_1_0)) rfl rfl fun a S=>s_fieldAddr S rfl I46_1 T40 (by decide) rfl rfl fun a S=>s_loada S rfl .h1 T40 (s':=[.b20 x4.2.1]) rfl rfl fun a S=>s_fieldAddr S rfl I46_2 T43 (by decide) rfl rfl fun a S=>s_loada S rfl .h1 T43 (s':=[.w4 x4.e3]) rfl rfl fun a S=>bindX h7 fun t13 et13 h8=>s_callK S (fa1_.ok k (ch_0_0:=ch_1_0) et13) N45 rfl .pre (fun _=> .n) rfl fun ch13 m le1 a w S=>s_mv1 S rfl fun a S=>s_extract S rfl rfl rfl rfl fun a S=>s_extract S rfl rfl rfl rfl fun a S=>s_as1 S rfl fun a S=>s_store S rfl rfl rfl (s':=(SY37.segs t13.2 ch13)) .h2 T37 rfl rfl fun w S=>c_end (c_region' (s_mv1 S rfl fun a S=>s_fieldAddr S rfl I46_1 T40 (by decide) rfl rfl fun a S=>s_loada S rfl .h1 T40 (s':=[.b20 x4.2.1]) rfl rfl fun a S=>s_fieldAddr S rfl I46_2 T43 (by decide) rfl rfl fun a S=>s_loada S rfl .h1 T43 (s':=[.w4 x4.e3]) rfl rfl fun a S=>bindX h8 fun t14 et14 h9=>s_callK S (fc6_.ok k (ch_0:=ch_0) et14) N29 rfl (.sk (.sk (.sk .pre))) (fun _=> .c8) rfl fun ch14 m le1 a w S=>s_mv1 S rfl fun a S=>s_eqb S rfl rfl underlying4 rfl fun a S=>s_as1 S rfl fun a S=>c_end' (x_blockN (x_thenN ?_))))))))
        exact j1 _ (t14.1==t13.1) g3 g1 ch_2_0 ch_2_1 ch_2_2 x3 ch_0.2.1 ch_0.e3 x1.1 ch14.1 t14.e3.1 ch14.2.1 ch14.e3 ch14.e4 t14.e3.2.1 t14.e3.e3 t14.e3.t3 x1.e3 ch14.e5 ch14.e6 ch14.e7 t14.e5 ch14.e8 ch14.e9 ch14.e10 t14.e6 ch14.e11 ch14.e12 ch14.t12 t14.t6 t13.2 ch13 a w (S.sb rfl (.c0 (.c0 (.c0 (.c0 (.c0 (.c0 (.c0 (.c0 (.c0 (.c1 (.c1 .n)))))))))))) h9
       ·refine c_condF S rfl c7 (c_region (s_bi S rfl fun a S=>s_as1 S rfl fun a S=>c_end ?_))
        rcases ite_of h7 with ⟨c8,h8⟩ | ⟨c8,h8⟩
        ·refine c_condT S rfl c8 (c_region (s_mv1 S rfl fun a S=>s_fieldAddr S rfl I46_4 T41 (by decide) rfl rfl fun a S=>s_load1 S rfl .h1 T41 (v:=(.int .u64 x4.e5)) rfl rfl fun a S=>s_conv S rfl rfl underlying2 rfl fun a S=>bindX h8 fun t15 et15 h9=>s_callK S (fh_.ok (ch_0:=ch_0) et15) N46 rfl (.sk (.sk (.sk .pre))) (fun _=> .c8) rfl fun ch15 m le1 a w S=>c_end (c_region' (s_loada S rfl .h10 T37 (s':=(SY37.segs x2 ch_1_0)) rfl rfl fun a S=>s_fieldAddr S rfl I46_4 T41 (by decide) rfl rfl fun a S=>s_load1 S rfl .h9 T41 (v:=(.int .u64 x4.e5)) rfl rfl fun a S=>s_conv S rfl rfl underlying2 rfl fun a S=>bindX h9 fun t16 et16 h10=>s_callK S (fc7_.ok (ch_0_0:=ch_1_0) et16) N47 rfl .pre (fun _=> .n) rfl fun ch16 m le1 a w S=>s_store S rfl rfl rfl (s':=(SY37.segs t16 ch16)) .h10 T37 rfl rfl fun w S=>c_end' (x_blockN (x_thenN ?_))))))
         exact j1 _ true g3 g1 ch_2_0 ch_2_1 ch_2_2 x3 ch_0.2.1 ch_0.e3 x1.1 ch_0.e4 x1.2.1.1 ch_0.e5 ch_0.e6 ch_0.e7 x1.2.1.2.1 x1.2.1.e3 x1.2.1.t3 t15.e3 ch_0.e8 ch_0.e9 ch_0.e10 x1.e4 ch15.1 ch15.2.1 ch15.t2 t15.e5 ch_0.e14 ch_0.e15 ch_0.t15 x1.t5 t16 ch16 a w (S.sb rfl (.c0 (.c0 (.c0 (.c0 (.c0 (.c0 (.c0 (.c0 (.c0 (.c1 (.c1 .n)))))))))))) h10
        ·refine c_condF S rfl c8 (c_region (s_bi S rfl fun a S=>s_as1 S rfl fun a S=>c_end ?_))
         rcases ite_of h8 with ⟨c9,h9⟩ | ⟨c9,h9⟩
         ·refine c_condT S rfl c9 (c_region (s_fieldAddr S rfl I46_1 T40 (by decide) rfl rfl fun a S=>s_loada S rfl .h1 T40 (s':=[.b20 x4.2.1]) rfl rfl fun a S=>s_fieldAddr S rfl I46_2 T43 (by decide) rfl rfl fun a S=>s_loada S rfl .h1 T43 (s':=[.w4 x4.e3]) rfl rfl fun a S=>s_fieldAddr S rfl I46_3 T43 (by decide) rfl rfl fun a S=>s_loada S rfl .h1 T43 (s':=[.w4 x4.e4]) rfl rfl fun a S=>s_bldSl S (ty':=(Ty.arr .u64 4)) (ds:=[(0,(.a4 x4.e3)),(1,(.a4 x4.e4))]) (z:=[0,0,0,0]) (c0:=()) (ys:=[x4.e3,x4.e4]) (cs:=[(),()]) rfl underlying98 J43 Z43 rfl ⟨rfl,tv⟩ rfl rfl rfl rfl rfl rfl fun g12 a w S=>s_fieldAddr S rfl I46_5 T44 (by decide) rfl rfl fun a S=>s_loadSl S rfl .h2 T44 (A:=ch_3_0) (len:=(x4.t5).length) (cap:=ch_3_1) rfl rfl fun a S=>s_bldS S (ds:=[(0,(.agg [.b20 x4.2.1])),(1,(.s (ad g12) 2 2)),(2,(.q yb ch_3_0 ch_3_1 x4.t5))]) (zs:=[.b20 z20, .s none 0 0, .s none 0 0]) (s':=[.b20 x4.2.1, .s (ad g12) 2 2, .q yb ch_3_0 ch_3_1 x4.t5]) rfl underlying100 P100 Z100 ⟨rfl,rfl,rfl,tv⟩ rfl rfl fun a S=>s_alloc S Z100 rfl ⟨rfl,rfl,rfl,tv⟩ rfl fun g13 a w S=>s_store S rfl rfl rfl (s':=[.b20 x4.2.1, .s (ad g12) 2 2, .q yb ch_3_0 ch_3_1 x4.t5]) .h T100 rfl rfl fun w S=>c_end (c_region (s_mv1 S rfl fun a S=>s_loada S rfl .h T100 (s':=[.b20 x4.2.1, .s (ad g12) 2 2, .q yb ch_3_0 ch_3_1 x4.t5]) rfl rfl fun a S=>?_))))
          replace S:=S.rowfro .h1
          obtain ⟨m,le1,S,hro⟩:=S
          replace S:=S.slotF 176 1 rfl rfl hro
          replace S:=S.slotF 174 1 rfl rfl hro
          replace S:=S.slotro (u:=171) rfl hro
          replace S:=S.cellF 1 .h rfl hro
          refine bindX h9 fun t17 et17 h10=>s_callK S (fh2_.ok (ch_0:=ch_0) et17) N48 rfl (.sk (.sk (.sk (.sk .pre)))) (fun _=> .c8) rfl fun ch17 m le1 a w S=>c_end (c_region' (s_loada S rfl .h11 T37 (s':=(SY37.segs x2 ch_1_0)) rfl rfl fun a S=>s_loada S rfl .h8 T100 (s':=[.b20 x4.2.1, .q (Ty.arr .u64 4) (ad g12) 2 [x4.e3,x4.e4], .q yb ch_3_0 ch_3_1 x4.t5]) rfl rfl fun a S=>bindX h10 fun t18 et18 h11=>s_callK S (fc9_.ok (ch_0_0:=ch_1_0) et18) N49 rfl .pre (fun _=> .n) rfl fun ch18 m le1 a w S=>s_store S rfl rfl rfl (s':=(SY37.segs t18 ch18)) .h11 T37 rfl rfl fun w S=>c_end' (x_blockN (x_thenN ?_))))
          exact j1 _ true g3 g1 ch_2_0 ch_2_1 ch_2_2 x3 ch_0.2.1 ch_0.e3 x1.1 ch_0.e4 x1.2.1.1 ch_0.e5 ch_0.e6 ch_0.e7 x1.2.1.2.1 x1.2.1.e3 x1.2.1.t3 x1.e3 ch17.1 ch17.2.1 ch17.e3 t17.e4 ch17.e4 ch17.e5 ch17.t5 t17.e5 ch_0.e14 ch_0.e15 ch_0.t15 x1.t5 t18 ch18 a w (S.sb rfl (.c0 (.c0 (.c0 (.c0 (.c0 (.c0 (.c0 (.c0 (.c1 (.c2 (.c2 .n)))))))))))) h11
         ·refine c_condF S rfl c9 (c_region (s_bi S rfl fun a S=>s_as1 S rfl fun a S=>c_end ?_))
          rcases ite_of h9 with ⟨c10,h10⟩ | ⟨c10,h10⟩
          ·refine c_condT S rfl c10 (c_region (s_mv1 S rfl fun a S=>s_fieldAddr S rfl I46_1 T40 (by decide) rfl rfl fun a S=>s_loada S rfl .h1 T40 (s':=[.b20 x4.2.1]) rfl rfl fun a S=>bindX h10 fun t19 et19 h11=>s_callK S (fe_.ok k (ch_0:=ch_0) et19) N50 rfl (.sk (.sk (.sk .pre))) (fun _=> .c8) rfl fun ch19 m le1 a w S=>c_end (c_region' (s_loada S rfl .h10 T37 (s':=(SY37.segs x2 ch_1_0)) rfl rfl fun a S=>s_fieldAddr S rfl I46_1 T40 (by decide) rfl rfl fun a S=>s_loada S rfl .h9 T40 (s':=[.b20 x4.2.1]) rfl rfl fun a S=>bindX h11 fun t20 et20 h12=>s_callK S (fa6_.ok k (ch_0_0:=ch_1_0) et20) N51 rfl .pre (fun _=> .n) rfl fun ch20 m le1 a w S=>s_store S rfl rfl rfl (s':=(SY37.segs t20 ch20)) .h10 T37 rfl rfl fun w S=>c_end' (x_blockN (x_thenN ?_))))))
           exact j1 _ true g3 g1 ch_2_0 ch_2_1 ch_2_2 x3 ch_0.2.1 ch_0.e3 x1.1 ch19.1 t19.2.1.1 ch19.2.1 ch19.e3 ch19.e4 t19.2.1.2.1 t19.2.1.e3 t19.2.1.t3 x1.e3 ch19.e5 ch19.e6 ch19.e7 t19.e4 ch19.e8 ch19.e9 ch19.e10 t19.e5 ch19.e11 ch19.e12 ch19.t12 t19.t5 t20 ch20 a w (S.sb rfl (.c0 (.c0 (.c0 (.c0 (.c0 (.c0 (.c0 (.c0 (.c0 (.c1 (.c1 .n)))))))))))) h12
          ·refine c_condF S rfl c10 (c_region (s_bi S rfl fun a S=>s_as1 S rfl fun a S=>c_end ?_))
           rcases ite_of h10 with ⟨c11,h11⟩ | ⟨c11,h11⟩
           ·refine c_condT S rfl c11 (c_hS S (.take 1 (.tk 3 3 (.pure 0 (.alts (.run 2 true (.take 6 (.alts (.run 7 true (.alts (.run 8 true (.take 9 .done) .nil)) .nil))) .nil))))) 10 (.c2 .n) ⟨Res.stay_cells,tv⟩ [(5,(.p g1)),(0,(.v (.pointer (some ⟨ch_0.1,0,none⟩))))] rfl (by kernel_rfl) fun w S CL hw le=>?_)
            refine h_mv1 S CL hw le rfl tv fun a S CL=>h_fieldAddr S CL hw le (subR rfl) rfl I37_7 T35 (by decide) rfl rfl rfl tv fun a S CL=>h_loadSl S CL hw le (subR rfl) rfl .h T35 (A:=ch_1_0.e8) (len:=((ST37.un x2).t7).length) (cap:=ch_1_0.t8) rfl rfl rfl tv fun a S CL=>h_lenS S CL hw le (subR rfl) rfl underlying35 rfl rfl tv fun a S CL=>p_move S rfl rfl rfl tv fun a S=>h_run' S rfl tv (bindX h11 fun t21 et21 h12=>s_callK S (fg7_.ok (ch_0:=ch_0) et21) N13 rfl (.sk (.sk (.sk .pre))) (fun _=> .c8) rfl fun ch21 m le1 a w S=>?_)
            replace le:=le.trans le1
            refine CL.bk hw S (.c10 .n) le fun hw=>?_
            replace CL:=CL.add (t:=195) (d:=(.i t21)) S rfl rfl
            refine h_build S CL hw le (subR rfl) (ds:=[(0,(.i t21)),(1,(.i (((ST37.un x2).t7).length:Int)))]) (dv:=(.agg [.ints .i64 [t21,(((ST37.un x2).t7).length:Int)] 2])) rfl (fun _=>by kernel_rfl) ⟨rfl,tv⟩ rfl rfl tv fun a S CL=>h_run' S rfl tv (s_bldSl S (ty':=(Ty.arr .i64 2)) (ds:=[(0,(.agg [.ints .i64 [t21,(((ST37.un x2).t7).length:Int)] 2]))]) (z:=[0,0]) (c0:=()) (ys:=[[t21,(((ST37.un x2).t7).length:Int)]]) (cs:=[()]) rfl underlying47 J103 Z103 rfl ⟨rfl,tv⟩ rfl rfl rfl rfl rfl rfl fun g14 a w S=>CL.bk hw S (.c11 .n) le fun hw=>h_run' S rfl tv ?_)
            obtain ⟨c12,h13⟩:=chk_of h12; clear h12
            refine s_app S (k2:=1) (ys:=[[t21,(((ST37.un x2).t7).length:Int)]]) rfl (fun _ _=> .h12) rfl rfl (S.holds _ (Pull.mem .h).1).1 (Res.row.src (S.holds _ (Pull.mem .h).1)) underlying47 J103 c12 rfl fun A6 cp6 a w S=>CL.bk hw S (.c11 .n) le fun hw=>?_
            replace CL:=CL.add (t:=201) (d:=(.s A6 (ch_2_1+1) cp6)) S rfl rfl
            refine h_assign S CL hw le (subR rfl) rfl rfl rfl tv fun a S CL=>?_
            refine h_done ?_; clear CL hw le
            refine x_blockN (x_thenN ?_)
            exact j1 _ true g3 g1 A6 (ch_2_1+1) cp6 (x3++[[t21,(((ST37.un x2).t7).length:Int)]]) ch_0.2.1 ch_0.e3 x1.1 ch_0.e4 x1.2.1.1 ch_0.e5 ch_0.e6 ch_0.e7 x1.2.1.2.1 x1.2.1.e3 x1.2.1.t3 x1.e3 ch_0.e8 ch_0.e9 ch_0.e10 x1.e4 ch_0.e11 ch_0.e12 ch_0.e13 x1.e5 ch_0.e14 ch_0.e15 ch_0.t15 x1.t5 x2 ch_1_0 a w (S.sb rfl (.c1 (.c1 (.c1 (.c1 (.c1 (.c1 (.c1 (.c1 (.c1 (.c2 (.c2 .n)))))))))))) h13
           ·refine c_condF S rfl c11 (c_region (s_mv1 S rfl fun a S=>s_lenO S rfl .h11 underlying47 rfl fun a S=>s_as1 S rfl fun a S=>c_end (c_region (s_mv1 S rfl fun a S=>s_bi S rfl fun a S=>c_end ?_))))
            rcases ite_of h11 with ⟨c13,h12⟩ | ⟨c13,h12⟩
            ·refine c_condT S rfl c13 (c_region (s_fieldAddr S rfl I46_4 T41 (by decide) rfl rfl fun a S=>s_load1 S rfl .h1 T41 (v:=(.int .u64 x4.e5)) rfl rfl fun a S=>s_mv1 S rfl fun a S=>s_conv S rfl rfl underlying41 rfl fun a S=>?_))
             obtain ⟨c14,h13⟩:=chk_of h12; clear h12
             refine s_rem S rfl rfl c14 rfl fun a S=>s_conv S rfl rfl underlying3 rfl fun a S=>s_as1 S rfl fun a S=>c_end (c_region (s_mv3 S rfl fun a S=>?_))
             obtain ⟨c15,h14⟩:=chk_of h13; clear h13
             refine s_iaddrO S (ty':=(Ty.arr .i64 2)) rfl .h11 rfl underlying47 T103 c15.1 c15.2 rfl fun g15 a hA1 S=>s_iaddr S (o':=Int.toNat (wr .i64 (Int.tmod x4.e5 (wr .u64 ((x3).length:Int))))*((Ty.arr .i64 2)).size+0) rfl rfl underlying103 T3 (by decide) (by decide) rfl rfl fun a S=>s_ldRi S (ty':=(Ty.arr .i64 2)) (i:=(wr .i64 (Int.tmod x4.e5 (wr .u64 ((x3).length:Int))))) (off:=0) (j:=0) rfl hA1 .h11 T3 c15.1 c15.2 rfl (fun _=>⟨_, .h⟩) rfl (by decide) rfl fun a S=>bindX h14 fun t22 et22 h15=>s_callK S (fg8_.ok k (ch_0:=ch_0) et22) N14 rfl (.sk (.sk (.sk .pre))) (fun _=> .c8) rfl fun ch22 m le1 a w S=>c_end ?_
             refine wp_seq (c_hS S (.tk 0 3 (.alts (.run 3 true (.take 4 (.alts (.run 5 true (.alts (.run 6 true (.alts (.run 7 false .done .nil)) .nil)) .nil))) .nil))) 7 (.c10 .n) ⟨Res.stay_cells,tv⟩ [(16,(.i (wr .i64 (Int.tmod x4.e5 (wr .u64 ((x3).length:Int)))))),(5,(.p g1)),(2,(.s ch_2_0 ch_2_1 ch_2_2))] rfl (by kernel_rfl) ?_); clear S; intro w S CL hw le
             refine h_loada S CL hw le (subR rfl) rfl .h T37 (s':=(SY37.segs x2 ch_1_0)) rfl rfl rfl tv fun a S CL=>h_mv2 S CL hw le rfl tv tv fun a S CL=>h_run' S rfl tv (s_iaddrO S (ty':=(Ty.arr .i64 2)) rfl .h11 rfl underlying47 T103 c15.1 c15.2 rfl fun g16 a hA2 S=>CL.bk hw S (.c10 .n) le fun hw=>?_)
             replace CL:=CL.add (t:=39) (d:=(.v (.pointer (some ⟨g16,Int.toNat (wr .i64 (Int.tmod x4.e5 (wr .u64 ((x3).length:Int))))*((Ty.arr .i64 2)).size,none⟩)))) S rfl rfl
             refine h_iaddr S CL hw le (subR rfl) (o':=Int.toNat (wr .i64 (Int.tmod x4.e5 (wr .u64 ((x3).length:Int))))*((Ty.arr .i64 2)).size+1) rfl rfl underlying103 T3 (by decide) (by decide) rfl rfl rfl tv fun a S CL=>h_run' S rfl tv (s_ldRi S (ty':=(Ty.arr .i64 2)) (i:=(wr .i64 (Int.tmod x4.e5 (wr .u64 ((x3).length:Int))))) (off:=1) (j:=1) rfl hA2 .h11 T3 c15.1 c15.2 rfl (fun _=>⟨_, .h⟩) rfl (by decide) rfl fun a S=>CL.bk hw S (.c10 .n) le fun hw=>h_run' S rfl tv (bindX h15 fun t23 et23 h16=>s_callK S (fc4_.ok (ch_0_0:=ch_1_0) et23) N52 rfl .pre (fun _=> .n) rfl fun ch23 m le1 a w S=>?_))
             replace le:=le.trans le1
             refine CL.bk hw S (.c10 .n) le fun hw=>h_run' S rfl tv (s_store S rfl rfl rfl (s':=(SY37.segs t23 ch23)) .h10 T37 rfl rfl fun w S=>?_)
             refine h_back ⟨fun h=>(nomatch h),?_⟩
             refine h_done ?_; clear CL hw le
             refine x_thenN (c_region' (s_mv2 S rfl fun a S=>s_bi S rfl fun a S=>?_))
             obtain ⟨c16,h17⟩:=chk_of h16; clear h16
             refine s_cutO S (j:=(wr .i64 ((wr .i64 (Int.tmod x4.e5 (wr .u64 ((x3).length:Int))))+1))) rfl .h11 underlying47 T103 (.inl rfl) rfl c16.1 c16.2 rfl fun a S=>s_as1 S rfl fun a S=>c_end' (x_blockN (x_thenN ?_))
             exact j1 _ true g3 g1 ch_2_0 (Int.toNat (wr .i64 ((wr .i64 (Int.tmod x4.e5 (wr .u64 ((x3).length:Int))))+1))) ch_2_2 (x3.take (Int.toNat (wr .i64 ((wr .i64 (Int.tmod x4.e5 (wr .u64 ((x3).length:Int))))+1)))) ch22.1 ch22.2.1 t22.1 ch22.e3 t22.2.1.1 ch22.e4 ch22.e5 ch22.e6 t22.2.1.2.1 t22.2.1.e3 t22.2.1.t3 t22.e3 ch22.e7 ch22.e8 ch22.e9 t22.e4 ch22.e10 ch22.e11 ch22.e12 t22.e5 ch22.e13 ch22.e14 ch22.t14 t22.t5 t23 ch23 a w (S.sb rfl (.c0 (.c0 (.c0 (.c0 (.c0 (.c0 (.c0 (.c0 (.c0 (.c1 (.c1 .n)))))))))))) h17
            ·refine c_condF S rfl c13 (wp_skip (x_blockN (x_thenN ?_)))
             exact j1 _ true g3 g1 ch_2_0 ch_2_1 ch_2_2 x3 ch_0.2.1 ch_0.e3 x1.1 ch_0.e4 x1.2.1.1 ch_0.e5 ch_0.e6 ch_0.e7 x1.2.1.2.1 x1.2.1.e3 x1.2.1.t3 x1.e3 ch_0.e8 ch_0.e9 ch_0.e10 x1.e4 ch_0.e11 ch_0.e12 ch_0.e13 x1.e5 ch_0.e14 ch_0.e15 ch_0.t15 x1.t5 x2 ch_1_0 a w (S.sb rfl (.c3 (.c3 (.c3 (.c3 (.c3 (.c3 (.c3 (.c3 (.c0 (.c1 (.c1 .n)))))))))))) h12
abbrev ff_.Ty:Type:=W2→Option Int
def ff_.Ctr (s:ff_.Ty):Prop:=∀ {x1:W2} {ch_0:W3} {r:Int} (h0:s x1=some r) {mi:Mem} {w0:World},CtrB Tryz.prog 23 [(.v (.pointer (some ⟨ch_0.1,0,none⟩)))] (MS1 x1 ch_0) (fun (ch:Unit)=>((.i r):D)) (fun (ch:Unit)=>(MS1 x1 ch_0)) mi w0
def ff_.f (x1:W2):Option Int:=some x1.2.2.1
theorem ff_.ok:ff_.Ctr (ff_.f):=by
 intro x1 ch_0 r h0 mi w0 ok hm
 delta ff_.f at h0
 refine c_enterZ (n:=9) ok hm func23 rfl rfl rfl fun b0 hb a S=>c_region (s_as1 S rfl fun a S=>c_end (wp_seq (c_region (s_mv1 S rfl fun a S=>s_eqp S (b:=false) rfl rfl underlying26 rfl rfl fun a S=>c_end (c_condF S rfl rfl (wp_skip (x_thenN (c_region (s_mv1 S rfl fun a S=>s_nilchk S rfl rfl fun a S=>s_fieldAddr S rfl I79_2 T2 (by decide) rfl rfl fun a S=>s_load1 S rfl .h T2 (v:=(.int .i64 x1.e3)) rfl rfl fun a S=>s_as1 S rfl fun a S=>c_end (wp_ret ?_))))))))))
 obtain rfl:=sI h0
 exact b_ret1 (d:=(.i x1.e3)) S rfl rfl fun ok=>S.retX (Hx:=[]) hb _ _ (():Unit) (.c0 (.c0 (.c0 (.c0 (.c0 (.c0 (.c0 (.c0 .n)))))))) ok
abbrev fg5_.Ty:Type:=W2→Option (List L100)
def fg5_.Ctr (s:fg5_.Ty):Prop:=∀ {x1:W2} {ch_0:W3} {r:List L100} (h0:s x1=some r) {mi:Mem} {w0:World},CtrB Tryz.prog 24 [(.v (.pointer (some ⟨ch_0.1,0,none⟩)))] (MS1 x1 ch_0) (fun (ch:(Option Addr)×Nat×Nat)=>((.s ch.1 ch.2.1 ch.t2):D)) (fun (ch:(Option Addr)×Nat×Nat)=>([Res.row Y100 100 ch.1 ch.2.1 ch.t2 r]++MS1 x1 ch_0)) mi w0
def fg5_.j1 (y1:List L100):Option (List L100):=some y1
def fg5_.b1 (x1:W2)(rec1:(List L100)→Int→Option (List L100))(y4:List L100)(y5:Int):Option (List L100):=if (decide (y5<((x1.2.2.2.1).length:Int)))=true then (if (0:Int)≤y5∧y5<((x1.2.2.2.1).length:Int) then ((fi9_.f (gt x1.2.2.2.1 y5)).bind fun t1=>(if ((y4).length+([t1]).length)*72≤140737488355328 then (rec1 (y4++[t1]) (wr .i64 (y5+1))) else none)) else none) else (fg5_.j1 y4)
def fg5_.l1 (x1:W2):Nat→(List L100)→Int→Option (List L100)
  | 0,_,_=>none
  | q+1,y4,y5=>fg5_.b1 x1 (fg5_.l1 x1 q) y4 y5
def fg5_.f (k:Nat)(x1:W2):Option (List L100):=fg5_.l1 x1 k ([]:List L100) 0
theorem fg5_.ok (k:Nat):fg5_.Ctr (fg5_.f k):=by
 intro x1 ch_0 r h0 mi w0 ok hm
 delta fg5_.f at h0
 refine c_enterZ (n:=25) ok hm func24 rfl rfl rfl fun b0 hb a S=>c_region (s_as1 S rfl fun a S=>c_end (c_region (s_as1 S rfl fun a S=>c_end (wp_seq (c_region (s_mv1 S rfl fun a S=>s_eqp S (b:=false) rfl rfl underlying26 rfl rfl fun a S=>c_end (c_condF S rfl rfl (wp_skip (x_thenN (wp_seq_k fun K1 hK1=>?_))))))))))
 have j1:∀ m A1 nn1 cp1 y1 a w,St 25 m b0 [(3,(.s A1 nn1 cp1))] ([Res.row Y100 100 A1 nn1 cp1 y1]++MS1 x1 ch_0) a w→fg5_.j1 y1=some r→K1 a w:=by
  intro m A1 nn1 cp1 y1 a w S h0
  delta fg5_.j1 at h0
  refine hK1 a w (c_region (s_mv1 S rfl fun a S=>s_as1 S rfl fun a S=>c_end (wp_ret ?_)))
  obtain rfl:=sI h0
  exact b_ret1 (d:=(.s A1 nn1 cp1)) S rfl rfl fun ok=>S.retX (Hx:=[]) hb _ _ ((A1,nn1,cp1):(Option Addr)×Nat×Nat) (.c0 (.c0 (.c0 (.c0 (.c0 (.c0 (.c0 (.c0 (.c0 .n))))))))) ok
 refine c_region (s_mv1 S rfl fun a S=>s_nilchk S rfl rfl fun a S=>s_fieldAddr S rfl I79_3 T34 (by decide) rfl rfl fun a S=>s_load1 S rfl .h T34 (v:=(.slice ch_0.e8 ch_0.e9 ch_0.e10)) rfl rfl fun a S=>s_lenO S rfl .h5 underlying34 rfl fun a S=>s_mv1 S rfl fun a S=>c_end (wp_block ?_))
 replace S:=S.nilrow Y100 100
 refine c_loop (fun q1 a w=>∃ m A2 nn3 cp5 y4 y5,St 25 m b0 [(3,(.s A2 nn3 cp5)),(14,(.i y5)),(13,(.i ((x1.e4).length:Int))),(12,(.s ch_0.e8 ch_0.e9 ch_0.e10))] ([Res.row Y100 100 A2 nn3 cp5 y4]++MS1 x1 ch_0) a w∧fg5_.l1 x1 q1 y4 y5=some r) ?_ ?_ (k:=k) ⟨_,none,0,0,([]:List L100),0,(S.sb rfl (.c0 (.c0 (.c0 (.c0 (.c0 (.c0 (.c0 (.c0 (.c0 .n)))))))))),h0⟩
 ·rintro a w ⟨m,A2,nn3,cp5,y4,y5,S,h0⟩
  exact (nomatch (show (none:Option (List L100))=some r from h0))
 ·clear S h0
  rintro q1 a w ⟨m,A2,nn3,cp5,y4,y5,S,h0⟩
  replace h0:fg5_.b1 x1 (fg5_.l1 x1 q1) y4 y5=some r:=h0
  delta fg5_.b1 at h0
  refine c_region (s_bi S rfl fun a S=>c_end (wp_seq ?_))
  rcases ite_of h0 with ⟨c1,h1⟩ | ⟨c1,h1⟩
  ·refine c_condT S rfl c1 (wp_skip (x_thenN (wp_seq (wp_block (c_region ?_)))))
   obtain ⟨c2,h2⟩:=chk_of h1; clear h1
   refine s_iaddrO S (ty':=Y100) rfl .h6 rfl underlying34 T100 c2.1 c2.2 rfl fun g1 a hA1 S=>s_ldRW S (i:=y5) rfl hA1 .h6 T100 c2.1 c2.2 rfl rfl fun ch1 a S=>s_alloc S Z100 rfl ⟨rfl,rfl,rfl,tv⟩ rfl fun g2 a w S=>s_store S rfl rfl rfl (s':=(Y100.segs (gt x1.e4 y5) ch1)) .h T100 rfl rfl fun w S=>c_end (c_region' (s_mv1 S rfl fun a S=>s_loada S rfl .h T100 (s':=(Y100.segs (gt x1.e4 y5) ch1)) rfl rfl fun a S=>bindX h2 fun t1 et1 h3=>s_callK S (fi9_.ok et1) N58 rfl .pre (fun _=> .c2) rfl fun ch2 m le1 a w S=>?_))
   replace S:=S.rowfro .h
   obtain ⟨m,le1,S,hro⟩:=S
   replace S:=S.slotF 20 1 rfl rfl hro
   replace S:=S.rowfro .h
   obtain ⟨m,le1,S,hro⟩:=S
   replace S:=S.slotF 20 2 rfl rfl hro
   refine s_bldSl S (ty':=Y100) (ds:=[(0,(.agg (Y100.segs t1 ((),(ch2.1,ch2.e3),(ch2.e4,ch2.t5)))))]) (z:=(z20,([]:List (List Int)),([]:List Int))) (c0:=((),(none,0),(none,0))) (ys:=[t1]) (cs:=[((),(ch2.1,ch2.e3),(ch2.e4,ch2.t5))]) rfl underlying34 J100 Z100 rfl ⟨rfl,⟨Nat.le_refl _,Nat.zero_le _,RdS.nil _ _ _,RdS.mono _ _ _⟩,⟨Nat.le_refl _,Nat.zero_le _,RdS.nil _ _ _,RdS.mono _ _ _⟩,tv⟩ rfl rfl rfl rfl rfl rfl fun g3 a w S=>?_
   obtain ⟨c3,h4⟩:=chk_of h3; clear h3
   refine s_app S (k2:=1) (ys:=[t1]) rfl (fun _ _=> .h2) rfl rfl (S.holds _ (Pull.mem .h).1).1 (Res.row.src (S.holds _ (Pull.mem .h).1)) underlying34 J100 c3 rfl fun A3 cp6 a w S=>s_as1 S rfl fun a S=>c_end' (x_blockN (x_thenN (c_region' (s_bi S rfl fun a S=>s_mv1 S rfl fun a S=>c_end' (x_thenN ?_)))))
   exact ⟨_,A3,(nn3+1),cp6,(y4++[t1]),(wr .i64 (y5+1)),(S.sb rfl (.c2 (.c2 (.c2 (.c2 (.c2 (.c2 (.c2 (.c2 (.c2 .n)))))))))),h4⟩
  ·refine c_condF S rfl c1 (wp_exit (x_thenX (x_thenX (x_blockX (x_thenN ?_)))))
   exact j1 _ A2 nn3 cp5 y4 a w (S.sub ⟨rfl,tv⟩ (.c0 (.c0 (.c0 (.c0 (.c0 (.c0 (.c0 (.c0 (.c0 .n)))))))))) h1
abbrev fd6_.Ty:Type:=(List L100)→(List L100)→Option Bool
def fd6_.Ctr (s:fd6_.Ty):Prop:=∀ {x1:List L100} {x2:List L100} {ch_0_0:Option Addr} {ch_0_1:Nat} {ch_1_0:Option Addr} {ch_1_1:Nat} {r:Bool} (h0:s x1 x2=some r) {mi:Mem} {w0:World},CtrB Tryz.prog 53 [(.q Y100 ch_0_0 ch_0_1 x1),(.q Y100 ch_1_0 ch_1_1 x2)] [] (fun (ch:Unit)=>((.b r):D)) (fun (ch:Unit)=>[]) mi w0
def fd6_.j1:Option Bool:=some true
def fd6_.j2 (y1:Int)(rec1:Int→Option Bool):Option Bool:=rec1 (wr .i64 (y1+1))
def fd6_.b2 (x1:List L100)(x2:List L100)(y1:Int)(rec1:Int→Option Bool)(rec2:Int→Option Bool)(y7:Int):Option Bool:=if (decide (y7<(((gt x1 y1).2.1).length:Int)))=true then (if (0:Int)≤y7∧y7<(((gt x1 y1).2.1).length:Int) then (if (0:Int)≤y1∧y1<((x2).length:Int) then (if (0:Int)≤y7∧y7<(((gt x2 y1).2.1).length:Int) then (if (!(decide (gt ((gt x1 y1).2.1) y7=gt ((gt x2 y1).2.1) y7)))=true then (some false) else (rec2 (wr .i64 (y7+1)))) else none) else none) else none) else (fd6_.j2 y1 rec1)
def fd6_.l2 (x1:List L100)(x2:List L100)(y1:Int)(rec1:Int→Option Bool):Nat→Int→Option Bool
  | 0,_=>none
  | q+1,y7=>fd6_.b2 x1 x2 y1 rec1 (fd6_.l2 x1 x2 y1 rec1 q) y7
def fd6_.j3 (k:Nat)(x1:List L100)(x2:List L100)(y1:Int)(rec1:Int→Option Bool)(y5:Bool):Option Bool:=if y5=true then (some false) else (if (0:Int)≤y1∧y1<((x1).length:Int) then (fd6_.l2 x1 x2 y1 rec1 k 0) else none)
def fd6_.b1 (k:Nat)(x1:List L100)(x2:List L100)(rec1:Int→Option Bool)(y1:Int):Option Bool:=if (decide (y1<((x1).length:Int)))=true then (if (0:Int)≤y1∧y1<((x1).length:Int) then (if (0:Int)≤y1∧y1<((x2).length:Int) then (if (!(decide ((gt x1 y1).1=(gt x2 y1).1)))=true then (fd6_.j3 k x1 x2 y1 rec1 true) else (if (!((bstr ((gt x1 y1).2.2)).toList==(bstr ((gt x2 y1).2.2)).toList))=true then (fd6_.j3 k x1 x2 y1 rec1 true) else (fd6_.j3 k x1 x2 y1 rec1 ((((gt x1 y1).2.1).length:Int) != (((gt x2 y1).2.1).length:Int))))) else none) else none) else fd6_.j1
def fd6_.l1 (k:Nat)(x1:List L100)(x2:List L100):Nat→Int→Option Bool
  | 0,_=>none
  | q+1,y1=>fd6_.b1 k x1 x2 (fd6_.l1 k x1 x2 q) y1
def fd6_.f (k:Nat)(x1:List L100)(x2:List L100):Option Bool:=if (((x1).length:Int) != ((x2).length:Int))=true then (some false) else (fd6_.l1 k x1 x2 k 0)
theorem fd6_.ok (k:Nat):fd6_.Ctr (fd6_.f k):=by
 intro x1 x2 ch_0_0 ch_0_1 ch_1_0 ch_1_1 r h0 mi w0 ok hm
 delta fd6_.f at h0
 refine c_enterZ (n:=86) ok hm func53 rfl rfl rfl fun b0 hb a S=>c_region (s_as1 S rfl fun a S=>c_end (wp_seq (c_region (s_mv1 S rfl fun a S=>s_lenS S rfl underlying34 rfl fun a S=>s_mv1 S rfl fun a S=>s_lenS S rfl underlying34 rfl fun a S=>s_bi S rfl fun a S=>c_end ?_))))
 rcases ite_of h0 with ⟨c1,h1⟩ | ⟨c1,h1⟩
 ·refine c_condT S rfl c1 (c_region (s_as1 S rfl fun a S=>c_end (wp_ret (x_thenR ?_))))
  obtain rfl:=sI h1
  exact b_ret1 (d:=(.b false)) S rfl rfl (S.rt hb)
 ·refine c_condF S rfl c1 (wp_skip (x_thenN (wp_seq_k fun K1 hK1=>?_)))
  have j1:∀ m a w,St 86 m b0 [] [] a w→fd6_.j1=some r→K1 a w:=by
   intro m a w S h0
   delta fd6_.j1 at h0
   refine hK1 a w (c_region (s_as1 S rfl fun a S=>c_end (wp_ret ?_)))
   obtain rfl:=sI h0
   exact b_ret1 (d:=(.b true)) S rfl rfl (S.rt hb)
  refine c_region (s_mv1 S rfl fun a S=>s_lenS S rfl underlying34 rfl fun a S=>s_mv1 S rfl fun a S=>c_end (wp_block ?_))
  refine c_loop (fun q1 a w=>∃ m y1,St 86 m b0 [(14,(.i y1)),(13,(.i ((x1).length:Int))),(0,(.q Y100 ch_0_0 ch_0_1 x1)),(1,(.q Y100 ch_1_0 ch_1_1 x2))] [] a w∧fd6_.l1 k x1 x2 q1 y1=some r) ?_ ?_ (k:=k) ⟨_,0,(S.sb rfl .nil),h1⟩
  ·rintro a w ⟨m,y1,S,h0⟩
   exact (nomatch (show (none:Option Bool)=some r from h0))
  ·clear S h1
   rintro q1 a w ⟨m,y1,S,h0⟩
   replace h0:fd6_.b1 k x1 x2 (fd6_.l1 k x1 x2 q1) y1=some r:=h0
   delta fd6_.b1 at h0
   refine c_region (s_bi S rfl fun a S=>c_end (wp_seq ?_))
   rcases ite_of h0 with ⟨c2,h1⟩ | ⟨c2,h1⟩
   ·refine c_condT S rfl c2 (wp_skip (x_thenN (wp_seq_k fun K2 hK2=>?_)))
    have j2:∀ m a w,St 86 m b0 [(14,(.i y1)),(13,(.i ((x1).length:Int))),(0,(.q Y100 ch_0_0 ch_0_1 x1)),(1,(.q Y100 ch_1_0 ch_1_1 x2))] [] a w→fd6_.j2 y1 (fd6_.l1 k x1 x2 q1)=some r→K2 a w:=by
     intro m a w S h0
     delta fd6_.j2 at h0
     refine hK2 a w (c_region' (s_bi S rfl fun a S=>s_mv1 S rfl fun a S=>c_end' (x_thenN ?_)))
     exact ⟨_,(wr .i64 (y1+1)),(S.sb rfl .nil),h0⟩
    refine wp_block (c_region (s_mv1 S rfl fun a S=>s_as1 S rfl fun a S=>c_end (wp_seq (wp_seq_k fun K3 hK3=>?_))))
    have j3:∀ m y5 a w,St 86 m b0 [(57,(.b y5)),(5,(.i y1)),(14,(.i y1)),(13,(.i ((x1).length:Int))),(0,(.q Y100 ch_0_0 ch_0_1 x1)),(1,(.q Y100 ch_1_0 ch_1_1 x2))] [] a w→fd6_.j3 k x1 x2 y1 (fd6_.l1 k x1 x2 q1) y5=some r→K3 a w:=by
     intro m y5 a w S h0
     delta fd6_.j3 at h0
     refine hK3 a w ?_
     rcases ite_of h0 with ⟨c3,h1⟩ | ⟨c3,h1⟩
     ·refine c_condT S rfl c3 (c_region (s_as1 S rfl fun a S=>c_end (wp_ret (x_thenR (x_blockR (x_thenR (x_thenR (x_blockR (x_thenR ?_)))))))))
      obtain rfl:=sI h1
      exact b_ret1 (d:=(.b false)) S rfl rfl (S.rt hb)
     ·refine c_condF S rfl c3 (wp_skip (x_thenN (c_region (s_mv2 S rfl fun a S=>?_))))
      obtain ⟨c4,h2⟩:=chk_of h1; clear h1
      refine s_iaddrS S rfl rfl rfl underlying34 T100 c4.1 c4.2 rfl fun p1 a S=>s_faddrP S (tF:=(Ty.slice (Ty.arr .u64 4))) (y:=(gt x1 y1).2.1) rfl I100_1 T98 (by decide) (fun m h=>(at_fst (at_snd (at_0 h)))) rfl fun a S=>s_ldS S (fun c=>c) rfl T98 (fun _=>rfl) rfl fun A1 cp1 a S=>s_lenS S rfl underlying98 rfl fun a S=>s_mv1 S rfl fun a S=>c_end (wp_block ?_)
      refine c_loop (fun q2 a w=>∃ m y7,St 86 m b0 [(64,(.i y7)),(63,(.i (((gt x1 y1).2.1).length:Int))),(5,(.i y1)),(14,(.i y1)),(13,(.i ((x1).length:Int))),(0,(.q Y100 ch_0_0 ch_0_1 x1)),(1,(.q Y100 ch_1_0 ch_1_1 x2))] [] a w∧fd6_.l2 x1 x2 y1 (fd6_.l1 k x1 x2 q1) q2 y7=some r) ?_ ?_ (k:=k) ⟨_,0,(S.sb rfl .nil),h2⟩
      ·rintro a w ⟨m,y7,S,h0⟩
       exact (nomatch (show (none:Option Bool)=some r from h0))
      ·clear S h2
       rintro q2 a w ⟨m,y7,S,h0⟩
       replace h0:fd6_.b2 x1 x2 y1 (fd6_.l1 k x1 x2 q1) (fd6_.l2 x1 x2 y1 (fd6_.l1 k x1 x2 q1) q2) y7=some r:=h0
       delta fd6_.b2 at h0
       refine c_region (s_bi S rfl fun a S=>c_end (wp_seq ?_))
       rcases ite_of h0 with ⟨c5,h1⟩ | ⟨c5,h1⟩
       ·refine c_condT S rfl c5 (wp_skip (x_thenN (wp_seq (wp_block (c_region (s_mv1 S rfl fun a S=>s_as1 S rfl fun a S=>c_end ?_))))))
        refine wp_seq (c_hS S (.tk 0 17 .done) 17 .nil tv [(6,(.i y7)),(5,(.i y1)),(0,(.q Y100 ch_0_0 ch_0_1 x1)),(1,(.q Y100 ch_1_0 ch_1_1 x2))] rfl (by kernel_rfl) ?_); clear S; intro w S CL hw le
        refine h_mv2 S CL hw le rfl tv tv fun a S CL=>h_iaddrS S CL hw le (subR rfl) rfl rfl rfl underlying34 T100 c4.1 c4.2 rfl rfl tv fun p10 a S CL=>h_faddrP S CL hw le (subR rfl) (tF:=(Ty.slice (Ty.arr .u64 4))) (y:=(gt x1 y1).2.1) rfl I100_1 T98 (by decide) (fun m h=>(at_fst (at_snd (at_0 h)))) rfl rfl tv fun a S CL=>h_ldS S CL hw le (subR rfl) (fun c=>c) rfl T98 (fun _=>rfl) rfl rfl tv fun A2 cp6 a S CL=>h_mv1 S CL hw le rfl tv fun a S CL=>?_
        obtain ⟨c6,h2⟩:=chk_of h1; clear h1
        refine h_iaddrS S CL hw le (subR rfl) rfl rfl rfl underlying98 T43 c6.1 c6.2 rfl rfl tv fun p11 a S CL=>h_ldA S CL hw le (subR rfl) (fun (c:Unit)=>[.w4 (gt ((gt x1 y1).2.1) y7)]) rfl T43 (fun _=>rfl) rfl rfl tv fun ch1 a S CL=>?_
        refine h_mv2 S CL hw le rfl tv tv fun a S CL=>?_
        obtain ⟨c7,h3⟩:=chk_of h2; clear h2
        refine h_iaddrS S CL hw le (subR rfl) rfl rfl rfl underlying34 T100 c7.1 c7.2 rfl rfl tv fun p12 a S CL=>h_faddrP S CL hw le (subR rfl) (tF:=(Ty.slice (Ty.arr .u64 4))) (y:=(gt x2 y1).2.1) rfl I100_1 T98 (by decide) (fun m h=>(at_fst (at_snd (at_0 h)))) rfl rfl tv fun a S CL=>h_ldS S CL hw le (subR rfl) (fun c=>c) rfl T98 (fun _=>rfl) rfl rfl tv fun A3 cp7 a S CL=>h_mv1 S CL hw le rfl tv fun a S CL=>?_
        obtain ⟨c8,h4⟩:=chk_of h3; clear h3
        refine h_iaddrS S CL hw le (subR rfl) rfl rfl rfl underlying98 T43 c8.1 c8.2 rfl rfl tv fun p13 a S CL=>h_ldA S CL hw le (subR rfl) (fun (c:Unit)=>[.w4 (gt ((gt x2 y1).2.1) y7)]) rfl T43 (fun _=>rfl) rfl rfl tv fun ch2 a S CL=>?_
        refine h_nea S CL hw le (subR rfl) rfl rfl underlying43 underlying41 T41 Q43 rfl rfl tv fun a S CL=>?_
        refine h_done ?_; clear CL hw le
        refine x_thenN ?_
        rcases ite_of h4 with ⟨c9,h5⟩ | ⟨c9,h5⟩
        ·refine c_condT S rfl c9 (c_region (s_as1 S rfl fun a S=>c_end (wp_ret (x_blockR (x_thenR (x_thenR (x_blockR (x_blockR (x_thenR (x_thenR (x_blockR (x_thenR ?_))))))))))))
         obtain rfl:=sI h5
         exact b_ret1 (d:=(.b false)) S rfl rfl (S.rt hb)
        ·refine c_condF S rfl c9 (wp_skip (x_blockN (x_thenN (c_region' (s_bi S rfl fun a S=>s_mv1 S rfl fun a S=>c_end' (x_thenN ?_))))))
         exact ⟨_,(wr .i64 (y7+1)),(S.sb rfl .nil),h5⟩
       ·refine c_condF S rfl c5 (wp_exit (x_thenX (x_thenX (x_blockX (x_blockN (x_thenN ?_))))))
        exact j2 _ a w (S.sb rfl .nil) h1
    refine c_hS S (.tk 0 41 .done) 41 .nil tv [(5,(.i y1)),(0,(.q Y100 ch_0_0 ch_0_1 x1)),(1,(.q Y100 ch_1_0 ch_1_1 x2))] rfl (by kernel_rfl) fun w S CL hw le=>?_
    refine h_mv2 S CL hw le rfl tv tv fun a S CL=>?_
    obtain ⟨c10,h2⟩:=chk_of h1; clear h1
    refine h_iaddrS S CL hw le (subR rfl) rfl rfl rfl underlying34 T100 c10.1 c10.2 rfl rfl tv fun p14 a S CL=>h_faddrP S CL hw le (subR rfl) (tF:=(Ty.arr .u8 20)) (y:=(gt x1 y1).1) rfl I100_0 T40 (by decide) (fun m h=>(at_fst (at_0 h))) rfl rfl tv fun a S CL=>h_ldA S CL hw le (subR rfl) (fun (c:Unit)=>[.b20 ((gt x1 y1).1)]) rfl T40 (fun _=>rfl) rfl rfl tv fun ch3 a S CL=>?_
    refine h_mv2 S CL hw le rfl tv tv fun a S CL=>?_
    obtain ⟨c11,h3⟩:=chk_of h2; clear h2
    refine h_iaddrS S CL hw le (subR rfl) rfl rfl rfl underlying34 T100 c11.1 c11.2 rfl rfl tv fun p15 a S CL=>h_faddrP S CL hw le (subR rfl) (tF:=(Ty.arr .u8 20)) (y:=(gt x2 y1).1) rfl I100_0 T40 (by decide) (fun m h=>(at_fst (at_0 h))) rfl rfl tv fun a S CL=>h_ldA S CL hw le (subR rfl) (fun (c:Unit)=>[.b20 ((gt x2 y1).1)]) rfl T40 (fun _=>rfl) rfl rfl tv fun ch4 a S CL=>?_
    refine h_nea S CL hw le (subR rfl) rfl rfl underlying40 underlying5 T5 Q40 rfl rfl tv fun a S CL=>h_mv1 S CL hw le rfl tv fun a S CL=>?_
    rcases ite_of h3 with ⟨c12,h4⟩ | ⟨c12,h4⟩
    ·refine h_sk8 S CL rfl (ne_bool c12) fun a S CL=>h_sk4 S CL rfl (ne_bool c12) fun a S CL=>h_sk1 S CL rfl (ne_bool c12) fun a S CL=>h_pick S CL hw le (subR rfl) (b:=true) (hc_of rfl c12) rfl rfl rfl tv fun a S CL=>h_mv1 S CL hw le rfl tv fun a S CL=>h_skip S CL rfl rfl rfl (ne_bool rfl) rfl fun a S CL=>h_skip S CL rfl rfl rfl (ne_bool rfl) rfl fun a S CL=>h_skip S CL rfl rfl rfl (ne_bool rfl) rfl fun a S CL=>h_skip S CL rfl rfl rfl (ne_bool rfl) rfl fun a S CL=>h_skip S CL rfl rfl rfl (ne_bool rfl) rfl fun a S CL=>h_skip S CL rfl rfl rfl (ne_bool rfl) rfl fun a S CL=>h_skip S CL rfl rfl rfl (ne_bool rfl) rfl fun a S CL=>h_skip S CL rfl rfl rfl (ne_bool rfl) rfl fun a S CL=>h_skip S CL rfl rfl rfl (ne_bool rfl) rfl fun a S CL=>h_skip S CL rfl rfl rfl (ne_bool rfl) rfl fun a S CL=>h_skip S CL rfl rfl rfl (ne_bool rfl) rfl fun a S CL=>h_skip S CL rfl rfl rfl (ne_bool rfl) rfl fun a S CL=>h_skip S CL rfl rfl rfl (ne_bool rfl) rfl fun a S CL=>h_pick S CL hw le (subR rfl) (b:=true) (hc_of rfl rfl) rfl rfl rfl tv fun a S CL=>?_
     refine h_done ?_; clear CL hw le
     refine x_thenN ?_
     exact j3 _ true a w (S.sb rfl .nil) h4
    ·refine h_mv2 S CL hw le rfl ⟨_,_,rfl,rfl,c12⟩ ⟨_,_,rfl,rfl,c12⟩ fun a S CL=>h_iaddrS S CL hw le (subR rfl) rfl rfl rfl underlying34 T100 c10.1 c10.2 rfl rfl ⟨_,_,rfl,rfl,c12⟩ fun p16 a S CL=>h_faddrP S CL hw le (subR rfl) (tF:=(Ty.slice yb)) (y:=(gt x1 y1).t2) rfl I100_2 T44 (by decide) (fun m h=>(at_snd (at_snd (at_0 h)))) rfl rfl ⟨_,_,rfl,rfl,c12⟩ fun a S CL=>h_ldS S CL hw le (subR rfl) (fun c=>c) rfl T44 (fun _=>rfl) rfl rfl ⟨_,_,rfl,rfl,c12⟩ fun A4 cp8 a S CL=>h_strS S CL hw le (subR rfl) rfl rfl underlying44 underlying5 underlying9 rfl rfl ⟨_,_,rfl,rfl,c12⟩ fun a S CL=>h_mv2 S CL hw le rfl ⟨_,_,rfl,rfl,c12⟩ ⟨_,_,rfl,rfl,c12⟩ fun a S CL=>h_iaddrS S CL hw le (subR rfl) rfl rfl rfl underlying34 T100 c11.1 c11.2 rfl rfl ⟨_,_,rfl,rfl,c12⟩ fun p17 a S CL=>h_faddrP S CL hw le (subR rfl) (tF:=(Ty.slice yb)) (y:=(gt x2 y1).t2) rfl I100_2 T44 (by decide) (fun m h=>(at_snd (at_snd (at_0 h)))) rfl rfl ⟨_,_,rfl,rfl,c12⟩ fun a S CL=>h_ldS S CL hw le (subR rfl) (fun c=>c) rfl T44 (fun _=>rfl) rfl rfl ⟨_,_,rfl,rfl,c12⟩ fun A5 cp9 a S CL=>h_strS S CL hw le (subR rfl) rfl rfl underlying44 underlying5 underlying9 rfl rfl ⟨_,_,rfl,rfl,c12⟩ fun a S CL=>h_neT S CL hw le (subR rfl) rfl rfl rfl rfl ⟨_,_,rfl,rfl,c12⟩ fun a S CL=>h_pick S CL hw le (subR rfl) (b:=false) (hc_of rfl c12) rfl rfl rfl tv fun a S CL=>h_mv1 S CL hw le rfl tv fun a S CL=>?_
     rcases ite_of h4 with ⟨c13,h5⟩ | ⟨c13,h5⟩
     ·refine h_sk8 S CL rfl (ne_bool c13) fun a S CL=>h_sk4 S CL rfl (ne_bool c13) fun a S CL=>h_sk1 S CL rfl (ne_bool c13) fun a S CL=>h_pick S CL hw le (subR rfl) (b:=true) (hc_of rfl c13) rfl rfl rfl tv fun a S CL=>?_
      refine h_done ?_; clear CL hw le
      refine x_thenN ?_
      exact j3 _ true a w (S.sb rfl .nil) h5
     ·refine h_mv2 S CL hw le rfl ⟨_,_,rfl,rfl,c13⟩ ⟨_,_,rfl,rfl,c13⟩ fun a S CL=>h_iaddrS S CL hw le (subR rfl) rfl rfl rfl underlying34 T100 c10.1 c10.2 rfl rfl ⟨_,_,rfl,rfl,c13⟩ fun p18 a S CL=>h_faddrP S CL hw le (subR rfl) (tF:=(Ty.slice (Ty.arr .u64 4))) (y:=(gt x1 y1).2.1) rfl I100_1 T98 (by decide) (fun m h=>(at_fst (at_snd (at_0 h)))) rfl rfl ⟨_,_,rfl,rfl,c13⟩ fun a S CL=>h_ldS S CL hw le (subR rfl) (fun c=>c) rfl T98 (fun _=>rfl) rfl rfl ⟨_,_,rfl,rfl,c13⟩ fun A6 cp10 a S CL=>h_lenS S CL hw le (subR rfl) rfl underlying98 rfl rfl ⟨_,_,rfl,rfl,c13⟩ fun a S CL=>h_mv2 S CL hw le rfl ⟨_,_,rfl,rfl,c13⟩ ⟨_,_,rfl,rfl,c13⟩ fun a S CL=>h_iaddrS S CL hw le (subR rfl) rfl rfl rfl underlying34 T100 c11.1 c11.2 rfl rfl ⟨_,_,rfl,rfl,c13⟩ fun p19 a S CL=>h_faddrP S CL hw le (subR rfl) (tF:=(Ty.slice (Ty.arr .u64 4))) (y:=(gt x2 y1).2.1) rfl I100_1 T98 (by decide) (fun m h=>(at_fst (at_snd (at_0 h)))) rfl rfl ⟨_,_,rfl,rfl,c13⟩ fun a S CL=>h_ldS S CL hw le (subR rfl) (fun c=>c) rfl T98 (fun _=>rfl) rfl rfl ⟨_,_,rfl,rfl,c13⟩ fun A7 cp11 a S CL=>h_lenS S CL hw le (subR rfl) rfl underlying98 rfl rfl ⟨_,_,rfl,rfl,c13⟩ fun a S CL=>h_bin S CL hw le (subR rfl) rfl rfl rfl rfl rfl ⟨_,_,rfl,rfl,c13⟩ fun a S CL=>h_pick S CL hw le (subR rfl) (b:=false) (hc_of rfl c13) rfl rfl rfl tv fun a S CL=>?_
      refine h_done ?_; clear CL hw le
      refine x_thenN ?_
      exact j3 _ ((((gt x1 y1).2.1).length:Int) != (((gt x2 y1).2.1).length:Int)) a w (S.sb rfl .nil) h5
   ·refine c_condF S rfl c2 (wp_exit (x_thenX (x_thenX (x_blockX (x_thenN ?_)))))
    exact j1 _ a w (S.sub tv .nil) h1
abbrev fd0_.Ty:Type:=((List Int)×(List Int))→((List Int)×(List Int))→Option Int
def fd0_.Ctr (s:fd0_.Ty):Prop:=∀ {x1:(List Int)×(List Int)} {x2:(List Int)×(List Int)} {r:Int} (h0:s x1 x2=some r) {mi:Mem} {w0:World},CtrB Tryz.prog 94 [(.agg [.w4 x1.1, .w4 x1.2]),(.agg [.w4 x2.1, .w4 x2.2])] [] (fun (ch:Unit)=>((.i r):D)) (fun (ch:Unit)=>[]) mi w0
def fd0_.f (k:Nat)(x1:(List Int)×(List Int))(x2:(List Int)×(List Int)):Option Int:=(fi3_.f k x1.1 x2.1).bind fun t1=>(some t1)
theorem fd0_.ok (k:Nat):fd0_.Ctr (fd0_.f k):=by
 intro x1 x2 r h0 mi w0 ok hm
 delta fd0_.f at h0
 refine c_enterZ (n:=10) ok hm func94 rfl rfl rfl fun b0 hb a S=>c_region (s_box S rfl rfl rfl fun g1 a w S=>s_box S rfl rfl rfl fun g2 a w S=>s_as1 S rfl fun a S=>c_end (c_region (s_fieldAddr S rfl I83_0 T43 (by decide) rfl rfl fun a S=>s_loada S rfl .h1 T43 (s':=[.w4 x1.1]) rfl rfl fun a S=>s_fieldAddr S rfl I83_0 T43 (by decide) rfl rfl fun a S=>s_loada S rfl .h T43 (s':=[.w4 x2.1]) rfl rfl fun a S=>bindX h0 fun t1 et1 h1=>s_callK S (fi3_.ok k et1) N91 rfl .pre (fun _=> .n) rfl fun ch1 m le1 a w S=>s_as1 S rfl fun a S=>c_end (wp_ret ?_))))
 obtain rfl:=sI h1
 exact b_ret1 (d:=(.i t1)) S rfl rfl (S.rt hb)
structure SortG where
  α:Type
  inh:Inhabited α
  T:Ty α
  e:TypeId
  s:TypeId
  c:TypeId
  φ:FuncId→FuncId
  fc:FuncId
  cmp:Nat→α→α→Option Int
instance (g:SortG):Inhabited g.α:=g.inh
def SortG.σ (g:SortG):Rn:=⟨fun t=>bif Nat.beq t 83 then g.e else bif Nat.beq t 69 then g.s else bif Nat.beq t 145 then g.c else t,fun f=>bif Nat.beq f 113||Nat.beq f 126||Nat.beq f 114||Nat.beq f 115||Nat.beq f 130||Nat.beq f 128||Nat.beq f 127||Nat.beq f 116||Nat.beq f 117||Nat.beq f 118||Nat.beq f 119||Nat.beq f 120||Nat.beq f 101||Nat.beq f 93 then g.φ f else f⟩
structure SortG.Ok (g:SortG):Prop where
  hT:tyI Tryz.prog g.e=some (true,g.T.size)
  hU:Tryz.prog.underlying g.s=some (.slice g.e)
  hcmp:∀ {k:Nat} {x y:g.α} {cx cy:g.T.Ch} {r:Int},g.cmp k x y=some r→∀ {mi:Mem} {w0:World},CtrB (Ch:=Unit) Tryz.prog g.fc [.agg (g.T.segs x cx), .agg (g.T.segs y cy)] [] (fun _=>(.v (.int .i64 r):D)) (fun _=>[]) mi w0
  nc:Fn_ Tryz.prog g.fc
  n113:FnIs Tryz.prog (g.φ 113) (g.σ.code (bdy Tryz.f113)) Tryz.f113
  n126:FnIs Tryz.prog (g.φ 126) (g.σ.code (bdy Tryz.f126)) Tryz.f126
  n114:FnIs Tryz.prog (g.φ 114) (g.σ.code (bdy Tryz.f114)) Tryz.f114
  n115:FnIs Tryz.prog (g.φ 115) (g.σ.code (bdy Tryz.f115)) Tryz.f115
  n130:FnIs Tryz.prog (g.φ 130) (g.σ.code (bdy Tryz.f130)) Tryz.f130
  n128:FnIs Tryz.prog (g.φ 128) (g.σ.code (bdy Tryz.f128)) Tryz.f128
  n127:FnIs Tryz.prog (g.φ 127) (g.σ.code (bdy Tryz.f127)) Tryz.f127
  n116:FnIs Tryz.prog (g.φ 116) (g.σ.code (bdy Tryz.f116)) Tryz.f116
  n117:FnIs Tryz.prog (g.φ 117) (g.σ.code (bdy Tryz.f117)) Tryz.f117
  n118:FnIs Tryz.prog (g.φ 118) (g.σ.code (bdy Tryz.f118)) Tryz.f118
  n119:FnIs Tryz.prog (g.φ 119) (g.σ.code (bdy Tryz.f119)) Tryz.f119
  n120:FnIs Tryz.prog (g.φ 120) (g.σ.code (bdy Tryz.f120)) Tryz.f120
  n101:FnIs Tryz.prog (g.φ 101) (g.σ.code (bdy Tryz.f101)) Tryz.f101
  n93:FnIs Tryz.prog (g.φ 93) (g.σ.code (bdy Tryz.f93)) Tryz.f93
abbrev fi6_.Ty:Type:=Int→Option Int
def fi6_.Ctr (s:fi6_.Ty):Prop:=∀ {x1:Int} {r:Int} (h0:s x1=some r) {mi:Mem} {w0:World},CtrB Tryz.prog 111 [(.w x1)] [] (fun (ch:Unit)=>((.i r):D)) (fun (ch:Unit)=>[]) mi w0
def fi6_.j3 (y5:Int)(y6:Int):Option Int:=if (0:Int)≤(wr .u8 y6)∧(wr .u8 y6)<(txt0.size:Int) then (some (wr .i64 (y5+(wr .i64 (bt txt0 (wr .u8 y6)))))) else none
def fi6_.j2 (y3:Int)(y4:Int):Option Int:=if (decide (256≤y4))=true then (fi6_.j3 (wr .i64 (y3+8)) (shr y4 8)) else (fi6_.j3 y3 y4)
def fi6_.j1 (y1:Int)(y2:Int):Option Int:=if (decide (65536≤y2))=true then (fi6_.j2 (wr .i64 (y1+16)) (shr y2 16)) else (fi6_.j2 y1 y2)
def fi6_.f (x1:Int):Option Int:=if (decide (4294967296≤x1))=true then (fi6_.j1 32 (shr x1 32)) else (fi6_.j1 0 x1)
theorem fi6_.ok:fi6_.Ctr (fi6_.f):=by
 intro x1 r h0 mi w0 ok hm
 delta fi6_.f at h0
 refine c_enterZ (n:=25) ok hm func111 rfl rfl rfl fun b0 hb a S=>c_region (s_as1 S rfl fun a S=>c_end (wp_seq_k fun K1 hK1=>?_))
 have j1:∀ m y1 y2 a w,St 25 m b0 [(2,(.i y1)),(0,(.w y2))] [] a w→fi6_.j1 y1 y2=some r→K1 a w:=by
  intro m y1 y2 a w S h0
  delta fi6_.j1 at h0
  refine hK1 a w (wp_seq_k fun K2 hK2=>?_)
  have j2:∀ m y3 y4 a w,St 25 m b0 [(2,(.i y3)),(0,(.w y4))] [] a w→fi6_.j2 y3 y4=some r→K2 a w:=by
   intro m y3 y4 a w S h0
   delta fi6_.j2 at h0
   refine hK2 a w (wp_seq_k fun K3 hK3=>?_)
   have j3:∀ m y5 y6 a w,St 25 m b0 [(2,(.i y5)),(0,(.w y6))] [] a w→fi6_.j3 y5 y6=some r→K3 a w:=by
    intro m y5 y6 a w S h0
    delta fi6_.j3 at h0
    refine hK3 a w (c_region (s_mv2 S rfl fun a S=>s_conv S rfl rfl underlying5 rfl fun a S=>?_))
    obtain ⟨c1,h1⟩:=chk_of h0; clear h0
    refine s_indexT S rfl rfl underlying9 c1.1 c1.2 rfl fun a S=>s_conv S rfl rfl underlying3 rfl fun a S=>s_bi S rfl fun a S=>s_as1 S rfl fun a S=>c_end (wp_ret ?_)
    obtain rfl:=sI h1
    exact b_ret1 (d:=(.i (wr .i64 (y5+(wr .i64 (bt txt0 (wr .u8 y6))))))) S rfl rfl (S.rt hb)
   refine c_region (s_mv1 S rfl fun a S=>s_bi S rfl fun a S=>c_end ?_)
   rcases ite_of h0 with ⟨c2,h1⟩ | ⟨c2,h1⟩
   ·refine c_condT S rfl c2 (c_region (s_mv1 S rfl fun a S=>s_shr S (e:=8) rfl rfl (by decide) rfl rfl fun a S=>s_as1 S rfl fun a S=>c_end (c_region' (s_mv1 S rfl fun a S=>s_bi S rfl fun a S=>s_as1 S rfl fun a S=>c_end' (x_thenN ?_)))))
    exact j3 _ (wr .i64 (y3+8)) (shr y4 8) a w (S.sb rfl .nil) h1
   ·refine c_condF S rfl c2 (wp_skip (x_thenN ?_))
    exact j3 _ y3 y4 a w (S.sb rfl .nil) h1
  refine c_region (s_mv1 S rfl fun a S=>s_bi S rfl fun a S=>c_end ?_)
  rcases ite_of h0 with ⟨c3,h1⟩ | ⟨c3,h1⟩
  ·refine c_condT S rfl c3 (c_region (s_mv1 S rfl fun a S=>s_shr S (e:=16) rfl rfl (by decide) rfl rfl fun a S=>s_as1 S rfl fun a S=>c_end (c_region' (s_mv1 S rfl fun a S=>s_bi S rfl fun a S=>s_as1 S rfl fun a S=>c_end' (x_thenN ?_)))))
   exact j2 _ (wr .i64 (y1+16)) (shr y2 16) a w (S.sb rfl .nil) h1
  ·refine c_condF S rfl c3 (wp_skip (x_thenN ?_))
   exact j2 _ y1 y2 a w (S.sb rfl .nil) h1
 refine c_region (s_mv1 S rfl fun a S=>s_bi S rfl fun a S=>c_end ?_)
 rcases ite_of h0 with ⟨c4,h1⟩ | ⟨c4,h1⟩
 ·refine c_condT S rfl c4 (c_region (s_mv1 S rfl fun a S=>s_shr S (e:=32) rfl rfl (by decide) rfl rfl fun a S=>s_as1 S rfl fun a S=>c_end (c_region' (s_as1 S rfl fun a S=>c_end' (x_thenN ?_)))))
  exact j1 _ 32 (shr x1 32) a w0 (S.sb rfl .nil) h1
 ·refine c_condF S rfl c4 (wp_skip (x_thenN ?_))
  exact j1 _ 0 x1 a w0 (S.sb rfl .nil) h1
abbrev fj0_.Ty:Type:=Int→Option Int
def fj0_.Ctr (s:fj0_.Ty):Prop:=∀ {x1:Int} {r:Int} (h0:s x1=some r) {mi:Mem} {w0:World},CtrB Tryz.prog 98 [(.w x1)] [] (fun (ch:Unit)=>((.i r):D)) (fun (ch:Unit)=>[]) mi w0
def fj0_.f (x1:Int):Option Int:=(fi6_.f x1).bind fun t1=>(some t1)
theorem fj0_.ok:fj0_.Ctr (fj0_.f):=by
 intro x1 r h0 mi w0 ok hm
 delta fj0_.f at h0
 refine c_enterZ (n:=8) ok hm func98 rfl rfl rfl fun b0 hb a S=>c_region (s_as1 S rfl fun a S=>c_end (wp_seq (c_condF S rfl rfl (wp_skip (x_thenN (c_region (s_mv1 S rfl fun a S=>bindX h0 fun t1 et1 h1=>s_callK S (fi6_.ok et1) N111 rfl .pre (fun _=> .n) rfl fun ch1 m le1 a w S=>s_as1 S rfl fun a S=>c_end (wp_ret ?_))))))))
 obtain rfl:=sI h1
 exact b_ret1 (d:=(.i t1)) S rfl rfl (S.rt hb)
abbrev fb_.Ty (g:SortG):Type:=(List g.α)→Int→Int→Option (List g.α)
def fb_.Ctr (g:SortG)(s:fb_.Ty g):Prop:=∀ {x1:List g.α} {x2:Int} {x3:Int} {ch_0_0:Option Addr} {ch_0_1:Nat} {ch_0_2:Nat} {r:List g.α} (h0:s x1 x2 x3=some r) {mi:Mem} {w0:World},CtrB Tryz.prog (g.φ 113) [(.s ch_0_0 ch_0_1 ch_0_2),(.i x2),(.i x3),(.v (.func (.func g.fc) #[] #[]))] [Res.row g.T g.e ch_0_0 ch_0_1 ch_0_2 x1] (fun (ch:Unit)=>((.tup []):D)) (fun (ch:Unit)=>[Res.row g.T g.e ch_0_0 ch_0_1 ch_0_2 r]) mi w0
def fb_.j1 (g:SortG)(y2:Int)(rec1:(List g.α)→Int→Option (List g.α))(y10:List g.α):Option (List g.α):=rec1 y10 (wr .i64 (y2+1))
def fb_.j2 (g:SortG)(y2:Int)(rec1:(List g.α)→Int→Option (List g.α))(y15:List g.α)(y16:Int)(rec2:(List g.α)→Int→Option (List g.α))(y17:Bool):Option (List g.α):=if y17=true then (if (0:Int)≤(wr .i64 (y16 - 1))∧(wr .i64 (y16 - 1))<((y15).length:Int) then (if (0:Int)≤y16∧y16<((y15).length:Int) then (if (0:Int)≤(wr .i64 (y16 - 1))∧(wr .i64 (y16 - 1))<((y15.set (Int.toNat y16) (gt y15 (wr .i64 (y16 - 1)))).length:Int) then (rec2 ((y15.set (Int.toNat y16) (gt y15 (wr .i64 (y16 - 1)))).set (Int.toNat (wr .i64 (y16 - 1))) (gt y15 y16)) (wr .i64 (y16 - 1))) else none) else none) else none) else (fb_.j1 g y2 rec1 y15)
def fb_.b2 (g:SortG)(k:Nat)(x2:Int)(y2:Int)(rec1:(List g.α)→Int→Option (List g.α))(rec2:(List g.α)→Int→Option (List g.α))(y15:List g.α)(y16:Int):Option (List g.α):=if (decide (x2<y16))=true then (if (0:Int)≤y16∧y16<((y15).length:Int) then (if (0:Int)≤(wr .i64 (y16 - 1))∧(wr .i64 (y16 - 1))<((y15).length:Int) then ((g.cmp k (gt y15 y16) (gt y15 (wr .i64 (y16 - 1)))).bind fun t1=>(fb_.j2 g y2 rec1 y15 y16 rec2 (decide (t1<0)))) else none) else none) else (fb_.j2 g y2 rec1 y15 y16 rec2 false)
def fb_.l2 (g:SortG)(k:Nat)(x2:Int)(y2:Int)(rec1:(List g.α)→Int→Option (List g.α)):Nat→(List g.α)→Int→Option (List g.α)
  | 0,_,_=>none
  | q+1,y15,y16=>fb_.b2 g k x2 y2 rec1 (fb_.l2 g k x2 y2 rec1 q) y15 y16
def fb_.b1 (g:SortG)(k:Nat)(x2:Int)(x3:Int)(rec1:(List g.α)→Int→Option (List g.α))(y1:List g.α)(y2:Int):Option (List g.α):=if (decide (y2<x3))=true then (fb_.l2 g k x2 y2 rec1 k y1 y2) else (some y1)
def fb_.l1 (g:SortG)(k:Nat)(x2:Int)(x3:Int):Nat→(List g.α)→Int→Option (List g.α)
  | 0,_,_=>none
  | q+1,y1,y2=>fb_.b1 g k x2 x3 (fb_.l1 g k x2 x3 q) y1 y2
def fb_.f (g:SortG)(k:Nat)(x1:List g.α)(x2:Int)(x3:Int):Option (List g.α):=fb_.l1 g k x2 x3 k x1 (wr .i64 (x2+1))
theorem fb_.ok (g:SortG)(h:SortG.Ok g)(k:Nat):fb_.Ctr g (fb_.f g k):=by
 intro x1 x2 x3 ch_0_0 ch_0_1 ch_0_2 r h0 mi w0 ok hm
 delta fb_.f at h0
 refine c_enterG (n:=53) [(.s ch_0_0 ch_0_1 ch_0_2),(.i x2),(.i x3),(.v (.func (.func g.fc) #[] #[]))] (l:=[(0,(.s ch_0_0 ch_0_1 ch_0_2)),(1,(.i x2)),(2,(.i x3)),(3,(.v (.func (.func g.fc) #[] #[])))]) h.n113 rfl rfl rfl ok hm ?_
 clear ok hm
 intro b0 hb a S
 refine c_region (s_mv1 S rfl fun a S=>s_bi S rfl fun a S=>s_as1 S rfl fun a S=>c_end (wp_block ?_))
 refine c_loop (fun q1 a w=>∃ m y1 y2,St 53 m b0 [(8,(.i y2)),(0,(.s ch_0_0 ch_0_1 ch_0_2)),(1,(.i x2)),(2,(.i x3)),(3,(.v (.func (.func g.fc) #[] #[])))] [Res.row g.T g.e ch_0_0 ch_0_1 ch_0_2 y1] a w∧fb_.l1 g k x2 x3 q1 y1 y2=some r) ?_ ?_ (k:=k) ⟨_,x1,(wr .i64 (x2+1)),(S.sb rfl (.c0 .n)),h0⟩
 ·rintro a w ⟨m,y1,y2,S,h0⟩
  exact (nomatch (show (none:Option (List g.α))=some r from h0))
 ·clear S h0
  rintro q1 a w ⟨m,y1,y2,S,h0⟩
  replace h0:fb_.b1 g k x2 x3 (fb_.l1 g k x2 x3 q1) y1 y2=some r:=h0
  delta fb_.b1 at h0
  refine wp_seq (c_region (s_mv2 S rfl fun a S=>s_bi S rfl fun a S=>c_end ?_))
  rcases ite_of h0 with ⟨c1,h1⟩ | ⟨c1,h1⟩
  ·refine c_condT S rfl c1 (wp_skip (x_thenN (wp_seq_k fun K1 hK1=>?_)))
   have j1:∀ m y10 a w,St 53 m b0 [(8,(.i y2)),(0,(.s ch_0_0 ch_0_1 ch_0_2)),(1,(.i x2)),(2,(.i x3)),(3,(.v (.func (.func g.fc) #[] #[])))] [Res.row g.T g.e ch_0_0 ch_0_1 ch_0_2 y10] a w→fb_.j1 g y2 (fb_.l1 g k x2 x3 q1) y10=some r→K1 a w:=by
    intro m y10 a w S h0
    delta fb_.j1 at h0
    refine hK1 a w (c_region' (s_mv1 S rfl fun a S=>s_bi S rfl fun a S=>s_as1 S rfl fun a S=>c_end' (x_thenN ?_)))
    exact ⟨_,y10,(wr .i64 (y2+1)),(S.sb rfl (.c0 .n)),h0⟩
   refine wp_block (c_region (s_mv1 S rfl fun a S=>s_as1 S rfl fun a S=>c_end (wp_block ?_)))
   refine c_loop (fun q2 a w=>∃ m y15 y16,St 53 m b0 [(9,(.i y16)),(8,(.i y2)),(0,(.s ch_0_0 ch_0_1 ch_0_2)),(1,(.i x2)),(2,(.i x3)),(3,(.v (.func (.func g.fc) #[] #[])))] [Res.row g.T g.e ch_0_0 ch_0_1 ch_0_2 y15] a w∧fb_.l2 g k x2 y2 (fb_.l1 g k x2 x3 q1) q2 y15 y16=some r) ?_ ?_ (k:=k) ⟨_,y1,y2,(S.sb rfl (.c0 .n)),h1⟩
   ·rintro a w ⟨m,y15,y16,S,h0⟩
    exact (nomatch (show (none:Option (List g.α))=some r from h0))
   ·clear S h1
    rintro q2 a w ⟨m,y15,y16,S,h0⟩
    replace h0:fb_.b2 g k x2 y2 (fb_.l1 g k x2 x3 q1) (fb_.l2 g k x2 y2 (fb_.l1 g k x2 x3 q1) q2) y15 y16=some r:=h0
    delta fb_.b2 at h0
    refine wp_seq (wp_seq_k fun K2 hK2=>?_)
    have j2:∀ m y17 a w,St 53 m b0 [(34,(.b y17)),(9,(.i y16)),(8,(.i y2)),(0,(.s ch_0_0 ch_0_1 ch_0_2)),(1,(.i x2)),(2,(.i x3)),(3,(.v (.func (.func g.fc) #[] #[])))] [Res.row g.T g.e ch_0_0 ch_0_1 ch_0_2 y15] a w→fb_.j2 g y2 (fb_.l1 g k x2 x3 q1) y15 y16 (fb_.l2 g k x2 y2 (fb_.l1 g k x2 x3 q1) q2) y17=some r→K2 a w:=by
     intro m y17 a w S h0
     delta fb_.j2 at h0
     refine hK2 a w ?_
     rcases ite_of h0 with ⟨c2,h1⟩ | ⟨c2,h1⟩
     ·refine c_condT S rfl c2 (wp_skip (x_thenN (wp_seq (wp_block ?_))))
      have hS:=S.rowx (fun _=> .h)
      clear S; obtain ⟨cs1,S⟩:=hS
      refine c_hS S (.take 0 (.take 1 (.tk 5 10 (.pure 2 (.pure 3 (.pure 4 (.alts (.run 15 false (.alts (.run 16 false (.alts (.run 17 false .done .nil)) .nil)) .nil)))))))) 15 (.c0 .n) ⟨Res.stay_rowx,tv⟩ [(9,(.i y16)),(0,(.s ch_0_0 ch_0_1 ch_0_2))] rfl (by kernel_rfl) fun w S CL hw le=>?_
      refine h_mv4 S CL hw le rfl tv tv tv tv fun a S CL=>h_bin S CL hw le (subR rfl) rfl rfl rfl rfl rfl tv fun a S CL=>?_
      obtain ⟨c3,h2⟩:=chk_of h1; clear h1
      refine h_iaddrX S CL hw le (subR rfl) (ty':=g.T) rfl .h rfl h.hU h.hT c3.1 c3.2 rfl rfl tv fun g1 a hA1 S CL=>h_ldXW S CL hw le (subR rfl) (i:=(wr .i64 (y16 - 1))) rfl hA1 .h h.hT c3.1 c3.2 rfl rfl rfl tv fun ch1 a S CL=>h_mv2 S CL hw le rfl tv tv fun a S CL=>?_
      obtain ⟨c4,h3⟩:=chk_of h2; clear h2
      refine h_iaddrX S CL hw le (subR rfl) (ty':=g.T) rfl .h rfl h.hU h.hT c4.1 c4.2 rfl rfl tv fun g2 a hA2 S CL=>h_ldXW S CL hw le (subR rfl) (i:=y16) rfl hA2 .h h.hT c4.1 c4.2 rfl rfl rfl tv fun ch2 a S CL=>h_iaddrX S CL hw le (subR rfl) (ty':=g.T) rfl .h rfl h.hU h.hT c4.1 c4.2 rfl rfl tv fun g3 a hA3 S CL=>p_move S rfl rfl rfl tv fun a S=>p_move S rfl rfl rfl tv fun a S=>p_bin S rfl rfl rfl rfl rfl tv fun a S=>h_run' S rfl tv ?_
      replace S:=S.rowu .h
      refine s_stRW S (i:=y16) (u:=gt y15 (wr .i64 (y16 - 1))) (cu:=ch1) rfl rfl hA3 .h h.hT c4.1 c4.2 rfl fun w S=>?_
      refine h_back ⟨fun h=>(nomatch h),?_⟩
      refine h_run' S rfl tv ?_
      obtain ⟨c5,h4⟩:=chk_of h3; clear h3
      refine s_iaddrO S (ty':=g.T) rfl .h rfl h.hU h.hT c5.1 c5.2 rfl fun g4 a hA4 S=>?_
      refine h_back ⟨fun h=>(nomatch h),?_⟩
      refine h_run' S rfl tv (s_stRW S (i:=(wr .i64 (y16 - 1))) (u:=gt y15 y16) (cu:=ch2) rfl rfl hA4 .h h.hT c5.1 c5.2 rfl fun w S=>?_)
      refine h_back ⟨fun h=>(nomatch h),?_⟩
      refine h_done ?_; clear CL hw le
      refine x_blockN (x_thenN (c_region' (s_mv1 S rfl fun a S=>s_bi S rfl fun a S=>s_as1 S rfl fun a S=>c_end' (x_thenN ?_))))
      exact ⟨_,((y15.set (Int.toNat y16) (gt y15 (wr .i64 (y16 - 1)))).set (Int.toNat (wr .i64 (y16 - 1))) (gt y15 y16)),(wr .i64 (y16 - 1)),(S.sb rfl (.c0 .n)),h4⟩
     ·refine c_condF S rfl c2 (wp_exit (x_thenX (x_thenX (x_blockX (x_blockN (x_thenN ?_))))))
      exact j1 _ y15 a w (S.sb rfl (.c0 .n)) h1
    have hS:=S.rowx (fun _=> .h)
    clear S; obtain ⟨cs2,S⟩:=hS
    refine c_hS S (.tk 0 14 (.alts (.run 14 true (.take 15 (.take 16 .done)) .nil))) 17 (.c0 .n) ⟨Res.stay_rowx,tv⟩ [(9,(.i y16)),(0,(.s ch_0_0 ch_0_1 ch_0_2)),(1,(.i x2)),(3,(.v (.func (.func g.fc) #[] #[])))] rfl (by kernel_rfl) fun w S CL hw le=>?_
    refine h_mv2 S CL hw le rfl tv tv fun a S CL=>h_bin S CL hw le (subR rfl) rfl rfl rfl rfl rfl tv fun a S CL=>h_mv1 S CL hw le rfl tv fun a S CL=>?_
    rcases ite_of h0 with ⟨c6,h1⟩ | ⟨c6,h1⟩
    ·refine h_mv3 S CL hw le rfl ⟨_,_,rfl,rfl,c6⟩ ⟨_,_,rfl,rfl,c6⟩ ⟨_,_,rfl,rfl,c6⟩ fun a S CL=>?_
     obtain ⟨c7,h2⟩:=chk_of h1; clear h1
     refine h_iaddrX S CL hw le (subR rfl) (ty':=g.T) rfl .h rfl h.hU h.hT c7.1 c7.2 rfl rfl ⟨_,_,rfl,rfl,c6⟩ fun g5 a hA5 S CL=>h_ldXW S CL hw le (subR rfl) (i:=y16) rfl hA5 .h h.hT c7.1 c7.2 rfl rfl rfl ⟨_,_,rfl,rfl,c6⟩ fun ch3 a S CL=>h_mv2 S CL hw le rfl ⟨_,_,rfl,rfl,c6⟩ ⟨_,_,rfl,rfl,c6⟩ fun a S CL=>h_bin S CL hw le (subR rfl) rfl rfl rfl rfl rfl ⟨_,_,rfl,rfl,c6⟩ fun a S CL=>?_
     obtain ⟨c8,h3⟩:=chk_of h2; clear h2
     refine h_iaddrX S CL hw le (subR rfl) (ty':=g.T) rfl .h rfl h.hU h.hT c8.1 c8.2 rfl rfl ⟨_,_,rfl,rfl,c6⟩ fun g6 a hA6 S CL=>h_ldXW S CL hw le (subR rfl) (i:=(wr .i64 (y16 - 1))) rfl hA6 .h h.hT c8.1 c8.2 rfl rfl rfl ⟨_,_,rfl,rfl,c6⟩ fun ch4 a S CL=>h_run' S rfl ⟨_,_,rfl,rfl,c6⟩ (bindX h3 fun t1 et1 h4=>s_callK S (h.hcmp et1) h.nc rfl .pre (fun _=> .n) rfl fun ch5 m le1 a w S=>?_)
     replace le:=le.trans le1
     refine CL.bk hw S (.c0 .n) le fun hw=>?_
     replace CL:=CL.add (t:=32) (d:=(.i t1)) S rfl rfl
     refine h_bin S CL hw le (subR rfl) rfl rfl rfl rfl rfl ⟨_,_,rfl,rfl,c6⟩ fun a S CL=>h_pick S CL hw le (subR rfl) (b:=true) (hc_of rfl c6) rfl rfl rfl tv fun a S CL=>?_
     refine h_done ?_; clear CL hw le
     replace S:=S.rowu .h
     refine x_thenN ?_
     exact j2 _ (decide (t1<0)) a w (S.sb rfl (.c0 .n)) h4
    ·refine h_sk8 S CL rfl (ne_bool c6) fun a S CL=>h_sk2 S CL rfl (ne_bool c6) fun a S CL=>h_skipRt S rfl rfl rfl (ne_bool c6) rfl fun a S=>CL.bk hw S (.c0 .n) le fun hw=>?_
     replace CL:=CL.add (t:=32) (d:= .u) S rfl rfl
     refine h_sk1 S CL rfl (ne_bool c6) fun a S CL=>h_pick S CL hw le (subR rfl) (b:=false) (hc_of rfl c6) rfl rfl rfl tv fun a S CL=>?_
     refine h_done ?_; clear CL hw le
     replace S:=S.rowu .h
     refine x_thenN ?_
     exact j2 _ false a w (S.sb rfl (.c0 .n)) h1
  ·refine c_condF S rfl c1 (wp_exit (x_thenX (x_thenX (x_blockX (b_end ?_)))))
   obtain rfl:=sI h1
   exact b_ret0 S rfl (S.retX (Hx:=[]) hb _ _ (():Unit) (.c0 .n) tv)
abbrev fe5_.Ty (g:SortG):Type:=(List g.α)→Int→Int→Int→Option (List g.α)
def fe5_.Ctr (g:SortG)(s:fe5_.Ty g):Prop:=∀ {x1:List g.α} {x2:Int} {x3:Int} {x4:Int} {ch_0_0:Option Addr} {ch_0_1:Nat} {ch_0_2:Nat} {r:List g.α} (h0:s x1 x2 x3 x4=some r) {mi:Mem} {w0:World},CtrB Tryz.prog (g.φ 126) [(.s ch_0_0 ch_0_1 ch_0_2),(.i x2),(.i x3),(.i x4),(.v (.func (.func g.fc) #[] #[]))] [Res.row g.T g.e ch_0_0 ch_0_1 ch_0_2 x1] (fun (ch:Unit)=>((.tup []):D)) (fun (ch:Unit)=>[Res.row g.T g.e ch_0_0 ch_0_1 ch_0_2 r]) mi w0
def fe5_.j1 (g:SortG)(k:Nat)(x4:Int)(y1:List g.α)(y2:Int)(rec1:(List g.α)→Int→Option (List g.α))(y4:Int):Option (List g.α):=if (0:Int)≤(wr .i64 (x4+y2))∧(wr .i64 (x4+y2))<((y1).length:Int) then (if (0:Int)≤(wr .i64 (x4+y4))∧(wr .i64 (x4+y4))<((y1).length:Int) then ((g.cmp k (gt y1 (wr .i64 (x4+y2))) (gt y1 (wr .i64 (x4+y4)))).bind fun t1=>(if (!(decide (t1<0)))=true then (some y1) else (if (0:Int)≤(wr .i64 (x4+y4))∧(wr .i64 (x4+y4))<((y1.set (Int.toNat (wr .i64 (x4+y2))) (gt y1 (wr .i64 (x4+y4)))).length:Int) then (rec1 ((y1.set (Int.toNat (wr .i64 (x4+y2))) (gt y1 (wr .i64 (x4+y4)))).set (Int.toNat (wr .i64 (x4+y4))) (gt y1 (wr .i64 (x4+y2)))) y4) else none))) else none) else none
def fe5_.j2 (g:SortG)(k:Nat)(x4:Int)(y1:List g.α)(y2:Int)(rec1:(List g.α)→Int→Option (List g.α))(y5:Bool):Option (List g.α):=if y5=true then (fe5_.j1 g k x4 y1 y2 rec1 (wr .i64 ((wr .i64 ((wr .i64 (2*y2))+1))+1))) else (fe5_.j1 g k x4 y1 y2 rec1 (wr .i64 ((wr .i64 (2*y2))+1)))
def fe5_.b1 (g:SortG)(k:Nat)(x3:Int)(x4:Int)(rec1:(List g.α)→Int→Option (List g.α))(y1:List g.α)(y2:Int):Option (List g.α):=if (decide (x3≤(wr .i64 ((wr .i64 (2*y2))+1))))=true then (some y1) else (if (decide ((wr .i64 ((wr .i64 ((wr .i64 (2*y2))+1))+1))<x3))=true then (if (0:Int)≤(wr .i64 (x4+(wr .i64 ((wr .i64 (2*y2))+1))))∧(wr .i64 (x4+(wr .i64 ((wr .i64 (2*y2))+1))))<((y1).length:Int) then (if (0:Int)≤(wr .i64 ((wr .i64 (x4+(wr .i64 ((wr .i64 (2*y2))+1))))+1))∧(wr .i64 ((wr .i64 (x4+(wr .i64 ((wr .i64 (2*y2))+1))))+1))<((y1).length:Int) then ((g.cmp k (gt y1 (wr .i64 (x4+(wr .i64 ((wr .i64 (2*y2))+1))))) (gt y1 (wr .i64 ((wr .i64 (x4+(wr .i64 ((wr .i64 (2*y2))+1))))+1)))).bind fun t3=>(fe5_.j2 g k x4 y1 y2 rec1 (decide (t3<0)))) else none) else none) else (fe5_.j2 g k x4 y1 y2 rec1 false))
def fe5_.l1 (g:SortG)(k:Nat)(x3:Int)(x4:Int):Nat→(List g.α)→Int→Option (List g.α)
  | 0,_,_=>none
  | q+1,y1,y2=>fe5_.b1 g k x3 x4 (fe5_.l1 g k x3 x4 q) y1 y2
def fe5_.f (g:SortG)(k:Nat)(x1:List g.α)(x2:Int)(x3:Int)(x4:Int):Option (List g.α):=fe5_.l1 g k x3 x4 k x1 x2
theorem fe5_.ok (g:SortG)(h:SortG.Ok g)(k:Nat):fe5_.Ctr g (fe5_.f g k):=by
 intro x1 x2 x3 x4 ch_0_0 ch_0_1 ch_0_2 r h0 mi w0 ok hm
 delta fe5_.f at h0
 refine c_enterG (n:=82) [(.s ch_0_0 ch_0_1 ch_0_2),(.i x2),(.i x3),(.i x4),(.v (.func (.func g.fc) #[] #[]))] (l:=[(0,(.s ch_0_0 ch_0_1 ch_0_2)),(1,(.i x2)),(2,(.i x3)),(3,(.i x4)),(4,(.v (.func (.func g.fc) #[] #[])))]) h.n126 rfl rfl rfl ok hm ?_
 clear ok hm
 intro b0 hb a S
 refine c_region (s_mv1 S rfl fun a S=>s_as1 S rfl fun a S=>c_end (wp_block ?_))
 refine c_loop (fun q1 a w=>∃ m y1 y2,St 82 m b0 [(10,(.i y2)),(0,(.s ch_0_0 ch_0_1 ch_0_2)),(2,(.i x3)),(3,(.i x4)),(4,(.v (.func (.func g.fc) #[] #[])))] [Res.row g.T g.e ch_0_0 ch_0_1 ch_0_2 y1] a w∧fe5_.l1 g k x3 x4 q1 y1 y2=some r) ?_ ?_ (k:=k) ⟨_,x1,x2,(S.sb rfl (.c0 .n)),h0⟩
 ·rintro a w ⟨m,y1,y2,S,h0⟩
  exact (nomatch (show (none:Option (List g.α))=some r from h0))
 ·clear S h0
  rintro q1 a w ⟨m,y1,y2,S,h0⟩
  replace h0:fe5_.b1 g k x3 x4 (fe5_.l1 g k x3 x4 q1) y1 y2=some r:=h0
  delta fe5_.b1 at h0
  refine wp_block (c_region (s_mv1 S rfl fun a S=>s_bi S rfl fun a S=>s_bi S rfl fun a S=>s_as1 S rfl fun a S=>c_end (wp_seq (c_region (s_mv2 S rfl fun a S=>s_bi S rfl fun a S=>c_end ?_)))))
  rcases ite_of h0 with ⟨c1,h1⟩ | ⟨c1,h1⟩
  ·refine c_condT S rfl c1 (wp_exit (x_thenX (x_blockO (by decide) (x_thenX (x_blockX (b_end ?_))))))
   obtain rfl:=sI h1
   exact b_ret0 S rfl (S.retX (Hx:=[]) hb _ _ (():Unit) (.c0 .n) tv)
  ·refine c_condF S rfl c1 (wp_skip (x_thenN (wp_seq_k fun K1 hK1=>?_)))
   have j1:∀ m y4 a w,St 82 m b0 [(11,(.i y4)),(10,(.i y2)),(0,(.s ch_0_0 ch_0_1 ch_0_2)),(2,(.i x3)),(3,(.i x4)),(4,(.v (.func (.func g.fc) #[] #[])))] [Res.row g.T g.e ch_0_0 ch_0_1 ch_0_2 y1] a w→fe5_.j1 g k x4 y1 y2 (fe5_.l1 g k x3 x4 q1) y4=some r→K1 a w:=by
    intro m y4 a w S h0
    delta fe5_.j1 at h0
    refine hK1 a w (wp_seq ?_)
    have hS:=S.rowx (fun _=> .h)
    clear S; obtain ⟨cs1,S⟩:=hS
    refine wp_seq (c_hS S (.tk 0 13 (.alts (.run 13 true (.take 14 (.take 15 .done)) .nil))) 16 (.c0 .n) ⟨Res.stay_rowx,tv⟩ [(11,(.i y4)),(10,(.i y2)),(0,(.s ch_0_0 ch_0_1 ch_0_2)),(3,(.i x4)),(4,(.v (.func (.func g.fc) #[] #[])))] rfl (by kernel_rfl) ?_); clear S; intro w S CL hw le
    refine h_mv4 S CL hw le rfl tv tv tv tv fun a S CL=>h_bin S CL hw le (subR rfl) rfl rfl rfl rfl rfl tv fun a S CL=>?_
    obtain ⟨c2,h1⟩:=chk_of h0; clear h0
    refine h_iaddrX S CL hw le (subR rfl) (ty':=g.T) rfl .h rfl h.hU h.hT c2.1 c2.2 rfl rfl tv fun g1 a hA1 S CL=>h_ldXW S CL hw le (subR rfl) (i:=(wr .i64 (x4+y2))) rfl hA1 .h h.hT c2.1 c2.2 rfl rfl rfl tv fun ch1 a S CL=>h_mv3 S CL hw le rfl tv tv tv fun a S CL=>h_bin S CL hw le (subR rfl) rfl rfl rfl rfl rfl tv fun a S CL=>?_
    obtain ⟨c3,h2⟩:=chk_of h1; clear h1
    refine h_iaddrX S CL hw le (subR rfl) (ty':=g.T) rfl .h rfl h.hU h.hT c3.1 c3.2 rfl rfl tv fun g2 a hA2 S CL=>h_ldXW S CL hw le (subR rfl) (i:=(wr .i64 (x4+y4))) rfl hA2 .h h.hT c3.1 c3.2 rfl rfl rfl tv fun ch2 a S CL=>h_run' S rfl tv (bindX h2 fun t1 et1 h3=>s_callK S (h.hcmp et1) h.nc rfl .pre (fun _=> .n) rfl fun ch3 m le1 a w S=>?_)
    replace le:=le.trans le1
    refine CL.bk hw S (.c0 .n) le fun hw=>?_
    replace CL:=CL.add (t:=56) (d:=(.i t1)) S rfl rfl
    refine h_bin S CL hw le (subR rfl) rfl rfl rfl rfl rfl tv fun a S CL=>h_not S CL hw le (subR rfl) rfl rfl rfl tv fun a S CL=>?_
    refine h_done ?_; clear CL hw le
    replace S:=S.rowu .h
    refine x_thenN ?_
    rcases ite_of h3 with ⟨c4,h4⟩ | ⟨c4,h4⟩
    ·refine c_condT S rfl c4 (wp_ret (x_thenR (x_blockR (x_thenR (x_blockR ?_)))))
     obtain rfl:=sI h4
     exact b_ret0 S rfl (S.retX (Hx:=[]) hb _ _ (():Unit) (.c0 .n) tv)
    ·refine c_condF S rfl c4 (wp_skip (x_thenN ?_))
     have hS:=S.rowx (fun _=> .h)
     clear S; obtain ⟨cs2,S⟩:=hS
     refine wp_seq (c_hS S (.tk 0 4 (.tk 8 13 (.pure 4 (.pure 5 (.pure 6 (.pure 7 (.alts (.run 21 false (.alts (.run 22 false (.alts (.run 23 false .done .nil)) .nil)) .nil)))))))) 21 (.c0 .n) ⟨Res.stay_rowx,tv⟩ [(11,(.i y4)),(10,(.i y2)),(0,(.s ch_0_0 ch_0_1 ch_0_2)),(3,(.i x4))] rfl (by kernel_rfl) ?_); clear S; intro w S CL hw le
     refine h_mv3 S CL hw le rfl tv tv tv fun a S CL=>h_bin S CL hw le (subR rfl) rfl rfl rfl rfl rfl tv fun a S CL=>h_mv3 S CL hw le rfl tv tv tv fun a S CL=>h_bin S CL hw le (subR rfl) rfl rfl rfl rfl rfl tv fun a S CL=>h_iaddrX S CL hw le (subR rfl) (ty':=g.T) rfl .h rfl h.hU h.hT c3.1 c3.2 rfl rfl tv fun g3 a hA3 S CL=>h_ldXW S CL hw le (subR rfl) (i:=(wr .i64 (x4+y4))) rfl hA3 .h h.hT c3.1 c3.2 rfl rfl rfl tv fun ch4 a S CL=>h_mv3 S CL hw le rfl tv tv tv fun a S CL=>h_bin S CL hw le (subR rfl) rfl rfl rfl rfl rfl tv fun a S CL=>h_iaddrX S CL hw le (subR rfl) (ty':=g.T) rfl .h rfl h.hU h.hT c2.1 c2.2 rfl rfl tv fun g4 a hA4 S CL=>h_ldXW S CL hw le (subR rfl) (i:=(wr .i64 (x4+y2))) rfl hA4 .h h.hT c2.1 c2.2 rfl rfl rfl tv fun ch5 a S CL=>h_iaddrX S CL hw le (subR rfl) (ty':=g.T) rfl .h rfl h.hU h.hT c2.1 c2.2 rfl rfl tv fun g5 a hA5 S CL=>p_move S rfl rfl rfl tv fun a S=>p_move S rfl rfl rfl tv fun a S=>p_move S rfl rfl rfl tv fun a S=>p_bin S rfl rfl rfl rfl rfl tv fun a S=>h_run' S rfl tv ?_
     replace S:=S.rowu .h
     refine s_stRW S (i:=(wr .i64 (x4+y2))) (u:=gt y1 (wr .i64 (x4+y4))) (cu:=ch4) rfl rfl hA5 .h h.hT c2.1 c2.2 rfl fun w S=>?_
     refine h_back ⟨fun h=>(nomatch h),?_⟩
     refine h_run' S rfl tv ?_
     obtain ⟨c5,h5⟩:=chk_of h4; clear h4
     refine s_iaddrO S (ty':=g.T) rfl .h rfl h.hU h.hT c5.1 c5.2 rfl fun g6 a hA6 S=>?_
     refine h_back ⟨fun h=>(nomatch h),?_⟩
     refine h_run' S rfl tv (s_stRW S (i:=(wr .i64 (x4+y4))) (u:=gt y1 (wr .i64 (x4+y2))) (cu:=ch5) rfl rfl hA6 .h h.hT c5.1 c5.2 rfl fun w S=>?_)
     refine h_back ⟨fun h=>(nomatch h),?_⟩
     refine h_done ?_; clear CL hw le
     refine x_thenN (c_region' (s_mv1 S rfl fun a S=>s_as1 S rfl fun a S=>c_end' (x_blockN (x_thenN ?_))))
     exact ⟨_,((y1.set (Int.toNat (wr .i64 (x4+y2))) (gt y1 (wr .i64 (x4+y4)))).set (Int.toNat (wr .i64 (x4+y4))) (gt y1 (wr .i64 (x4+y2)))),y4,(S.sb rfl (.c0 .n)),h5⟩
   refine wp_seq_k fun K2 hK2=>?_
   have j2:∀ m y5 a w,St 82 m b0 [(40,(.b y5)),(11,(.i (wr .i64 ((wr .i64 (2*y2))+1)))),(10,(.i y2)),(0,(.s ch_0_0 ch_0_1 ch_0_2)),(2,(.i x3)),(3,(.i x4)),(4,(.v (.func (.func g.fc) #[] #[])))] [Res.row g.T g.e ch_0_0 ch_0_1 ch_0_2 y1] a w→fe5_.j2 g k x4 y1 y2 (fe5_.l1 g k x3 x4 q1) y5=some r→K2 a w:=by
    intro m y5 a w S h0
    delta fe5_.j2 at h0
    refine hK2 a w ?_
    rcases ite_of h0 with ⟨c6,h1⟩ | ⟨c6,h1⟩
    ·refine c_condT S rfl c6 (c_region' (s_mv1 S rfl fun a S=>s_bi S rfl fun a S=>s_as1 S rfl fun a S=>c_end' (x_thenN ?_)))
     exact j1 _ (wr .i64 ((wr .i64 ((wr .i64 (2*y2))+1))+1)) a w (S.sb rfl (.c0 .n)) h1
    ·refine c_condF S rfl c6 (wp_skip (x_thenN ?_))
     exact j1 _ (wr .i64 ((wr .i64 (2*y2))+1)) a w (S.sb rfl (.c0 .n)) h1
   have hS:=S.rowx (fun _=> .h)
   clear S; obtain ⟨cs3,S⟩:=hS
   refine c_hS S (.tk 0 19 (.alts (.run 19 true (.take 20 (.take 21 .done)) .nil))) 22 (.c0 .n) ⟨Res.stay_rowx,tv⟩ [(11,(.i (wr .i64 ((wr .i64 (2*y2))+1)))),(0,(.s ch_0_0 ch_0_1 ch_0_2)),(2,(.i x3)),(3,(.i x4)),(4,(.v (.func (.func g.fc) #[] #[])))] rfl (by kernel_rfl) fun w S CL hw le=>?_
   refine h_mv1 S CL hw le rfl tv fun a S CL=>h_bin S CL hw le (subR rfl) rfl rfl rfl rfl rfl tv fun a S CL=>h_mv1 S CL hw le rfl tv fun a S CL=>h_bin S CL hw le (subR rfl) rfl rfl rfl rfl rfl tv fun a S CL=>h_mv1 S CL hw le rfl tv fun a S CL=>?_
   rcases ite_of h1 with ⟨c7,h2⟩ | ⟨c7,h2⟩
   ·refine h_mv4 S CL hw le rfl ⟨_,_,rfl,rfl,c7⟩ ⟨_,_,rfl,rfl,c7⟩ ⟨_,_,rfl,rfl,c7⟩ ⟨_,_,rfl,rfl,c7⟩ fun a S CL=>h_bin S CL hw le (subR rfl) rfl rfl rfl rfl rfl ⟨_,_,rfl,rfl,c7⟩ fun a S CL=>?_
    obtain ⟨c8,h3⟩:=chk_of h2; clear h2
    refine h_iaddrX S CL hw le (subR rfl) (ty':=g.T) rfl .h rfl h.hU h.hT c8.1 c8.2 rfl rfl ⟨_,_,rfl,rfl,c7⟩ fun g9 a hA7 S CL=>h_ldXW S CL hw le (subR rfl) (i:=(wr .i64 (x4+(wr .i64 ((wr .i64 (2*y2))+1))))) rfl hA7 .h h.hT c8.1 c8.2 rfl rfl rfl ⟨_,_,rfl,rfl,c7⟩ fun ch8 a S CL=>h_mv3 S CL hw le rfl ⟨_,_,rfl,rfl,c7⟩ ⟨_,_,rfl,rfl,c7⟩ ⟨_,_,rfl,rfl,c7⟩ fun a S CL=>h_bin S CL hw le (subR rfl) rfl rfl rfl rfl rfl ⟨_,_,rfl,rfl,c7⟩ fun a S CL=>h_bin S CL hw le (subR rfl) rfl rfl rfl rfl rfl ⟨_,_,rfl,rfl,c7⟩ fun a S CL=>?_
    obtain ⟨c9,h4⟩:=chk_of h3; clear h3
    refine h_iaddrX S CL hw le (subR rfl) (ty':=g.T) rfl .h rfl h.hU h.hT c9.1 c9.2 rfl rfl ⟨_,_,rfl,rfl,c7⟩ fun g10 a hA8 S CL=>h_ldXW S CL hw le (subR rfl) (i:=(wr .i64 ((wr .i64 (x4+(wr .i64 ((wr .i64 (2*y2))+1))))+1))) rfl hA8 .h h.hT c9.1 c9.2 rfl rfl rfl ⟨_,_,rfl,rfl,c7⟩ fun ch9 a S CL=>h_run' S rfl ⟨_,_,rfl,rfl,c7⟩ (bindX h4 fun t3 et3 h5=>s_callK S (h.hcmp et3) h.nc rfl .pre (fun _=> .n) rfl fun ch10 m le1 a w S=>?_)
    replace le:=le.trans le1
    refine CL.bk hw S (.c0 .n) le fun hw=>?_
    replace CL:=CL.add (t:=38) (d:=(.i t3)) S rfl rfl
    refine h_bin S CL hw le (subR rfl) rfl rfl rfl rfl rfl ⟨_,_,rfl,rfl,c7⟩ fun a S CL=>h_pick S CL hw le (subR rfl) (b:=true) (hc_of rfl c7) rfl rfl rfl tv fun a S CL=>?_
    refine h_done ?_; clear CL hw le
    replace S:=S.rowu .h
    refine x_thenN ?_
    exact j2 _ (decide (t3<0)) a w (S.sb rfl (.c0 .n)) h5
   ·refine h_sk8 S CL rfl (ne_bool c7) fun a S CL=>h_sk4 S CL rfl (ne_bool c7) fun a S CL=>h_sk2 S CL rfl (ne_bool c7) fun a S CL=>h_skipRt S rfl rfl rfl (ne_bool c7) rfl fun a S=>CL.bk hw S (.c0 .n) le fun hw=>?_
    replace CL:=CL.add (t:=38) (d:= .u) S rfl rfl
    refine h_sk1 S CL rfl (ne_bool c7) fun a S CL=>h_pick S CL hw le (subR rfl) (b:=false) (hc_of rfl c7) rfl rfl rfl tv fun a S CL=>?_
    refine h_done ?_; clear CL hw le
    replace S:=S.rowu .h
    refine x_thenN ?_
    exact j2 _ false a w (S.sb rfl (.c0 .n)) h2
abbrev fe3_.Ty (g:SortG):Type:=(List g.α)→Int→Int→Option (List g.α)
def fe3_.Ctr (g:SortG)(s:fe3_.Ty g):Prop:=∀ {x1:List g.α} {x2:Int} {x3:Int} {ch_0_0:Option Addr} {ch_0_1:Nat} {ch_0_2:Nat} {r:List g.α} (h0:s x1 x2 x3=some r) {mi:Mem} {w0:World},CtrB Tryz.prog (g.φ 114) [(.s ch_0_0 ch_0_1 ch_0_2),(.i x2),(.i x3),(.v (.func (.func g.fc) #[] #[]))] [Res.row g.T g.e ch_0_0 ch_0_1 ch_0_2 x1] (fun (ch:Unit)=>((.tup []):D)) (fun (ch:Unit)=>[Res.row g.T g.e ch_0_0 ch_0_1 ch_0_2 r]) mi w0
def fe3_.b1 (g:SortG)(k:Nat)(x2:Int)(rec1:(List g.α)→Int→Option (List g.α))(y4:List g.α)(y5:Int):Option (List g.α):=if (decide (0≤y5))=true then (if (0:Int)≤(wr .i64 (x2+y5))∧(wr .i64 (x2+y5))<((y4).length:Int) then (if (0:Int)≤x2∧x2<((y4).length:Int) then (if (0:Int)≤(wr .i64 (x2+y5))∧(wr .i64 (x2+y5))<((y4.set (Int.toNat x2) (gt y4 (wr .i64 (x2+y5)))).length:Int) then ((fe5_.f g k ((y4.set (Int.toNat x2) (gt y4 (wr .i64 (x2+y5)))).set (Int.toNat (wr .i64 (x2+y5))) (gt y4 x2)) 0 y5 x2).bind fun t1=>(rec1 t1 (wr .i64 (y5 - 1)))) else none) else none) else none) else (some y4)
def fe3_.l1 (g:SortG)(k:Nat)(x2:Int):Nat→(List g.α)→Int→Option (List g.α)
  | 0,_,_=>none
  | q+1,y4,y5=>fe3_.b1 g k x2 (fe3_.l1 g k x2 q) y4 y5
def fe3_.j1 (g:SortG)(k:Nat)(x2:Int)(x3:Int)(y1:List g.α):Option (List g.α):=fe3_.l1 g k x2 k y1 (wr .i64 ((wr .i64 (x3 - x2)) - 1))
def fe3_.b2 (g:SortG)(k:Nat)(x2:Int)(x3:Int)(rec2:(List g.α)→Int→Option (List g.α))(y8:List g.α)(y9:Int):Option (List g.α):=if (decide (0≤y9))=true then ((fe5_.f g k y8 y9 (wr .i64 (x3 - x2)) x2).bind fun t4=>(rec2 t4 (wr .i64 (y9 - 1)))) else (fe3_.j1 g k x2 x3 y8)
def fe3_.l2 (g:SortG)(k:Nat)(x2:Int)(x3:Int):Nat→(List g.α)→Int→Option (List g.α)
  | 0,_,_=>none
  | q+1,y8,y9=>fe3_.b2 g k x2 x3 (fe3_.l2 g k x2 x3 q) y8 y9
def fe3_.f (g:SortG)(k:Nat)(x1:List g.α)(x2:Int)(x3:Int):Option (List g.α):=fe3_.l2 g k x2 x3 k x1 (wr .i64 (Int.tdiv (wr .i64 ((wr .i64 (x3 - x2)) - 1)) 2))
theorem fe3_.ok (g:SortG)(h:SortG.Ok g)(k:Nat):fe3_.Ctr g (fe3_.f g k):=by
 intro x1 x2 x3 ch_0_0 ch_0_1 ch_0_2 r h0 mi w0 ok hm
 delta fe3_.f at h0
 refine c_enterG (n:=60) [(.s ch_0_0 ch_0_1 ch_0_2),(.i x2),(.i x3),(.v (.func (.func g.fc) #[] #[]))] (l:=[(0,(.s ch_0_0 ch_0_1 ch_0_2)),(1,(.i x2)),(2,(.i x3)),(3,(.v (.func (.func g.fc) #[] #[])))]) h.n114 rfl rfl rfl ok hm ?_
 clear ok hm
 intro b0 hb a S
 refine c_region (s_mv1 S rfl fun a S=>s_as1 S rfl fun a S=>c_end (c_region (s_as1 S rfl fun a S=>c_end (c_region (s_mv2 S rfl fun a S=>s_bi S rfl fun a S=>s_as1 S rfl fun a S=>c_end (wp_seq_k fun K1 hK1=>?_))))))
 have j1:∀ m y1 a w,St 60 m b0 [(10,(.i (wr .i64 (x3 - x2)))),(9,(.i 0)),(8,(.i x2)),(0,(.s ch_0_0 ch_0_1 ch_0_2)),(3,(.v (.func (.func g.fc) #[] #[])))] [Res.row g.T g.e ch_0_0 ch_0_1 ch_0_2 y1] a w→fe3_.j1 g k x2 x3 y1=some r→K1 a w:=by
  intro m y1 a w S h0
  delta fe3_.j1 at h0
  refine hK1 a w (c_region (s_mv1 S rfl fun a S=>s_bi S rfl fun a S=>s_as1 S rfl fun a S=>c_end (wp_block ?_)))
  refine c_loop (fun q1 a w=>∃ m y4 y5,St 60 m b0 [(12,(.i y5)),(9,(.i 0)),(8,(.i x2)),(0,(.s ch_0_0 ch_0_1 ch_0_2)),(3,(.v (.func (.func g.fc) #[] #[])))] [Res.row g.T g.e ch_0_0 ch_0_1 ch_0_2 y4] a w∧fe3_.l1 g k x2 q1 y4 y5=some r) ?_ ?_ (k:=k) ⟨_,y1,(wr .i64 ((wr .i64 (x3 - x2)) - 1)),(S.sb rfl (.c0 .n)),h0⟩
  ·rintro a w ⟨m,y4,y5,S,h0⟩
   exact (nomatch (show (none:Option (List g.α))=some r from h0))
  ·clear S h0
   rintro q1 a w ⟨m,y4,y5,S,h0⟩
   replace h0:fe3_.b1 g k x2 (fe3_.l1 g k x2 q1) y4 y5=some r:=h0
   delta fe3_.b1 at h0
   refine wp_seq (c_region (s_mv1 S rfl fun a S=>s_bi S rfl fun a S=>c_end ?_))
   rcases ite_of h0 with ⟨c1,h1⟩ | ⟨c1,h1⟩
   ·refine c_condT S rfl c1 (wp_skip (x_thenN (wp_seq (wp_block ?_))))
    have hS:=S.rowx (fun _=> .h)
    clear S; obtain ⟨cs1,S⟩:=hS
    refine wp_seq (c_hS S (.take 0 (.take 1 (.tk 6 11 (.pure 2 (.pure 3 (.pure 4 (.pure 5 (.alts (.run 17 false (.alts (.run 18 false (.alts (.run 19 false .done .nil)) .nil)) .nil))))))))) 17 (.c0 .n) ⟨Res.stay_rowx,tv⟩ [(12,(.i y5)),(8,(.i x2)),(0,(.s ch_0_0 ch_0_1 ch_0_2))] rfl (by kernel_rfl) ?_); clear S; intro w S CL hw le
    refine h_mv4 S CL hw le rfl tv tv tv tv fun a S CL=>h_mv1 S CL hw le rfl tv fun a S CL=>h_bin S CL hw le (subR rfl) rfl rfl rfl rfl rfl tv fun a S CL=>?_
    obtain ⟨c2,h2⟩:=chk_of h1; clear h1
    refine h_iaddrX S CL hw le (subR rfl) (ty':=g.T) rfl .h rfl h.hU h.hT c2.1 c2.2 rfl rfl tv fun g1 a hA1 S CL=>h_ldXW S CL hw le (subR rfl) (i:=(wr .i64 (x2+y5))) rfl hA1 .h h.hT c2.1 c2.2 rfl rfl rfl tv fun ch1 a S CL=>h_mv2 S CL hw le rfl tv tv fun a S CL=>?_
    obtain ⟨c3,h3⟩:=chk_of h2; clear h2
    refine h_iaddrX S CL hw le (subR rfl) (ty':=g.T) rfl .h rfl h.hU h.hT c3.1 c3.2 rfl rfl tv fun g2 a hA2 S CL=>h_ldXW S CL hw le (subR rfl) (i:=x2) rfl hA2 .h h.hT c3.1 c3.2 rfl rfl rfl tv fun ch2 a S CL=>h_iaddrX S CL hw le (subR rfl) (ty':=g.T) rfl .h rfl h.hU h.hT c3.1 c3.2 rfl rfl tv fun g3 a hA3 S CL=>p_move S rfl rfl rfl tv fun a S=>p_move S rfl rfl rfl tv fun a S=>p_move S rfl rfl rfl tv fun a S=>p_bin S rfl rfl rfl rfl rfl tv fun a S=>h_run' S rfl tv ?_
    replace S:=S.rowu .h
    refine s_stRW S (i:=x2) (u:=gt y4 (wr .i64 (x2+y5))) (cu:=ch1) rfl rfl hA3 .h h.hT c3.1 c3.2 rfl fun w S=>?_
    refine h_back ⟨fun h=>(nomatch h),?_⟩
    refine h_run' S rfl tv ?_
    obtain ⟨c4,h4⟩:=chk_of h3; clear h3
    refine s_iaddrO S (ty':=g.T) rfl .h rfl h.hU h.hT c4.1 c4.2 rfl fun g4 a hA4 S=>?_
    refine h_back ⟨fun h=>(nomatch h),?_⟩
    refine h_run' S rfl tv (s_stRW S (i:=(wr .i64 (x2+y5))) (u:=gt y4 x2) (cu:=ch2) rfl rfl hA4 .h h.hT c4.1 c4.2 rfl fun w S=>?_)
    refine h_back ⟨fun h=>(nomatch h),?_⟩
    refine h_done ?_; clear CL hw le
    refine x_thenN (c_region' (s_mv5 S rfl fun a S=>bindX h4 fun t1 et1 h5=>s_callK S (fe5_.ok g h k et1) h.n126.fn rfl .pre (fun _=> .c1) rfl fun ch3 m le1 a w S=>c_end' (x_blockN (x_thenN (c_region' (s_mv1 S rfl fun a S=>s_bi S rfl fun a S=>s_as1 S rfl fun a S=>c_end' (x_thenN ?_)))))))
    exact ⟨_,t1,(wr .i64 (y5 - 1)),(S.sb rfl (.c0 .n)),h5⟩
   ·refine c_condF S rfl c1 (wp_exit (x_thenX (x_thenX (x_blockX (b_end ?_)))))
    obtain rfl:=sI h1
    exact b_ret0 S rfl (S.retX (Hx:=[]) hb _ _ (():Unit) (.c0 .n) tv)
 refine c_region (s_mv1 S rfl fun a S=>s_bi S rfl fun a S=>s_quo S rfl rfl (by decide) rfl fun a S=>s_as1 S rfl fun a S=>c_end (wp_block ?_))
 refine c_loop (fun q2 a w=>∃ m y8 y9,St 60 m b0 [(11,(.i y9)),(10,(.i (wr .i64 (x3 - x2)))),(9,(.i 0)),(8,(.i x2)),(0,(.s ch_0_0 ch_0_1 ch_0_2)),(3,(.v (.func (.func g.fc) #[] #[])))] [Res.row g.T g.e ch_0_0 ch_0_1 ch_0_2 y8] a w∧fe3_.l2 g k x2 x3 q2 y8 y9=some r) ?_ ?_ (k:=k) ⟨_,x1,(wr .i64 (Int.tdiv (wr .i64 ((wr .i64 (x3 - x2)) - 1)) 2)),(S.sb rfl (.c0 .n)),h0⟩
 ·rintro a w ⟨m,y8,y9,S,h0⟩
  exact (nomatch (show (none:Option (List g.α))=some r from h0))
 ·clear S h0
  rintro q2 a w ⟨m,y8,y9,S,h0⟩
  replace h0:fe3_.b2 g k x2 x3 (fe3_.l2 g k x2 x3 q2) y8 y9=some r:=h0
  delta fe3_.b2 at h0
  refine wp_seq (c_region (s_mv1 S rfl fun a S=>s_bi S rfl fun a S=>c_end ?_))
  rcases ite_of h0 with ⟨c5,h1⟩ | ⟨c5,h1⟩
  ·refine c_condT S rfl c5 (wp_skip (x_thenN (wp_seq (wp_block (c_region' (s_mv5 S rfl fun a S=>bindX h1 fun t4 et4 h2=>s_callK S (fe5_.ok g h k et4) h.n126.fn rfl .pre (fun _=> .c1) rfl fun ch4 m le1 a w S=>c_end' (x_blockN (x_thenN (c_region' (s_mv1 S rfl fun a S=>s_bi S rfl fun a S=>s_as1 S rfl fun a S=>c_end' (x_thenN ?_)))))))))))
   exact ⟨_,t4,(wr .i64 (y9 - 1)),(S.sb rfl (.c0 .n)),h2⟩
  ·refine c_condF S rfl c5 (wp_exit (x_thenX (x_thenX (x_blockX (x_thenN ?_)))))
   exact j1 _ y8 a w (S.sb rfl (.c0 .n)) h1
abbrev ff7_.Ty (g:SortG):Type:=(List g.α)→Int→Int→Int→Option (Int×Int×Int)
def ff7_.Ctr (g:SortG)(s:ff7_.Ty g):Prop:=∀ {x1:List g.α} {x2:Int} {x3:Int} {x4:Int} {ch_0_0:Option Addr} {ch_0_1:Nat} {ch_0_2:Nat} {ch_3_0:Nat} {r:Int×Int×Int} (h0:s x1 x2 x3 x4=some r) {mi:Mem} {w0:World},CtrB Tryz.prog (g.φ 130) [(.s ch_0_0 ch_0_1 ch_0_2),(.i x2),(.i x3),(.p ch_3_0),(.v (.func (.func g.fc) #[] #[]))] [Res.row g.T g.e ch_0_0 ch_0_1 ch_0_2 x1,Res.cells ch_3_0 3 [.i x4]] (fun (ch:Unit)=>((.tup [(false,[.i r.1]),(false,[.i r.2.1])]):D)) (fun (ch:Unit)=>[Res.row g.T g.e ch_0_0 ch_0_1 ch_0_2 x1,Res.cells ch_3_0 3 [.i r.t2]]) mi w0
def ff7_.f (g:SortG)(k:Nat)(x1:List g.α)(x2:Int)(x3:Int)(x4:Int):Option (Int×Int×Int):=if (0:Int)≤x3∧x3<((x1).length:Int) then (if (0:Int)≤x2∧x2<((x1).length:Int) then ((g.cmp k (gt x1 x3) (gt x1 x2)).bind fun t1=>(if (decide (t1<0))=true then (some (x3,x2,wr .i64 (x4+1))) else (some (x2,x3,x4)))) else none) else none
theorem ff7_.ok (g:SortG)(h:SortG.Ok g)(k:Nat):ff7_.Ctr g (ff7_.f g k):=by
 intro x1 x2 x3 x4 ch_0_0 ch_0_1 ch_0_2 ch_3_0 r h0 mi w0 ok hm
 delta ff7_.f at h0
 refine c_enterG (n:=32) [(.s ch_0_0 ch_0_1 ch_0_2),(.i x2),(.i x3),(.p ch_3_0),(.v (.func (.func g.fc) #[] #[]))] (l:=[(0,(.s ch_0_0 ch_0_1 ch_0_2)),(1,(.i x2)),(2,(.i x3)),(3,(.p ch_3_0)),(4,(.v (.func (.func g.fc) #[] #[])))]) h.n130 rfl rfl rfl ok hm ?_
 clear ok hm
 intro b0 hb a S
 refine c_region (s_as2 S rfl fun a S=>c_end (wp_seq ?_))
 have hS:=S.rowx (fun _=> .h)
 clear S; obtain ⟨cs1,S⟩:=hS
 refine wp_seq (c_hS S (.tk 0 9 (.alts (.run 9 true (.take 10 .done) .nil))) 11 (.c0 .n) ⟨Res.stay_rowx,tv⟩ [(0,(.s ch_0_0 ch_0_1 ch_0_2)),(1,(.i x2)),(2,(.i x3)),(4,(.v (.func (.func g.fc) #[] #[])))] rfl (by kernel_rfl) ?_); clear S; intro w S CL hw le
 refine h_mv3 S CL hw le rfl tv tv tv fun a S CL=>?_
 obtain ⟨c1,h1⟩:=chk_of h0; clear h0
 refine h_iaddrX S CL hw le (subR rfl) (ty':=g.T) rfl .h rfl h.hU h.hT c1.1 c1.2 rfl rfl tv fun g1 a hA1 S CL=>h_ldXW S CL hw le (subR rfl) (i:=x3) rfl hA1 .h h.hT c1.1 c1.2 rfl rfl rfl tv fun ch1 a S CL=>h_mv2 S CL hw le rfl tv tv fun a S CL=>?_
 obtain ⟨c2,h2⟩:=chk_of h1; clear h1
 refine h_iaddrX S CL hw le (subR rfl) (ty':=g.T) rfl .h rfl h.hU h.hT c2.1 c2.2 rfl rfl tv fun g2 a hA2 S CL=>h_ldXW S CL hw le (subR rfl) (i:=x2) rfl hA2 .h h.hT c2.1 c2.2 rfl rfl rfl tv fun ch2 a S CL=>h_run' S rfl tv (bindX h2 fun t1 et1 h3=>s_callK S (h.hcmp et1) h.nc rfl .pre (fun _=> .n) rfl fun ch3 m le1 a w S=>?_)
 replace le:=le.trans le1
 refine CL.bk hw S (.c0 .n) le fun hw=>?_
 replace CL:=CL.add (t:=21) (d:=(.i t1)) S rfl rfl
 refine h_bin S CL hw le (subR rfl) rfl rfl rfl rfl rfl tv fun a S CL=>?_
 refine h_done ?_; clear CL hw le
 replace S:=S.rowu .h
 refine x_thenN ?_
 rcases ite_of h3 with ⟨c3,h4⟩ | ⟨c3,h4⟩
 ·refine c_condT S rfl c3 (c_region (s_mv1 S rfl fun a S=>s_nilchk S rfl rfl fun a S=>s_load1 S rfl .h1 T3 (v:=(.int .i64 x4)) rfl rfl fun a S=>s_bi S rfl fun a S=>s_nilchk S rfl rfl fun a S=>s_storeJ S 0 rfl rfl rfl rfl .h1 T3 rfl rfl fun w S=>c_end (c_region (s_mv2 S rfl fun a S=>s_as2 S rfl fun a S=>c_end (wp_ret (x_thenR ?_))))))
  obtain rfl:=sI h4
  exact b_ret2 (d1:=(.i x3)) (d2:=(.i x2)) S rfl rfl rfl fun ok1 ok2=>S.retX (Hx:=[]) hb _ _ (():Unit) (.c0 (.c0 .n)) ⟨⟨ok1,tv⟩,⟨ok2,tv⟩,tv⟩
 ·refine c_condF S rfl c3 (wp_skip (x_thenN (c_region (s_mv2 S rfl fun a S=>s_as2 S rfl fun a S=>c_end (wp_ret ?_)))))
  obtain rfl:=sI h4
  exact b_ret2 (d1:=(.i x2)) (d2:=(.i x3)) S rfl rfl rfl fun ok1 ok2=>S.retX (Hx:=[]) hb _ _ (():Unit) (.c0 (.c0 .n)) ⟨⟨ok1,tv⟩,⟨ok2,tv⟩,tv⟩
abbrev ff2_.Ty (g:SortG):Type:=(List g.α)→Int→Int→Int→Int→Option (Int×Int)
def ff2_.Ctr (g:SortG)(s:ff2_.Ty g):Prop:=∀ {x1:List g.α} {x2:Int} {x3:Int} {x4:Int} {x5:Int} {ch_0_0:Option Addr} {ch_0_1:Nat} {ch_0_2:Nat} {ch_4_0:Nat} {r:Int×Int} (h0:s x1 x2 x3 x4 x5=some r) {mi:Mem} {w0:World},CtrB Tryz.prog (g.φ 128) [(.s ch_0_0 ch_0_1 ch_0_2),(.i x2),(.i x3),(.i x4),(.p ch_4_0),(.v (.func (.func g.fc) #[] #[]))] [Res.row g.T g.e ch_0_0 ch_0_1 ch_0_2 x1,Res.cells ch_4_0 3 [.i x5]] (fun (ch:Unit)=>((.i r.1):D)) (fun (ch:Unit)=>[Res.row g.T g.e ch_0_0 ch_0_1 ch_0_2 x1,Res.cells ch_4_0 3 [.i r.2]]) mi w0
def ff2_.f (g:SortG)(k:Nat)(x1:List g.α)(x2:Int)(x3:Int)(x4:Int)(x5:Int):Option (Int×Int):=(ff7_.f g k x1 x2 x3 x5).bind fun t1=>((ff7_.f g k x1 t1.2.1 x4 t1.2.2).bind fun t2=>((ff7_.f g k x1 t1.1 t2.1 t2.2.2).bind fun t3=>(some (t3.2.1,t3.2.2))))
theorem ff2_.ok (g:SortG)(h:SortG.Ok g)(k:Nat):ff2_.Ctr g (ff2_.f g k):=by
 intro x1 x2 x3 x4 x5 ch_0_0 ch_0_1 ch_0_2 ch_4_0 r h0 mi w0 ok hm
 delta ff2_.f at h0
 refine c_enterG (n:=41) [(.s ch_0_0 ch_0_1 ch_0_2),(.i x2),(.i x3),(.i x4),(.p ch_4_0),(.v (.func (.func g.fc) #[] #[]))] (l:=[(0,(.s ch_0_0 ch_0_1 ch_0_2)),(1,(.i x2)),(2,(.i x3)),(3,(.i x4)),(4,(.p ch_4_0)),(5,(.v (.func (.func g.fc) #[] #[])))]) h.n128 rfl rfl rfl ok hm ?_
 clear ok hm
 intro b0 hb a S
 refine c_region (s_as1 S rfl fun a S=>c_end (c_region (s_mv5 S rfl fun a S=>bindX h0 fun t1 et1 h1=>s_callK S (ff7_.ok g h k et1) h.n130.fn rfl .pre (fun _=> .c2) rfl fun ch1 m le1 a w S=>s_mv1 S rfl fun a S=>s_extract S rfl rfl rfl rfl fun a S=>s_extract S rfl rfl rfl rfl fun a S=>s_as2 S rfl fun a S=>c_end (c_region (s_mv5 S rfl fun a S=>bindX h1 fun t2 et2 h2=>s_callK S (ff7_.ok g h k et2) h.n130.fn rfl .pre (fun _=> .c2) rfl fun ch2 m le1 a w S=>s_mv1 S rfl fun a S=>s_extract S rfl rfl rfl rfl fun a S=>s_extract S rfl rfl rfl rfl fun a S=>s_as2 S rfl fun a S=>c_end (c_region (s_mv5 S rfl fun a S=>bindX h2 fun t3 et3 h3=>s_callK S (ff7_.ok g h k et3) h.n130.fn rfl .pre (fun _=> .c2) rfl fun ch3 m le1 a w S=>s_mv1 S rfl fun a S=>s_extract S rfl rfl rfl rfl fun a S=>s_extract S rfl rfl rfl rfl fun a S=>s_as2 S rfl fun a S=>c_end (c_region (s_mv1 S rfl fun a S=>s_as1 S rfl fun a S=>c_end (wp_ret ?_))))))))))
 obtain rfl:=sI h3
 exact b_ret1 (d:=(.i t3.2.1)) S rfl rfl fun ok=>S.retX (Hx:=[]) hb _ _ (():Unit) (.c0 (.c0 .n)) ok
abbrev fa8_.Ty (g:SortG):Type:=(List g.α)→Int→Int→Option (Int×Int)
def fa8_.Ctr (g:SortG)(s:fa8_.Ty g):Prop:=∀ {x1:List g.α} {x2:Int} {x3:Int} {ch_0_0:Option Addr} {ch_0_1:Nat} {ch_0_2:Nat} {ch_2_0:Nat} {r:Int×Int} (h0:s x1 x2 x3=some r) {mi:Mem} {w0:World},CtrB Tryz.prog (g.φ 127) [(.s ch_0_0 ch_0_1 ch_0_2),(.i x2),(.p ch_2_0),(.v (.func (.func g.fc) #[] #[]))] [Res.row g.T g.e ch_0_0 ch_0_1 ch_0_2 x1,Res.cells ch_2_0 3 [.i x3]] (fun (ch:Unit)=>((.i r.1):D)) (fun (ch:Unit)=>[Res.row g.T g.e ch_0_0 ch_0_1 ch_0_2 x1,Res.cells ch_2_0 3 [.i r.2]]) mi w0
def fa8_.f (g:SortG)(k:Nat)(x1:List g.α)(x2:Int)(x3:Int):Option (Int×Int):=(ff2_.f g k x1 (wr .i64 (x2 - 1)) x2 (wr .i64 (x2+1)) x3).bind fun t1=>(some (t1.1,t1.2))
theorem fa8_.ok (g:SortG)(h:SortG.Ok g)(k:Nat):fa8_.Ctr g (fa8_.f g k):=by
 intro x1 x2 x3 ch_0_0 ch_0_1 ch_0_2 ch_2_0 r h0 mi w0 ok hm
 delta fa8_.f at h0
 refine c_enterG (n:=18) [(.s ch_0_0 ch_0_1 ch_0_2),(.i x2),(.p ch_2_0),(.v (.func (.func g.fc) #[] #[]))] (l:=[(0,(.s ch_0_0 ch_0_1 ch_0_2)),(1,(.i x2)),(2,(.p ch_2_0)),(3,(.v (.func (.func g.fc) #[] #[])))]) h.n127 rfl rfl rfl ok hm ?_
 clear ok hm
 intro b0 hb a S
 refine c_region (s_as1 S rfl fun a S=>c_end (c_region (s_mv2 S rfl fun a S=>s_bi S rfl fun a S=>s_mv2 S rfl fun a S=>s_bi S rfl fun a S=>s_mv2 S rfl fun a S=>bindX h0 fun t1 et1 h1=>s_callK S (ff2_.ok g h k et1) h.n128.fn rfl .pre (fun _=> .c2) rfl fun ch1 m le1 a w S=>s_as1 S rfl fun a S=>c_end (wp_ret ?_))))
 obtain rfl:=sI h1
 exact b_ret1 (d:=(.i t1.1)) S rfl rfl fun ok=>S.retX (Hx:=[]) hb _ _ (():Unit) (.c0 (.c0 .n)) ok
abbrev fc2_.Ty (g:SortG):Type:=(List g.α)→Int→Int→Option (Int×Int)
def fc2_.Ctr (g:SortG)(s:fc2_.Ty g):Prop:=∀ {x1:List g.α} {x2:Int} {x3:Int} {ch_0_0:Option Addr} {ch_0_1:Nat} {ch_0_2:Nat} {r:Int×Int} (h0:s x1 x2 x3=some r) {mi:Mem} {w0:World},CtrB Tryz.prog (g.φ 116) [(.s ch_0_0 ch_0_1 ch_0_2),(.i x2),(.i x3),(.v (.func (.func g.fc) #[] #[]))] [Res.row g.T g.e ch_0_0 ch_0_1 ch_0_2 x1] (fun (ch:Unit)=>((.tup [(false,[.i r.1]),(false,[.i r.2])]):D)) (fun (ch:Unit)=>[Res.row g.T g.e ch_0_0 ch_0_1 ch_0_2 x1]) mi w0
def fc2_.j1 (g:SortG)(y1:Int)(y2:Int):Option (Int×Int):=if (y2==0)=true then (some (y1,1)) else (if (y2==12)=true then (some (y1,2)) else (some (y1,0)))
def fc2_.j2 (g:SortG)(k:Nat)(x1:List g.α)(y3:Int)(y4:Int)(y5:Int)(y6:Int):Option (Int×Int):=(ff2_.f g k x1 y5 y4 y3 y6).bind fun t1=>(fc2_.j1 g t1.1 t1.2)
def fc2_.f (g:SortG)(k:Nat)(x1:List g.α)(x2:Int)(x3:Int):Option (Int×Int):=if (decide (8≤(wr .i64 (x3 - x2))))=true then (if (decide (50≤(wr .i64 (x3 - x2))))=true then ((fa8_.f g k x1 (wr .i64 (x2+(wr .i64 ((wr .i64 (Int.tdiv (wr .i64 (x3 - x2)) 4))*1)))) 0).bind fun t2=>((fa8_.f g k x1 (wr .i64 (x2+(wr .i64 ((wr .i64 (Int.tdiv (wr .i64 (x3 - x2)) 4))*2)))) t2.2).bind fun t3=>((fa8_.f g k x1 (wr .i64 (x2+(wr .i64 ((wr .i64 (Int.tdiv (wr .i64 (x3 - x2)) 4))*3)))) t3.2).bind fun t4=>(fc2_.j2 g k x1 t4.1 t3.1 t2.1 t4.2)))) else (fc2_.j2 g k x1 (wr .i64 (x2+(wr .i64 ((wr .i64 (Int.tdiv (wr .i64 (x3 - x2)) 4))*3)))) (wr .i64 (x2+(wr .i64 ((wr .i64 (Int.tdiv (wr .i64 (x3 - x2)) 4))*2)))) (wr .i64 (x2+(wr .i64 ((wr .i64 (Int.tdiv (wr .i64 (x3 - x2)) 4))*1)))) 0)) else (fc2_.j1 g (wr .i64 (x2+(wr .i64 ((wr .i64 (Int.tdiv (wr .i64 (x3 - x2)) 4))*2)))) 0)
theorem fc2_.ok (g:SortG)(h:SortG.Ok g)(k:Nat):fc2_.Ctr g (fc2_.f g k):=by
 intro x1 x2 x3 ch_0_0 ch_0_1 ch_0_2 r h0 mi w0 ok hm
 delta fc2_.f at h0
 refine c_enterG (n:=63) [(.s ch_0_0 ch_0_1 ch_0_2),(.i x2),(.i x3),(.v (.func (.func g.fc) #[] #[]))] (l:=[(0,(.s ch_0_0 ch_0_1 ch_0_2)),(1,(.i x2)),(2,(.i x3)),(3,(.v (.func (.func g.fc) #[] #[])))]) h.n116 rfl rfl rfl ok hm ?_
 clear ok hm
 intro b0 hb a S
 refine c_region (s_as2 S rfl fun a S=>c_end (c_region (s_mv2 S rfl fun a S=>s_bi S rfl fun a S=>s_as1 S rfl fun a S=>c_end (c_region (s_alloc S Z3 rfl rfl rfl fun g1 a w S=>c_end (c_region (s_mv2 S rfl fun a S=>s_quo S rfl rfl (by decide) rfl fun a S=>s_bi S rfl fun a S=>s_bi S rfl fun a S=>s_as1 S rfl fun a S=>c_end (c_region (s_mv2 S rfl fun a S=>s_quo S rfl rfl (by decide) rfl fun a S=>s_bi S rfl fun a S=>s_bi S rfl fun a S=>s_as1 S rfl fun a S=>c_end (c_region (s_mv2 S rfl fun a S=>s_quo S rfl rfl (by decide) rfl fun a S=>s_bi S rfl fun a S=>s_bi S rfl fun a S=>s_as1 S rfl fun a S=>c_end (wp_seq_k fun K1 hK1=>?_))))))))))))
 have j1:∀ m y1 g3 y2 a w,St 63 m b0 [(13,(.i y1)),(11,(.p g3))] [Res.row g.T g.e ch_0_0 ch_0_1 ch_0_2 x1,Res.cells g3 3 [.i y2]] a w→fc2_.j1 g y1 y2=some r→K1 a w:=by
  intro m y1 g3 y2 a w S h0
  delta fc2_.j1 at h0
  refine hK1 a w (c_region (s_load1 S rfl .h1 T3 (v:=(.int .i64 y2)) rfl rfl fun a S=>c_end (wp_block (c_region (s_bi S rfl fun a S=>s_as1 S rfl fun a S=>c_end ?_)))))
  rcases ite_of h0 with ⟨c1,h1⟩ | ⟨c1,h1⟩
  ·refine c_condT S rfl c1 (c_region (s_mv1 S rfl fun a S=>s_as2 S rfl fun a S=>c_end (wp_ret (x_blockR ?_))))
   obtain rfl:=sI h1
   exact b_ret2 (d1:=(.i y1)) (d2:=(.i 1)) S rfl rfl rfl fun ok1 ok2=>S.retX (Hx:=[]) hb _ _ (():Unit) (.c0 .n) ⟨⟨ok1,tv⟩,⟨ok2,tv⟩,tv⟩
  ·refine c_condF S rfl c1 (c_region (s_bi S rfl fun a S=>s_as1 S rfl fun a S=>c_end ?_))
   rcases ite_of h1 with ⟨c2,h2⟩ | ⟨c2,h2⟩
   ·refine c_condT S rfl c2 (c_region (s_mv1 S rfl fun a S=>s_as2 S rfl fun a S=>c_end (wp_ret (x_blockR ?_))))
    obtain rfl:=sI h2
    exact b_ret2 (d1:=(.i y1)) (d2:=(.i 2)) S rfl rfl rfl fun ok1 ok2=>S.retX (Hx:=[]) hb _ _ (():Unit) (.c0 .n) ⟨⟨ok1,tv⟩,⟨ok2,tv⟩,tv⟩
   ·refine c_condF S rfl c2 (c_region (s_mv1 S rfl fun a S=>s_as2 S rfl fun a S=>c_end (wp_ret (x_blockR ?_))))
    obtain rfl:=sI h2
    exact b_ret2 (d1:=(.i y1)) (d2:=(.i 0)) S rfl rfl rfl fun ok1 ok2=>S.retX (Hx:=[]) hb _ _ (():Unit) (.c0 .n) ⟨⟨ok1,tv⟩,⟨ok2,tv⟩,tv⟩
 refine c_region (s_mv1 S rfl fun a S=>s_bi S rfl fun a S=>c_end ?_)
 rcases ite_of h0 with ⟨c3,h1⟩ | ⟨c3,h1⟩
 ·refine c_condT S rfl c3 (wp_seq_k fun K2 hK2=>?_)
  have j2:∀ m y3 y4 y5 g4 y6 a w,St 63 m b0 [(14,(.i y3)),(13,(.i y4)),(12,(.i y5)),(11,(.p g4)),(0,(.s ch_0_0 ch_0_1 ch_0_2)),(3,(.v (.func (.func g.fc) #[] #[])))] [Res.row g.T g.e ch_0_0 ch_0_1 ch_0_2 x1,Res.cells g4 3 [.i y6]] a w→fc2_.j2 g k x1 y3 y4 y5 y6=some r→K2 a w:=by
   intro m y3 y4 y5 g4 y6 a w S h0
   delta fc2_.j2 at h0
   refine hK2 a w (c_region' (s_mv5 S rfl fun a S=>bindX h0 fun t1 et1 h1=>s_callK S (ff2_.ok g h k et1) h.n128.fn rfl .pre (fun _=> .c2) rfl fun ch1 m le1 a w S=>s_as1 S rfl fun a S=>c_end' (x_thenN ?_)))
   exact j1 _ t1.1 g4 t1.2 a w (S.sb rfl (.c0 (.c0 .n))) h1
  refine c_region (s_mv1 S rfl fun a S=>s_bi S rfl fun a S=>c_end ?_)
  rcases ite_of h1 with ⟨c4,h2⟩ | ⟨c4,h2⟩
  ·refine c_condT S rfl c4 (c_region (s_mv3 S rfl fun a S=>bindX h2 fun t2 et2 h3=>s_callK S (fa8_.ok g h k et2) h.n127.fn rfl (.c1 (.c0 .n)) (fun _=> .c2) rfl fun ch2 m le1 a w S=>s_as1 S rfl fun a S=>c_end (c_region (s_mv3 S rfl fun a S=>bindX h3 fun t3 et3 h4=>s_callK S (fa8_.ok g h k et3) h.n127.fn rfl .pre (fun _=> .c2) rfl fun ch3 m le1 a w S=>s_as1 S rfl fun a S=>c_end (c_region' (s_mv3 S rfl fun a S=>bindX h4 fun t4 et4 h5=>s_callK S (fa8_.ok g h k et4) h.n127.fn rfl .pre (fun _=> .c2) rfl fun ch4 m le1 a w S=>s_as1 S rfl fun a S=>c_end' (x_thenN ?_)))))))
   exact j2 _ t4.1 t3.1 t2.1 g1 t4.2 a w (S.sb rfl (.c0 (.c0 .n))) h5
  ·refine c_condF S rfl c4 (wp_skip (x_thenN ?_))
   exact j2 _ (wr .i64 (x2+(wr .i64 ((wr .i64 (Int.tdiv (wr .i64 (x3 - x2)) 4))*3)))) (wr .i64 (x2+(wr .i64 ((wr .i64 (Int.tdiv (wr .i64 (x3 - x2)) 4))*2)))) (wr .i64 (x2+(wr .i64 ((wr .i64 (Int.tdiv (wr .i64 (x3 - x2)) 4))*1)))) g1 0 a w (S.sb rfl (.c1 (.c0 .n))) h2
 ·refine c_condF S rfl c3 (wp_skip (x_thenN ?_))
  exact j1 _ (wr .i64 (x2+(wr .i64 ((wr .i64 (Int.tdiv (wr .i64 (x3 - x2)) 4))*2)))) g1 0 a w (S.sb rfl (.c1 (.c0 .n))) h1
abbrev fb2_.Ty (g:SortG):Type:=(List g.α)→Int→Int→Option (List g.α)
def fb2_.Ctr (g:SortG)(s:fb2_.Ty g):Prop:=∀ {x1:List g.α} {x2:Int} {x3:Int} {ch_0_0:Option Addr} {ch_0_1:Nat} {ch_0_2:Nat} {r:List g.α} (h0:s x1 x2 x3=some r) {mi:Mem} {w0:World},CtrB Tryz.prog (g.φ 117) [(.s ch_0_0 ch_0_1 ch_0_2),(.i x2),(.i x3),(.v (.func (.func g.fc) #[] #[]))] [Res.row g.T g.e ch_0_0 ch_0_1 ch_0_2 x1] (fun (ch:Unit)=>((.tup []):D)) (fun (ch:Unit)=>[Res.row g.T g.e ch_0_0 ch_0_1 ch_0_2 r]) mi w0
def fb2_.b1 (g:SortG)(rec1:(List g.α)→Int→Int→Option (List g.α))(y1:List g.α)(y2:Int)(y3:Int):Option (List g.α):=if (decide (y3<y2))=true then (if (0:Int)≤y2∧y2<((y1).length:Int) then (if (0:Int)≤y3∧y3<((y1).length:Int) then (if (0:Int)≤y2∧y2<((y1.set (Int.toNat y3) (gt y1 y2)).length:Int) then (rec1 ((y1.set (Int.toNat y3) (gt y1 y2)).set (Int.toNat y2) (gt y1 y3)) (wr .i64 (y2 - 1)) (wr .i64 (y3+1))) else none) else none) else none) else (some y1)
def fb2_.l1 (g:SortG):Nat→(List g.α)→Int→Int→Option (List g.α)
  | 0,_,_,_=>none
  | q+1,y1,y2,y3=>fb2_.b1 g (fb2_.l1 g q) y1 y2 y3
def fb2_.f (g:SortG)(k:Nat)(x1:List g.α)(x2:Int)(x3:Int):Option (List g.α):=fb2_.l1 g k x1 (wr .i64 (x3 - 1)) x2
theorem fb2_.ok (g:SortG)(h:SortG.Ok g)(k:Nat):fb2_.Ctr g (fb2_.f g k):=by
 intro x1 x2 x3 ch_0_0 ch_0_1 ch_0_2 r h0 mi w0 ok hm
 delta fb2_.f at h0
 refine c_enterG (n:=34) [(.s ch_0_0 ch_0_1 ch_0_2),(.i x2),(.i x3),(.v (.func (.func g.fc) #[] #[]))] (l:=[(0,(.s ch_0_0 ch_0_1 ch_0_2)),(1,(.i x2)),(2,(.i x3)),(3,(.v (.func (.func g.fc) #[] #[])))]) h.n117 rfl rfl rfl ok hm ?_
 clear ok hm
 intro b0 hb a S
 refine c_region (s_mv1 S rfl fun a S=>s_as1 S rfl fun a S=>c_end (c_region (s_mv1 S rfl fun a S=>s_bi S rfl fun a S=>s_as1 S rfl fun a S=>c_end (wp_block ?_))))
 refine c_loop (fun q1 a w=>∃ m y1 y2 y3,St 34 m b0 [(9,(.i y2)),(8,(.i y3)),(0,(.s ch_0_0 ch_0_1 ch_0_2))] [Res.row g.T g.e ch_0_0 ch_0_1 ch_0_2 y1] a w∧fb2_.l1 g q1 y1 y2 y3=some r) ?_ ?_ (k:=k) ⟨_,x1,(wr .i64 (x3 - 1)),x2,(S.sb rfl (.c0 .n)),h0⟩
 ·rintro a w ⟨m,y1,y2,y3,S,h0⟩
  exact (nomatch (show (none:Option (List g.α))=some r from h0))
 ·clear S h0
  rintro q1 a w ⟨m,y1,y2,y3,S,h0⟩
  replace h0:fb2_.b1 g (fb2_.l1 g q1) y1 y2 y3=some r:=h0
  delta fb2_.b1 at h0
  refine wp_seq (c_region (s_mv2 S rfl fun a S=>s_bi S rfl fun a S=>c_end ?_))
  rcases ite_of h0 with ⟨c1,h1⟩ | ⟨c1,h1⟩
  ·refine c_condT S rfl c1 (wp_skip (x_thenN (wp_block ?_)))
   have hS:=S.rowx (fun _=> .h)
   clear S; obtain ⟨cs1,S⟩:=hS
   refine wp_seq (c_hS S (.take 0 (.take 1 (.tk 4 9 (.pure 2 (.pure 3 (.alts (.run 13 false (.alts (.run 14 false (.alts (.run 15 false .done .nil)) .nil)) .nil))))))) 13 (.c0 .n) ⟨Res.stay_rowx,tv⟩ [(9,(.i y2)),(8,(.i y3)),(0,(.s ch_0_0 ch_0_1 ch_0_2))] rfl (by kernel_rfl) ?_); clear S; intro w S CL hw le
   refine h_mv4 S CL hw le rfl tv tv tv tv fun a S CL=>?_
   obtain ⟨c2,h2⟩:=chk_of h1; clear h1
   refine h_iaddrX S CL hw le (subR rfl) (ty':=g.T) rfl .h rfl h.hU h.hT c2.1 c2.2 rfl rfl tv fun g1 a hA1 S CL=>h_ldXW S CL hw le (subR rfl) (i:=y2) rfl hA1 .h h.hT c2.1 c2.2 rfl rfl rfl tv fun ch1 a S CL=>h_mv2 S CL hw le rfl tv tv fun a S CL=>?_
   obtain ⟨c3,h3⟩:=chk_of h2; clear h2
   refine h_iaddrX S CL hw le (subR rfl) (ty':=g.T) rfl .h rfl h.hU h.hT c3.1 c3.2 rfl rfl tv fun g2 a hA2 S CL=>h_ldXW S CL hw le (subR rfl) (i:=y3) rfl hA2 .h h.hT c3.1 c3.2 rfl rfl rfl tv fun ch2 a S CL=>h_iaddrX S CL hw le (subR rfl) (ty':=g.T) rfl .h rfl h.hU h.hT c3.1 c3.2 rfl rfl tv fun g3 a hA3 S CL=>p_move S rfl rfl rfl tv fun a S=>p_move S rfl rfl rfl tv fun a S=>h_run' S rfl tv ?_
   replace S:=S.rowu .h
   refine s_stRW S (i:=y3) (u:=gt y1 y2) (cu:=ch1) rfl rfl hA3 .h h.hT c3.1 c3.2 rfl fun w S=>?_
   refine h_back ⟨fun h=>(nomatch h),?_⟩
   refine h_run' S rfl tv ?_
   obtain ⟨c4,h4⟩:=chk_of h3; clear h3
   refine s_iaddrO S (ty':=g.T) rfl .h rfl h.hU h.hT c4.1 c4.2 rfl fun g4 a hA4 S=>?_
   refine h_back ⟨fun h=>(nomatch h),?_⟩
   refine h_run' S rfl tv (s_stRW S (i:=y2) (u:=gt y1 y3) (cu:=ch2) rfl rfl hA4 .h h.hT c4.1 c4.2 rfl fun w S=>?_)
   refine h_back ⟨fun h=>(nomatch h),?_⟩
   refine h_done ?_; clear CL hw le
   refine x_thenN (c_region (s_mv1 S rfl fun a S=>s_bi S rfl fun a S=>s_as1 S rfl fun a S=>c_end (c_region' (s_mv1 S rfl fun a S=>s_bi S rfl fun a S=>s_as1 S rfl fun a S=>c_end' (x_blockN (x_thenN ?_))))))
   exact ⟨_,((y1.set (Int.toNat y3) (gt y1 y2)).set (Int.toNat y2) (gt y1 y3)),(wr .i64 (y2 - 1)),(wr .i64 (y3+1)),(S.sb rfl (.c0 .n)),h4⟩
  ·refine c_condF S rfl c1 (wp_exit (x_thenX (x_thenX (x_blockX (b_end ?_)))))
   obtain rfl:=sI h1
   exact b_ret0 S rfl (S.retX (Hx:=[]) hb _ _ (():Unit) (.c0 .n) tv)
end
end GW
