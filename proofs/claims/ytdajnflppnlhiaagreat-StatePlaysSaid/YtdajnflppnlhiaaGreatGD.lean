import Derived.Test.YtdajnflppnlhiaaGreatProg
import Derived.Test.YtdajnflppnlhiaaGreatGC
set_option linter.unusedVariables false
set_option linter.unusedSimpArgs false
set_option maxRecDepth 10000
set_option maxHeartbeats 4000000
namespace GW
open Go Go.RowKit Go.Proofs Go.Proofs.Tryz
noncomputable section
abbrev ff9_.Ty:Type:=W2→ST37→(List (List Int))→W29→Option W27
def ff9_.Ctr (s:ff9_.Ty):Prop:=∀ {x1:W2} {x2:ST37} {x3:List (List Int)} {x4:W29} {ch_0:W3} {ch_1_0:(Option Addr×Nat)×(Option Addr×Nat)×(Option Addr×Nat)×(Option Addr×Nat)×Unit×(Option Addr×Nat)×Unit×(Option Addr×Nat)} {ch_2_0:Option Addr} {ch_2_1:Nat} {ch_2_2:Nat} {ch_3_0:Option Addr} {ch_3_1:Nat} {r:W27} (h0:s x1 x2 x3 x4=some r) {mi:Mem} {w0:World},CtrB Tryz.prog 12 [(.v (.pointer (some ⟨ch_0.1,0,none⟩))),(.agg (SY37.segs x2 ch_1_0)),(.s ch_2_0 ch_2_1 ch_2_2),(.agg (Y46.segs x4 ((),(),(),(),(),(ch_3_0,ch_3_1))))] (MS1 x1 ch_0++[Res.row (Ty.arr .i64 2) 103 ch_2_0 ch_2_1 ch_2_2 x3]) (fun (ch:W28)=>((.tup [(false,[.b r.1]),(true,(SY37.segs r.2.1 ch.1)),(false,[.s ch.2.1 ch.e3 ch.e4])]):D)) (fun (ch:W28)=>([Res.row (Ty.arr .i64 2) 103 ch.2.1 ch.e3 ch.e4 r.e3]++MS1 r.t3 (ch_0.1,ch.e5,ch.e6,ch.e7,ch.e8,ch.e9,ch.e10,ch.e11,ch.e12,ch.e13,ch.e14,ch.e15,ch.e16,ch.e17,ch.e18,ch.t18))) mi w0
def ff9_.j1 (y1:Bool)(y2:List (List Int))(y3:List L71)(y4:W15)(y5:List L110)(y6:W16)(y7:W17)(y8:Int)(y9:List L100)(y10:List Clo)(y11:List (List Int))(y12:ST37):Option W27:=some (y1,y12,y2,(y3,(y4,y5,y6,y7),y8,y9,y10,y11))
def ff9_.f (k:Nat)(x1:W2)(x2:ST37)(x3:List (List Int))(x4:W29):Option W27:=if (x4.1==0)=true then ((fe1_.f k x1 x4.2.1 x4.2.2.2.2.1).bind fun t1=>((fa3_.f k x2 x4.2.1 x4.2.2.2.2.1).bind fun t2=>(ff9_.j1 true x3 x1.1 t1.2.1.1 t1.2.1.2.1 t1.2.1.2.2.1 t1.2.1.2.2.2 x1.2.2.1 t1.2.2.2.1 t1.2.2.2.2.1 t1.2.2.2.2.2 t2))) else (if (x4.1==1)=true then ((fc2_.f k x1 x4.2.1 x4.2.2.2.1).bind fun t3=>((fa0_.f k x2 x4.2.1 x4.2.2.2.1).bind fun t4=>(ff9_.j1 true x3 x1.1 t3.2.1.1 t3.2.1.2.1 t3.2.1.2.2.1 t3.2.1.2.2.2 x1.2.2.1 t3.2.2.2.1 t3.2.2.2.2.1 t3.2.2.2.2.2 t4))) else (if (x4.1==2)=true then ((fe6_.f k x1 x4.2.1 x4.2.2.2.2.2).bind fun t5=>((fa6_.f k x2 x4.2.1 x4.2.2.2.2.2).bind fun t6=>(ff9_.j1 true x3 x1.1 t5.2.1.1 t5.2.1.2.1 t5.2.1.2.2.1 t5.2.1.2.2.2 x1.2.2.1 t5.2.2.2.1 t5.2.2.2.2.1 t5.2.2.2.2.2 t6))) else (if (x4.1==3)=true then ((fh_.f k x1 x4.2.1).bind fun t7=>((fc1_.f k x2 x4.2.1).bind fun t8=>(ff9_.j1 true x3 x1.1 t7.2.1.1 t7.2.1.2.1 t7.2.1.2.2.1 t7.2.1.2.2.2 x1.2.2.1 t7.2.2.2.1 t7.2.2.2.2.1 t7.2.2.2.2.2 t8))) else (if (x4.1==4)=true then ((fi_.f k x1 x4.2.1 x4.2.2.1 x4.2.2.2.1).bind fun t9=>((fd_.f k x2 x4.2.1 x4.2.2.1 x4.2.2.2.1).bind fun t10=>(ff9_.j1 true x3 x1.1 t9.2.1.1 t9.2.1.2.1 t9.2.1.2.2.1 t9.2.1.2.2.2 x1.2.2.1 t9.2.2.2.1 t9.2.2.2.2.1 t9.2.2.2.2.2 t10))) else (if (x4.1==5)=true then ((fb3_.f k x2 x4.2.1).bind fun t11=>((fg6_.f k x1 x4.2.1).bind fun t12=>(ff9_.j1 (t12.1==t11.1) x3 x1.1 t12.2.2.1.1 t12.2.2.1.2.1 t12.2.2.1.2.2.1 t12.2.2.1.2.2.2 x1.2.2.1 t12.2.2.2.2.1 t12.2.2.2.2.2.1 t12.2.2.2.2.2.2 t11.2))) else (if (x4.1==6)=true then ((fa1_.f k x2 x4.2.1 x4.2.2.1).bind fun t13=>((fd7_.f k x1 x4.2.1 x4.2.2.1).bind fun t14=>(ff9_.j1 (t14.1==t13.1) x3 x1.1 t14.2.2.1.1 t14.2.2.1.2.1 t14.2.2.1.2.2.1 t14.2.2.1.2.2.2 x1.2.2.1 t14.2.2.2.2.1 t14.2.2.2.2.2.1 t14.2.2.2.2.2.2 t13.2))) else (if (x4.1==7)=true then ((fh9_.f x1 (wr .i64 x4.2.2.2.2.1)).bind fun t15=>((fd5_.f x2 (wr .i64 x4.2.2.2.2.1)).bind fun t16=>(ff9_.j1 true x3 x1.1 x1.2.1.1 x1.2.1.2.1 x1.2.1.2.2.1 x1.2.1.2.2.2 t15.2.2.1 x1.2.2.2.1 t15.2.2.2.2.1 x1.2.2.2.2.2 t16))) else (if (x4.1==8)=true then ((fi2_.f x1 (x4.2.1,[x4.2.2.1,x4.2.2.2.1],x4.2.2.2.2.2)).bind fun t17=>((fd3_.f x2 (x4.2.1,[x4.2.2.1,x4.2.2.2.1],x4.2.2.2.2.2)).bind fun t18=>(ff9_.j1 true x3 x1.1 x1.2.1.1 x1.2.1.2.1 x1.2.1.2.2.1 x1.2.1.2.2.2 x1.2.2.1 t17.2.2.2.1 t17.2.2.2.2.1 x1.2.2.2.2.2 t18))) else (if (x4.1==9)=true then ((fe5_.f k x1 x4.2.1).bind fun t19=>((fa5_.f k x2 x4.2.1).bind fun t20=>(ff9_.j1 true x3 x1.1 t19.2.1.1 t19.2.1.2.1 t19.2.1.2.2.1 t19.2.1.2.2.2 x1.2.2.1 t19.2.2.2.1 t19.2.2.2.2.1 t19.2.2.2.2.2 t20))) else (if (x4.1==10)=true then ((fh6_.f x1).bind fun t21=>(if ((x3).length+([[t21,(((ST37.un x2).2.2.2.2.2.2.2).length:Int)]]).length)*16≤140737488355328 then (ff9_.j1 true (x3++[[t21,(((ST37.un x2).2.2.2.2.2.2.2).length:Int)]]) x1.1 x1.2.1.1 x1.2.1.2.1 x1.2.1.2.2.1 x1.2.1.2.2.2 x1.2.2.1 x1.2.2.2.1 x1.2.2.2.2.1 x1.2.2.2.2.2 x2) else none)) else (if (decide (0<((x3).length:Int)))=true then (if (wr .u64 ((x3).length:Int))≠0 then (if (0:Int)≤(wr .i64 (Int.tmod x4.2.2.2.2.1 (wr .u64 ((x3).length:Int))))∧(wr .i64 (Int.tmod x4.2.2.2.2.1 (wr .u64 ((x3).length:Int))))<((x3).length:Int) then ((fh0_.f k x1 (rd (gt x3 (wr .i64 (Int.tmod x4.2.2.2.2.1 (wr .u64 ((x3).length:Int))))) 0)).bind fun t22=>((fc6_.f x2 (rd (gt x3 (wr .i64 (Int.tmod x4.2.2.2.2.1 (wr .u64 ((x3).length:Int))))) 1)).bind fun t23=>(if (0:Int)≤(wr .i64 ((wr .i64 (Int.tmod x4.2.2.2.2.1 (wr .u64 ((x3).length:Int))))+1))∧(wr .i64 ((wr .i64 (Int.tmod x4.2.2.2.2.1 (wr .u64 ((x3).length:Int))))+1))≤((x3).length:Int) then (ff9_.j1 true (x3.take (Int.toNat (wr .i64 ((wr .i64 (Int.tmod x4.2.2.2.2.1 (wr .u64 ((x3).length:Int))))+1)))) t22.1 t22.2.1.1 t22.2.1.2.1 t22.2.1.2.2.1 t22.2.1.2.2.2 t22.2.2.1 t22.2.2.2.1 t22.2.2.2.2.1 t22.2.2.2.2.2 t23) else none))) else none) else none) else (ff9_.j1 true x3 x1.1 x1.2.1.1 x1.2.1.2.1 x1.2.1.2.2.1 x1.2.1.2.2.2 x1.2.2.1 x1.2.2.2.1 x1.2.2.2.2.1 x1.2.2.2.2.2 x2))))))))))))
theorem ff9_.ok (k:Nat):ff9_.Ctr (ff9_.f k):=by
 intro x1 x2 x3 x4 ch_0 ch_1_0 ch_2_0 ch_2_1 ch_2_2 ch_3_0 ch_3_1 r h0 mi w0 ok hm
 delta ff9_.f at h0
 refine c_enterZ (n:=205) ok hm func12 rfl rfl rfl fun b0 hb a S=>c_region (s_box S rfl rfl rfl fun g1 a w S=>s_box S rfl rfl rfl fun g2 a w S=>s_as1 S rfl fun a S=>s_alloc S Z37 rfl ⟨rfl,rfl,rfl,rfl,rfl,rfl,rfl,rfl,trivial⟩ rfl fun g3 a w S=>s_as1 S rfl fun a S=>c_end (c_region (s_as1 S rfl fun a S=>c_end (wp_seq_k fun K1 hK1=>?_))))
 have j1:∀ (m:Mem) (y1:Bool) (g9:Nat) (g10:Nat) (A1:Option Addr) (nn1:Nat) (cp1:Nat) (y2:List (List Int)) (A2:Option Addr) (cp2:Nat) (y3:List L71) (g11:Nat) (y4:List ((List Int)×Option Nat)) (G1:List Nat) (G2:List Nat) (G3:List Nat) (y5:List L110) (y6:List (List ((List Int)×(List Int)))) (y7:List (List ((List Int)×Bool))) (y8:Int) (A3:Option Addr) (nn2:Nat) (cp3:Nat) (y9:List L100) (A4:Option Addr) (nn3:Nat) (cp4:Nat) (y10:List Clo) (A5:Option Addr) (nn4:Nat) (cp5:Nat) (y11:List (List Int)) (y12:ST37) (cc1:(Option Addr×Nat)×(Option Addr×Nat)×(Option Addr×Nat)×(Option Addr×Nat)×Unit×(Option Addr×Nat)×Unit×(Option Addr×Nat)) (a:Act) (w:World),St 205 m b0 [(11,(.b y1)),(9,(.p g9)),(5,(.p g10)),(2,(.s A1 nn1 cp1))] (MS1 (y3,(y4,y5,y6,y7),y8,y9,y10,y11) (ch_0.1,A2,cp2,g11,G1,G2,G3,A3,nn2,cp3,A4,nn3,cp4,A5,nn4,cp5)++[Res.cells g9 37 [.s none 0 0, .s none 0 0, .s none 0 0, .s none 0 0, .i 0, .s none 0 0, .b false, .s none 0 0],Res.cells g10 37 (SY37.segs y12 cc1),Res.row (Ty.arr .i64 2) 103 A1 nn1 cp1 y2]) a w→ff9_.j1 y1 y2 y3 y4 y5 y6 y7 y8 y9 y10 y11 y12=some r→K1 a w:=by
  intro m y1 g9 g10 A1 nn1 cp1 y2 A2 cp2 y3 g11 y4 G1 G2 G3 y5 y6 y7 y8 A3 nn2 cp3 y9 A4 nn3 cp4 y10 A5 nn4 cp5 y11 y12 cc1 a w S h0
  delta ff9_.j1 at h0
  refine hK1 a w ?_
  refine wp_seq (c_hS S (.take 0 (.take 1 (.take 3 (.pure 2 (.alts (.run 4 false (.alts (.run 5 false .done .nil)) .nil)))))) 4 (.c9 .n) ⟨Res.stay_cells,trivial⟩ [(11,(.b y1)),(5,(.p g10))] rfl (by kernel_rfl) ?_); clear S; intro w S CL hw le
  refine h_mv1 S CL hw le rfl trivial fun a S CL=>h_loada S CL hw le (subR rfl) rfl .h T37 (s':=(SY37.segs y12 cc1)) rfl rfl rfl trivial fun a S CL=>h_assign S CL hw le (subR rfl) rfl rfl rfl trivial fun a S CL=>p_move S rfl rfl rfl trivial fun a S=>h_run' S rfl trivial (s_store S rfl rfl rfl (s':=(SY37.segs y12 cc1)) .h8 T37 rfl rfl fun w S=>?_)
  refine h_back ⟨fun h=>(nomatch h),?_⟩
  refine h_run' S rfl trivial (s_as1 S rfl fun a S=>?_)
  refine h_back ⟨fun h=>(nomatch h),?_⟩
  refine h_done ?_; clear CL hw le
  refine x_thenN (wp_ret ?_)
  obtain rfl:=Option.some.inj h0
  exact b_retN S [(.b y1),(.agg (SY37.segs y12 cc1)),(.s A1 nn1 cp1)] rfl rfl ⟨rfl,(resD_cell rfl .h8 T37 rfl rfl),rfl,trivial⟩ fun ⟨ok1,ok2,ok3,_⟩=>S.retX (Hx:=[]) hb _ _ ((cc1,A1,nn1,cp1,A2,cp2,g11,G1,G2,G3,A3,nn2,cp3,A4,nn3,cp4,A5,nn4,cp5):W28) (.c10 (.c0 (.c0 (.c0 (.c0 (.c0 (.c0 (.c0 (.c0 .n))))))))) ⟨⟨ok1,trivial⟩,ok2,⟨ok3,trivial⟩,trivial⟩
 refine c_region (s_fieldAddr S rfl I46_0 T3 (by decide) rfl rfl fun a S=>s_load1 S rfl .h1 T3 (v:=(.int .i64 x4.1)) rfl rfl fun a S=>c_end (wp_block (c_region (s_bi S rfl fun a S=>s_as1 S rfl fun a S=>c_end ?_))))
 rcases ite_of h0 with ⟨c1,h1⟩ | ⟨c1,h1⟩
 ·refine c_condT S rfl c1 (c_region (s_mv1 S rfl fun a S=>s_fieldAddr S rfl I46_1 T40 (by decide) rfl rfl fun a S=>s_loada S rfl .h1 T40 (s':=[.b20 x4.2.1]) rfl rfl fun a S=>s_fieldAddr S rfl I46_4 T41 (by decide) rfl rfl fun a S=>s_load1 S rfl .h1 T41 (v:=(.int .u64 x4.e5)) rfl rfl fun a S=>bindX h1 fun t1 et1 h2=>s_callK S (fe1_.ok k (ch_0:=ch_0) et1) N35 rfl (.sk (.sk (.sk .pre))) (fun _=> .c8) rfl fun ch1 m le1 a w S=>c_end (c_region' (s_loada S rfl .h10 T37 (s':=(SY37.segs x2 ch_1_0)) rfl rfl fun a S=>s_fieldAddr S rfl I46_1 T40 (by decide) rfl rfl fun a S=>s_loada S rfl .h9 T40 (s':=[.b20 x4.2.1]) rfl rfl fun a S=>s_fieldAddr S rfl I46_4 T41 (by decide) rfl rfl fun a S=>s_load1 S rfl .h9 T41 (v:=(.int .u64 x4.e5)) rfl rfl fun a S=>bindX h2 fun t2 et2 h3=>s_callK S (fa3_.ok k (ch_0_0:=ch_1_0) et2) N36 rfl .pre (fun _=> .n) rfl fun ch2 m le1 a w S=>s_store S rfl rfl rfl (s':=(SY37.segs t2 ch2)) .h10 T37 rfl rfl fun w S=>c_end' (x_blockN (x_thenN ?_))))))
  exact j1 _ true g3 g1 ch_2_0 ch_2_1 ch_2_2 x3 ch_0.2.1 ch_0.e3 x1.1 ch1.1 t1.2.1.1 ch1.2.1 ch1.e3 ch1.e4 t1.2.1.2.1 t1.2.1.e3 t1.2.1.t3 x1.e3 ch1.e5 ch1.e6 ch1.e7 t1.e4 ch1.e8 ch1.e9 ch1.e10 t1.e5 ch1.e11 ch1.e12 ch1.t12 t1.t5 t2 ch2 a w (S.sb rfl (.c0 (.c0 (.c0 (.c0 (.c0 (.c0 (.c0 (.c0 (.c0 (.c1 (.c1 .n)))))))))))) h3
 ·refine c_condF S rfl c1 (c_region (s_bi S rfl fun a S=>s_as1 S rfl fun a S=>c_end ?_))
  rcases ite_of h1 with ⟨c2,h2⟩ | ⟨c2,h2⟩
  ·refine c_condT S rfl c2 (c_region (s_mv1 S rfl fun a S=>s_fieldAddr S rfl I46_1 T40 (by decide) rfl rfl fun a S=>s_loada S rfl .h1 T40 (s':=[.b20 x4.2.1]) rfl rfl fun a S=>s_fieldAddr S rfl I46_3 T43 (by decide) rfl rfl fun a S=>s_loada S rfl .h1 T43 (s':=[.w4 x4.e4]) rfl rfl fun a S=>bindX h2 fun t3 et3 h3=>s_callK S (fc2_.ok k (ch_0:=ch_0) et3) N37 rfl (.sk (.sk (.sk .pre))) (fun _=> .c8) rfl fun ch3 m le1 a w S=>c_end (c_region' (s_loada S rfl .h10 T37 (s':=(SY37.segs x2 ch_1_0)) rfl rfl fun a S=>s_fieldAddr S rfl I46_1 T40 (by decide) rfl rfl fun a S=>s_loada S rfl .h9 T40 (s':=[.b20 x4.2.1]) rfl rfl fun a S=>s_fieldAddr S rfl I46_3 T43 (by decide) rfl rfl fun a S=>s_loada S rfl .h9 T43 (s':=[.w4 x4.e4]) rfl rfl fun a S=>bindX h3 fun t4 et4 h4=>s_callK S (fa0_.ok k (ch_0_0:=ch_1_0) et4) N38 rfl .pre (fun _=> .n) rfl fun ch4 m le1 a w S=>s_store S rfl rfl rfl (s':=(SY37.segs t4 ch4)) .h10 T37 rfl rfl fun w S=>c_end' (x_blockN (x_thenN ?_))))))
   exact j1 _ true g3 g1 ch_2_0 ch_2_1 ch_2_2 x3 ch_0.2.1 ch_0.e3 x1.1 ch3.1 t3.2.1.1 ch3.2.1 ch3.e3 ch3.e4 t3.2.1.2.1 t3.2.1.e3 t3.2.1.t3 x1.e3 ch3.e5 ch3.e6 ch3.e7 t3.e4 ch3.e8 ch3.e9 ch3.e10 t3.e5 ch3.e11 ch3.e12 ch3.t12 t3.t5 t4 ch4 a w (S.sb rfl (.c0 (.c0 (.c0 (.c0 (.c0 (.c0 (.c0 (.c0 (.c0 (.c1 (.c1 .n)))))))))))) h4
  ·refine c_condF S rfl c2 (c_region (s_bi S rfl fun a S=>s_as1 S rfl fun a S=>c_end ?_))
   rcases ite_of h2 with ⟨c3,h3⟩ | ⟨c3,h3⟩
   ·refine c_condT S rfl c3 (c_region (s_mv1 S rfl fun a S=>s_fieldAddr S rfl I46_1 T40 (by decide) rfl rfl fun a S=>s_loada S rfl .h1 T40 (s':=[.b20 x4.2.1]) rfl rfl fun a S=>s_fieldAddr S rfl I46_5 T44 (by decide) rfl rfl fun a S=>s_loadSl S rfl .h1 T44 (A:=ch_3_0) (len:=(x4.t5).length) (cap:=ch_3_1) rfl rfl fun a S=>bindX h3 fun t5 et5 h4=>s_callK S (fe6_.ok k (ch_0:=ch_0) et5) N39 rfl (.sk (.sk (.sk .pre))) (fun _=> .c8) rfl fun ch5 m le1 a w S=>c_end (c_region' (s_loada S rfl .h10 T37 (s':=(SY37.segs x2 ch_1_0)) rfl rfl fun a S=>s_fieldAddr S rfl I46_1 T40 (by decide) rfl rfl fun a S=>s_loada S rfl .h9 T40 (s':=[.b20 x4.2.1]) rfl rfl fun a S=>s_fieldAddr S rfl I46_5 T44 (by decide) rfl rfl fun a S=>s_loadSl S rfl .h9 T44 (A:=ch_3_0) (len:=(x4.t5).length) (cap:=ch_3_1) rfl rfl fun a S=>bindX h4 fun t6 et6 h5=>s_callK S (fa6_.ok k (ch_0_0:=ch_1_0) et6) N40 rfl .pre (fun _=> .n) rfl fun ch6 m le1 a w S=>s_store S rfl rfl rfl (s':=(SY37.segs t6 ch6)) .h10 T37 rfl rfl fun w S=>c_end' (x_blockN (x_thenN ?_))))))
    exact j1 _ true g3 g1 ch_2_0 ch_2_1 ch_2_2 x3 ch_0.2.1 ch_0.e3 x1.1 ch5.1 t5.2.1.1 ch5.2.1 ch5.e3 ch5.e4 t5.2.1.2.1 t5.2.1.e3 t5.2.1.t3 x1.e3 ch5.e5 ch5.e6 ch5.e7 t5.e4 ch5.e8 ch5.e9 ch5.e10 t5.e5 ch5.e11 ch5.e12 ch5.t12 t5.t5 t6 ch6 a w (S.sb rfl (.c0 (.c0 (.c0 (.c0 (.c0 (.c0 (.c0 (.c0 (.c0 (.c1 (.c1 .n)))))))))))) h5
   ·refine c_condF S rfl c3 (c_region (s_bi S rfl fun a S=>s_as1 S rfl fun a S=>c_end ?_))
    rcases ite_of h3 with ⟨c4,h4⟩ | ⟨c4,h4⟩
    ·refine c_condT S rfl c4 (c_region (s_mv1 S rfl fun a S=>s_fieldAddr S rfl I46_1 T40 (by decide) rfl rfl fun a S=>s_loada S rfl .h1 T40 (s':=[.b20 x4.2.1]) rfl rfl fun a S=>bindX h4 fun t7 et7 h5=>s_callK S (fh_.ok k (ch_0:=ch_0) et7) N41 rfl (.sk (.sk (.sk .pre))) (fun _=> .c8) rfl fun ch7 m le1 a w S=>c_end (c_region' (s_loada S rfl .h10 T37 (s':=(SY37.segs x2 ch_1_0)) rfl rfl fun a S=>s_fieldAddr S rfl I46_1 T40 (by decide) rfl rfl fun a S=>s_loada S rfl .h9 T40 (s':=[.b20 x4.2.1]) rfl rfl fun a S=>bindX h5 fun t8 et8 h6=>s_callK S (fc1_.ok k (ch_0_0:=ch_1_0) et8) N42 rfl .pre (fun _=> .n) rfl fun ch8 m le1 a w S=>s_store S rfl rfl rfl (s':=(SY37.segs t8 ch8)) .h10 T37 rfl rfl fun w S=>c_end' (x_blockN (x_thenN ?_))))))
     exact j1 _ true g3 g1 ch_2_0 ch_2_1 ch_2_2 x3 ch_0.2.1 ch_0.e3 x1.1 ch7.1 t7.2.1.1 ch7.2.1 ch7.e3 ch7.e4 t7.2.1.2.1 t7.2.1.e3 t7.2.1.t3 x1.e3 ch7.e5 ch7.e6 ch7.e7 t7.e4 ch7.e8 ch7.e9 ch7.e10 t7.e5 ch7.e11 ch7.e12 ch7.t12 t7.t5 t8 ch8 a w (S.sb rfl (.c0 (.c0 (.c0 (.c0 (.c0 (.c0 (.c0 (.c0 (.c0 (.c1 (.c1 .n)))))))))))) h6
    ·refine c_condF S rfl c4 (c_region (s_bi S rfl fun a S=>s_as1 S rfl fun a S=>c_end ?_))
     rcases ite_of h4 with ⟨c5,h5⟩ | ⟨c5,h5⟩
     ·refine c_condT S rfl c5 (c_region (s_mv1 S rfl fun a S=>s_fieldAddr S rfl I46_1 T40 (by decide) rfl rfl fun a S=>s_loada S rfl .h1 T40 (s':=[.b20 x4.2.1]) rfl rfl fun a S=>s_fieldAddr S rfl I46_2 T43 (by decide) rfl rfl fun a S=>s_loada S rfl .h1 T43 (s':=[.w4 x4.e3]) rfl rfl fun a S=>s_fieldAddr S rfl I46_3 T43 (by decide) rfl rfl fun a S=>s_loada S rfl .h1 T43 (s':=[.w4 x4.e4]) rfl rfl fun a S=>bindX h5 fun t9 et9 h6=>s_callK S (fi_.ok k (ch_0:=ch_0) et9) N32 rfl (.sk (.sk (.sk .pre))) (fun _=> .c8) rfl fun ch9 m le1 a w S=>c_end (c_region' (s_loada S rfl .h10 T37 (s':=(SY37.segs x2 ch_1_0)) rfl rfl fun a S=>s_fieldAddr S rfl I46_1 T40 (by decide) rfl rfl fun a S=>s_loada S rfl .h9 T40 (s':=[.b20 x4.2.1]) rfl rfl fun a S=>s_fieldAddr S rfl I46_2 T43 (by decide) rfl rfl fun a S=>s_loada S rfl .h9 T43 (s':=[.w4 x4.e3]) rfl rfl fun a S=>s_fieldAddr S rfl I46_3 T43 (by decide) rfl rfl fun a S=>s_loada S rfl .h9 T43 (s':=[.w4 x4.e4]) rfl rfl fun a S=>bindX h6 fun t10 et10 h7=>s_callK S (fd_.ok k (ch_0_0:=ch_1_0) et10) N43 rfl .pre (fun _=> .n) rfl fun ch10 m le1 a w S=>s_store S rfl rfl rfl (s':=(SY37.segs t10 ch10)) .h10 T37 rfl rfl fun w S=>c_end' (x_blockN (x_thenN ?_))))))
      exact j1 _ true g3 g1 ch_2_0 ch_2_1 ch_2_2 x3 ch_0.2.1 ch_0.e3 x1.1 ch9.1 t9.2.1.1 ch9.2.1 ch9.e3 ch9.e4 t9.2.1.2.1 t9.2.1.e3 t9.2.1.t3 x1.e3 ch9.e5 ch9.e6 ch9.e7 t9.e4 ch9.e8 ch9.e9 ch9.e10 t9.e5 ch9.e11 ch9.e12 ch9.t12 t9.t5 t10 ch10 a w (S.sb rfl (.c0 (.c0 (.c0 (.c0 (.c0 (.c0 (.c0 (.c0 (.c0 (.c1 (.c1 .n)))))))))))) h7
     ·refine c_condF S rfl c5 (c_region (s_bi S rfl fun a S=>s_as1 S rfl fun a S=>c_end ?_))
      rcases ite_of h5 with ⟨c6,h6⟩ | ⟨c6,h6⟩
      ·refine c_condT S rfl c6 (c_region (s_as1 S rfl fun a S=>c_end (c_region (s_loada S rfl .h2 T37 (s':=(SY37.segs x2 ch_1_0)) rfl rfl fun a S=>s_fieldAddr S rfl I46_1 T40 (by decide) rfl rfl fun a S=>s_loada S rfl .h1 T40 (s':=[.b20 x4.2.1]) rfl rfl fun a S=>bindX h6 fun t11 et11 h7=>s_callK S (fb3_.ok k (ch_0_0:=ch_1_0) et11) N44 rfl .pre (fun _=> .n) rfl fun ch11 m le1 a w S=>s_mv1 S rfl fun a S=>s_extract S rfl rfl rfl rfl fun a S=>s_extract S rfl rfl rfl rfl fun a S=>s_as1 S rfl fun a S=>s_store S rfl rfl rfl (s':=(SY37.segs t11.2 ch11)) .h2 T37 rfl rfl fun w S=>c_end (c_region' (s_mv1 S rfl fun a S=>s_fieldAddr S rfl I46_1 T40 (by decide) rfl rfl fun a S=>s_loada S rfl .h1 T40 (s':=[.b20 x4.2.1]) rfl rfl fun a S=>bindX h7 fun t12 et12 h8=>s_callK S (fg6_.ok k (ch_0:=ch_0) et12) N28 rfl (.sk (.sk (.sk .pre))) (fun _=> .c8) rfl fun ch12 m le1 a w S=>s_mv1 S rfl fun a S=>s_eqb S rfl rfl underlying4 rfl fun a S=>s_as1 S rfl fun a S=>c_end' (x_blockN (x_thenN ?_))))))))
       exact j1 _ (t12.1==t11.1) g3 g1 ch_2_0 ch_2_1 ch_2_2 x3 ch_0.2.1 ch_0.e3 x1.1 ch12.1 t12.e3.1 ch12.2.1 ch12.e3 ch12.e4 t12.e3.2.1 t12.e3.e3 t12.e3.t3 x1.e3 ch12.e5 ch12.e6 ch12.e7 t12.e5 ch12.e8 ch12.e9 ch12.e10 t12.e6 ch12.e11 ch12.e12 ch12.t12 t12.t6 t11.2 ch11 a w (S.sb rfl (.c0 (.c0 (.c0 (.c0 (.c0 (.c0 (.c0 (.c0 (.c0 (.c1 (.c1 .n)))))))))))) h8
      ·refine c_condF S rfl c6 (c_region (s_bi S rfl fun a S=>s_as1 S rfl fun a S=>c_end ?_))
       rcases ite_of h6 with ⟨c7,h7⟩ | ⟨c7,h7⟩
       ·refine c_condT S rfl c7 (c_region (s_as1 S rfl fun a S=>c_end (c_region (s_loada S rfl .h2 T37 (s':=(SY37.segs x2 ch_1_0)) rfl rfl fun a S=>s_fieldAddr S rfl I46_1 T40 (by decide) rfl rfl fun a S=>s_loada S rfl .h1 T40 (s':=[.b20 x4.2.1]) rfl rfl fun a S=>s_fieldAddr S rfl I46_2 T43 (by decide) rfl rfl fun a S=>s_loada S rfl .h1 T43 (s':=[.w4 x4.e3]) rfl rfl fun a S=>bindX h7 fun t13 et13 h8=>s_callK S (fa1_.ok k (ch_0_0:=ch_1_0) et13) N45 rfl .pre (fun _=> .n) rfl fun ch13 m le1 a w S=>s_mv1 S rfl fun a S=>s_extract S rfl rfl rfl rfl fun a S=>s_extract S rfl rfl rfl rfl fun a S=>s_as1 S rfl fun a S=>s_store S rfl rfl rfl (s':=(SY37.segs t13.2 ch13)) .h2 T37 rfl rfl fun w S=>c_end (c_region' (s_mv1 S rfl fun a S=>s_fieldAddr S rfl I46_1 T40 (by decide) rfl rfl fun a S=>s_loada S rfl .h1 T40 (s':=[.b20 x4.2.1]) rfl rfl fun a S=>s_fieldAddr S rfl I46_2 T43 (by decide) rfl rfl fun a S=>s_loada S rfl .h1 T43 (s':=[.w4 x4.e3]) rfl rfl fun a S=>bindX h8 fun t14 et14 h9=>s_callK S (fd7_.ok k (ch_0:=ch_0) et14) N29 rfl (.sk (.sk (.sk .pre))) (fun _=> .c8) rfl fun ch14 m le1 a w S=>s_mv1 S rfl fun a S=>s_eqb S rfl rfl underlying4 rfl fun a S=>s_as1 S rfl fun a S=>c_end' (x_blockN (x_thenN ?_))))))))
        exact j1 _ (t14.1==t13.1) g3 g1 ch_2_0 ch_2_1 ch_2_2 x3 ch_0.2.1 ch_0.e3 x1.1 ch14.1 t14.e3.1 ch14.2.1 ch14.e3 ch14.e4 t14.e3.2.1 t14.e3.e3 t14.e3.t3 x1.e3 ch14.e5 ch14.e6 ch14.e7 t14.e5 ch14.e8 ch14.e9 ch14.e10 t14.e6 ch14.e11 ch14.e12 ch14.t12 t14.t6 t13.2 ch13 a w (S.sb rfl (.c0 (.c0 (.c0 (.c0 (.c0 (.c0 (.c0 (.c0 (.c0 (.c1 (.c1 .n)))))))))))) h9
       ·refine c_condF S rfl c7 (c_region (s_bi S rfl fun a S=>s_as1 S rfl fun a S=>c_end ?_))
        rcases ite_of h7 with ⟨c8,h8⟩ | ⟨c8,h8⟩
        ·refine c_condT S rfl c8 (c_region (s_mv1 S rfl fun a S=>s_fieldAddr S rfl I46_4 T41 (by decide) rfl rfl fun a S=>s_load1 S rfl .h1 T41 (v:=(.int .u64 x4.e5)) rfl rfl fun a S=>s_conv S rfl rfl underlying2 rfl fun a S=>bindX h8 fun t15 et15 h9=>s_callK S (fh9_.ok (ch_0:=ch_0) et15) N46 rfl (.sk (.sk (.sk .pre))) (fun _=> .c8) rfl fun ch15 m le1 a w S=>c_end (c_region' (s_loada S rfl .h10 T37 (s':=(SY37.segs x2 ch_1_0)) rfl rfl fun a S=>s_fieldAddr S rfl I46_4 T41 (by decide) rfl rfl fun a S=>s_load1 S rfl .h9 T41 (v:=(.int .u64 x4.e5)) rfl rfl fun a S=>s_conv S rfl rfl underlying2 rfl fun a S=>bindX h9 fun t16 et16 h10=>s_callK S (fd5_.ok (ch_0_0:=ch_1_0) et16) N47 rfl .pre (fun _=> .n) rfl fun ch16 m le1 a w S=>s_store S rfl rfl rfl (s':=(SY37.segs t16 ch16)) .h10 T37 rfl rfl fun w S=>c_end' (x_blockN (x_thenN ?_))))))
         exact j1 _ true g3 g1 ch_2_0 ch_2_1 ch_2_2 x3 ch_0.2.1 ch_0.e3 x1.1 ch_0.e4 x1.2.1.1 ch_0.e5 ch_0.e6 ch_0.e7 x1.2.1.2.1 x1.2.1.e3 x1.2.1.t3 t15.e3 ch_0.e8 ch_0.e9 ch_0.e10 x1.e4 ch15.1 ch15.2.1 ch15.t2 t15.e5 ch_0.e14 ch_0.e15 ch_0.t15 x1.t5 t16 ch16 a w (S.sb rfl (.c0 (.c0 (.c0 (.c0 (.c0 (.c0 (.c0 (.c0 (.c0 (.c1 (.c1 .n)))))))))))) h10
        ·refine c_condF S rfl c8 (c_region (s_bi S rfl fun a S=>s_as1 S rfl fun a S=>c_end ?_))
         rcases ite_of h8 with ⟨c9,h9⟩ | ⟨c9,h9⟩
         ·refine c_condT S rfl c9 (c_region (s_fieldAddr S rfl I46_1 T40 (by decide) rfl rfl fun a S=>s_loada S rfl .h1 T40 (s':=[.b20 x4.2.1]) rfl rfl fun a S=>s_fieldAddr S rfl I46_2 T43 (by decide) rfl rfl fun a S=>s_loada S rfl .h1 T43 (s':=[.w4 x4.e3]) rfl rfl fun a S=>s_fieldAddr S rfl I46_3 T43 (by decide) rfl rfl fun a S=>s_loada S rfl .h1 T43 (s':=[.w4 x4.e4]) rfl rfl fun a S=>s_bldSl S (ty':=(Ty.arr .u64 4)) (ds:=[(0,(.a4 x4.e3)),(1,(.a4 x4.e4))]) (z:=[0,0,0,0]) (c0:=()) (ys:=[x4.e3,x4.e4]) (cs:=[(),()]) rfl underlying98 J43 Z43 rfl ⟨rfl,trivial⟩ rfl rfl rfl rfl rfl rfl fun g12 a w S=>s_fieldAddr S rfl I46_5 T44 (by decide) rfl rfl fun a S=>s_loadSl S rfl .h2 T44 (A:=ch_3_0) (len:=(x4.t5).length) (cap:=ch_3_1) rfl rfl fun a S=>s_bldS S (ds:=[(0,(.agg [.b20 x4.2.1])),(1,(.s (ad g12) 2 2)),(2,(.q yb ch_3_0 ch_3_1 x4.t5))]) (zs:=[.b20 z20, .s none 0 0, .s none 0 0]) (s':=[.b20 x4.2.1, .s (ad g12) 2 2, .q yb ch_3_0 ch_3_1 x4.t5]) rfl underlying100 P100 Z100 ⟨rfl,rfl,rfl,trivial⟩ rfl rfl fun a S=>s_alloc S Z100 rfl ⟨rfl,rfl,rfl,trivial⟩ rfl fun g13 a w S=>s_store S rfl rfl rfl (s':=[.b20 x4.2.1, .s (ad g12) 2 2, .q yb ch_3_0 ch_3_1 x4.t5]) .h T100 rfl rfl fun w S=>c_end (c_region (s_mv1 S rfl fun a S=>s_loada S rfl .h T100 (s':=[.b20 x4.2.1, .s (ad g12) 2 2, .q yb ch_3_0 ch_3_1 x4.t5]) rfl rfl fun a S=>?_))))
          replace S:=S.rowfro .h1
          obtain ⟨m,le1,S,hro⟩:=S
          replace S:=S.slotF 176 1 rfl rfl hro
          replace S:=S.slotF 174 1 rfl rfl hro
          replace S:=S.slotro (u:=171) rfl hro
          replace S:=S.cellF 1 .h rfl hro
          refine bindX h9 fun t17 et17 h10=>s_callK S (fi2_.ok (ch_0:=ch_0) et17) N48 rfl (.sk (.sk (.sk (.sk .pre)))) (fun _=> .c8) rfl fun ch17 m le1 a w S=>c_end (c_region' (s_loada S rfl .h11 T37 (s':=(SY37.segs x2 ch_1_0)) rfl rfl fun a S=>s_loada S rfl .h8 T100 (s':=[.b20 x4.2.1, .q (Ty.arr .u64 4) (ad g12) 2 [x4.e3,x4.e4], .q yb ch_3_0 ch_3_1 x4.t5]) rfl rfl fun a S=>bindX h10 fun t18 et18 h11=>s_callK S (fd3_.ok (ch_0_0:=ch_1_0) et18) N49 rfl .pre (fun _=> .n) rfl fun ch18 m le1 a w S=>s_store S rfl rfl rfl (s':=(SY37.segs t18 ch18)) .h11 T37 rfl rfl fun w S=>c_end' (x_blockN (x_thenN ?_))))
          exact j1 _ true g3 g1 ch_2_0 ch_2_1 ch_2_2 x3 ch_0.2.1 ch_0.e3 x1.1 ch_0.e4 x1.2.1.1 ch_0.e5 ch_0.e6 ch_0.e7 x1.2.1.2.1 x1.2.1.e3 x1.2.1.t3 x1.e3 ch17.1 ch17.2.1 ch17.e3 t17.e4 ch17.e4 ch17.e5 ch17.t5 t17.e5 ch_0.e14 ch_0.e15 ch_0.t15 x1.t5 t18 ch18 a w (S.sb rfl (.c0 (.c0 (.c0 (.c0 (.c0 (.c0 (.c0 (.c0 (.c1 (.c2 (.c2 .n)))))))))))) h11
         ·refine c_condF S rfl c9 (c_region (s_bi S rfl fun a S=>s_as1 S rfl fun a S=>c_end ?_))
          rcases ite_of h9 with ⟨c10,h10⟩ | ⟨c10,h10⟩
          ·refine c_condT S rfl c10 (c_region (s_mv1 S rfl fun a S=>s_fieldAddr S rfl I46_1 T40 (by decide) rfl rfl fun a S=>s_loada S rfl .h1 T40 (s':=[.b20 x4.2.1]) rfl rfl fun a S=>bindX h10 fun t19 et19 h11=>s_callK S (fe5_.ok k (ch_0:=ch_0) et19) N50 rfl (.sk (.sk (.sk .pre))) (fun _=> .c8) rfl fun ch19 m le1 a w S=>c_end (c_region' (s_loada S rfl .h10 T37 (s':=(SY37.segs x2 ch_1_0)) rfl rfl fun a S=>s_fieldAddr S rfl I46_1 T40 (by decide) rfl rfl fun a S=>s_loada S rfl .h9 T40 (s':=[.b20 x4.2.1]) rfl rfl fun a S=>bindX h11 fun t20 et20 h12=>s_callK S (fa5_.ok k (ch_0_0:=ch_1_0) et20) N51 rfl .pre (fun _=> .n) rfl fun ch20 m le1 a w S=>s_store S rfl rfl rfl (s':=(SY37.segs t20 ch20)) .h10 T37 rfl rfl fun w S=>c_end' (x_blockN (x_thenN ?_))))))
           exact j1 _ true g3 g1 ch_2_0 ch_2_1 ch_2_2 x3 ch_0.2.1 ch_0.e3 x1.1 ch19.1 t19.2.1.1 ch19.2.1 ch19.e3 ch19.e4 t19.2.1.2.1 t19.2.1.e3 t19.2.1.t3 x1.e3 ch19.e5 ch19.e6 ch19.e7 t19.e4 ch19.e8 ch19.e9 ch19.e10 t19.e5 ch19.e11 ch19.e12 ch19.t12 t19.t5 t20 ch20 a w (S.sb rfl (.c0 (.c0 (.c0 (.c0 (.c0 (.c0 (.c0 (.c0 (.c0 (.c1 (.c1 .n)))))))))))) h12
          ·refine c_condF S rfl c10 (c_region (s_bi S rfl fun a S=>s_as1 S rfl fun a S=>c_end ?_))
           rcases ite_of h10 with ⟨c11,h11⟩ | ⟨c11,h11⟩
           ·refine c_condT S rfl c11 (c_hS S (.take 1 (.tk 3 3 (.pure 0 (.alts (.run 2 true (.take 6 (.alts (.run 7 true (.alts (.run 8 true (.take 9 .done) .nil)) .nil))) .nil))))) 10 (.c2 .n) ⟨Res.stay_cells,trivial⟩ [(5,(.p g1)),(0,(.v (.pointer (some ⟨ch_0.1,0,none⟩))))] rfl (by kernel_rfl) fun w S CL hw le=>?_)
            refine h_mv1 S CL hw le rfl trivial fun a S CL=>h_fieldAddr S CL hw le (subR rfl) rfl I37_7 T35 (by decide) rfl rfl rfl trivial fun a S CL=>h_loadSl S CL hw le (subR rfl) rfl .h T35 (A:=ch_1_0.e8) (len:=((ST37.un x2).t7).length) (cap:=ch_1_0.t8) rfl rfl rfl trivial fun a S CL=>h_lenS S CL hw le (subR rfl) rfl underlying35 rfl rfl trivial fun a S CL=>p_move S rfl rfl rfl trivial fun a S=>h_run' S rfl trivial (bindX h11 fun t21 et21 h12=>s_callK S (fh6_.ok (ch_0:=ch_0) et21) N13 rfl (.sk (.sk (.sk .pre))) (fun _=> .c8) rfl fun ch21 m le1 a w S=>?_)
            replace le:=le.trans le1
            refine CL.bk hw S (.c10 .n) le fun hw=>?_
            replace CL:=CL.add (t:=195) (d:=(.i t21)) S rfl rfl
            refine h_build S CL hw le (subR rfl) (ds:=[(0,(.i t21)),(1,(.i (((ST37.un x2).t7).length:Int)))]) (dv:=(.agg [.ints .i64 [t21,(((ST37.un x2).t7).length:Int)] 2])) rfl (fun _=>by kernel_rfl) ⟨rfl,trivial⟩ rfl rfl trivial fun a S CL=>h_run' S rfl trivial (s_bldSl S (ty':=(Ty.arr .i64 2)) (ds:=[(0,(.agg [.ints .i64 [t21,(((ST37.un x2).t7).length:Int)] 2]))]) (z:=[0,0]) (c0:=()) (ys:=[[t21,(((ST37.un x2).t7).length:Int)]]) (cs:=[()]) rfl underlying47 J103 Z103 rfl ⟨rfl,trivial⟩ rfl rfl rfl rfl rfl rfl fun g14 a w S=>CL.bk hw S (.c11 .n) le fun hw=>h_run' S rfl trivial ?_)
            obtain ⟨c12,h13⟩:=chk_of h12; clear h12
            refine s_app S (k2:=1) (ys:=[[t21,(((ST37.un x2).t7).length:Int)]]) rfl (fun _ _=> .h12) rfl rfl (S.holds _ (Pull.mem .h).1).1 (Res.row.src (S.holds _ (Pull.mem .h).1)) underlying47 J103 c12 rfl fun A6 cp6 a w S=>CL.bk hw S (.c11 .n) le fun hw=>?_
            replace CL:=CL.add (t:=201) (d:=(.s A6 (ch_2_1+1) cp6)) S rfl rfl
            refine h_assign S CL hw le (subR rfl) rfl rfl rfl trivial fun a S CL=>?_
            refine h_done ?_; clear CL hw le
            refine x_blockN (x_thenN ?_)
            exact j1 _ true g3 g1 A6 (ch_2_1+1) cp6 (x3++[[t21,(((ST37.un x2).t7).length:Int)]]) ch_0.2.1 ch_0.e3 x1.1 ch_0.e4 x1.2.1.1 ch_0.e5 ch_0.e6 ch_0.e7 x1.2.1.2.1 x1.2.1.e3 x1.2.1.t3 x1.e3 ch_0.e8 ch_0.e9 ch_0.e10 x1.e4 ch_0.e11 ch_0.e12 ch_0.e13 x1.e5 ch_0.e14 ch_0.e15 ch_0.t15 x1.t5 x2 ch_1_0 a w (S.sb rfl (.c1 (.c1 (.c1 (.c1 (.c1 (.c1 (.c1 (.c1 (.c1 (.c2 (.c2 .n)))))))))))) h13
           ·refine c_condF S rfl c11 (c_region (s_mv1 S rfl fun a S=>s_lenO S rfl .h11 underlying47 rfl fun a S=>s_as1 S rfl fun a S=>c_end (c_region (s_mv1 S rfl fun a S=>s_bi S rfl fun a S=>c_end ?_))))
            rcases ite_of h11 with ⟨c13,h12⟩ | ⟨c13,h12⟩
            ·refine c_condT S rfl c13 (c_region (s_fieldAddr S rfl I46_4 T41 (by decide) rfl rfl fun a S=>s_load1 S rfl .h1 T41 (v:=(.int .u64 x4.e5)) rfl rfl fun a S=>s_mv1 S rfl fun a S=>s_conv S rfl rfl underlying41 rfl fun a S=>?_))
             obtain ⟨c14,h13⟩:=chk_of h12; clear h12
             refine s_rem S rfl rfl c14 rfl fun a S=>s_conv S rfl rfl underlying3 rfl fun a S=>s_as1 S rfl fun a S=>c_end (c_region (s_mv3 S rfl fun a S=>?_))
             obtain ⟨c15,h14⟩:=chk_of h13; clear h13
             refine s_iaddrO S (ty':=(Ty.arr .i64 2)) rfl .h11 rfl underlying47 T103 c15.1 c15.2 rfl fun g15 a hA1 S=>s_iaddr S (o':=Int.toNat (wr .i64 (Int.tmod x4.e5 (wr .u64 ((x3).length:Int))))*((Ty.arr .i64 2)).size+0) rfl rfl underlying103 T3 (by decide) (by decide) rfl rfl fun a S=>s_ldRi S (ty':=(Ty.arr .i64 2)) (i:=(wr .i64 (Int.tmod x4.e5 (wr .u64 ((x3).length:Int))))) (off:=0) (j:=0) rfl hA1 .h11 T3 c15.1 c15.2 rfl (fun _=>⟨_, .h⟩) rfl (by decide) rfl fun a S=>bindX h14 fun t22 et22 h15=>s_callK S (fh0_.ok k (ch_0:=ch_0) et22) N14 rfl (.sk (.sk (.sk .pre))) (fun _=> .c8) rfl fun ch22 m le1 a w S=>c_end ?_
             refine wp_seq (c_hS S (.tk 0 3 (.alts (.run 3 true (.take 4 (.alts (.run 5 true (.alts (.run 6 true (.alts (.run 7 false .done .nil)) .nil)) .nil))) .nil))) 7 (.c10 .n) ⟨Res.stay_cells,trivial⟩ [(16,(.i (wr .i64 (Int.tmod x4.e5 (wr .u64 ((x3).length:Int)))))),(5,(.p g1)),(2,(.s ch_2_0 ch_2_1 ch_2_2))] rfl (by kernel_rfl) ?_); clear S; intro w S CL hw le
             refine h_loada S CL hw le (subR rfl) rfl .h T37 (s':=(SY37.segs x2 ch_1_0)) rfl rfl rfl trivial fun a S CL=>h_mv2 S CL hw le rfl trivial trivial fun a S CL=>h_run' S rfl trivial (s_iaddrO S (ty':=(Ty.arr .i64 2)) rfl .h11 rfl underlying47 T103 c15.1 c15.2 rfl fun g16 a hA2 S=>CL.bk hw S (.c10 .n) le fun hw=>?_)
             replace CL:=CL.add (t:=39) (d:=(.v (.pointer (some ⟨g16,Int.toNat (wr .i64 (Int.tmod x4.e5 (wr .u64 ((x3).length:Int))))*((Ty.arr .i64 2)).size,none⟩)))) S rfl rfl
             refine h_iaddr S CL hw le (subR rfl) (o':=Int.toNat (wr .i64 (Int.tmod x4.e5 (wr .u64 ((x3).length:Int))))*((Ty.arr .i64 2)).size+1) rfl rfl underlying103 T3 (by decide) (by decide) rfl rfl rfl trivial fun a S CL=>h_run' S rfl trivial (s_ldRi S (ty':=(Ty.arr .i64 2)) (i:=(wr .i64 (Int.tmod x4.e5 (wr .u64 ((x3).length:Int))))) (off:=1) (j:=1) rfl hA2 .h11 T3 c15.1 c15.2 rfl (fun _=>⟨_, .h⟩) rfl (by decide) rfl fun a S=>CL.bk hw S (.c10 .n) le fun hw=>h_run' S rfl trivial (bindX h15 fun t23 et23 h16=>s_callK S (fc6_.ok (ch_0_0:=ch_1_0) et23) N52 rfl .pre (fun _=> .n) rfl fun ch23 m le1 a w S=>?_))
             replace le:=le.trans le1
             refine CL.bk hw S (.c10 .n) le fun hw=>h_run' S rfl trivial (s_store S rfl rfl rfl (s':=(SY37.segs t23 ch23)) .h10 T37 rfl rfl fun w S=>?_)
             refine h_back ⟨fun h=>(nomatch h),?_⟩
             refine h_done ?_; clear CL hw le
             refine x_thenN (c_region' (s_mv2 S rfl fun a S=>s_bi S rfl fun a S=>?_))
             obtain ⟨c16,h17⟩:=chk_of h16; clear h16
             refine s_cutO S (j:=(wr .i64 ((wr .i64 (Int.tmod x4.e5 (wr .u64 ((x3).length:Int))))+1))) rfl .h11 underlying47 T103 (.inl rfl) rfl c16.1 c16.2 rfl fun a S=>s_as1 S rfl fun a S=>c_end' (x_blockN (x_thenN ?_))
             exact j1 _ true g3 g1 ch_2_0 (Int.toNat (wr .i64 ((wr .i64 (Int.tmod x4.e5 (wr .u64 ((x3).length:Int))))+1))) ch_2_2 (x3.take (Int.toNat (wr .i64 ((wr .i64 (Int.tmod x4.e5 (wr .u64 ((x3).length:Int))))+1)))) ch22.1 ch22.2.1 t22.1 ch22.e3 t22.2.1.1 ch22.e4 ch22.e5 ch22.e6 t22.2.1.2.1 t22.2.1.e3 t22.2.1.t3 t22.e3 ch22.e7 ch22.e8 ch22.e9 t22.e4 ch22.e10 ch22.e11 ch22.e12 t22.e5 ch22.e13 ch22.e14 ch22.t14 t22.t5 t23 ch23 a w (S.sb rfl (.c0 (.c0 (.c0 (.c0 (.c0 (.c0 (.c0 (.c0 (.c0 (.c1 (.c1 .n)))))))))))) h17
            ·refine c_condF S rfl c13 (wp_skip (x_blockN (x_thenN ?_)))
             exact j1 _ true g3 g1 ch_2_0 ch_2_1 ch_2_2 x3 ch_0.2.1 ch_0.e3 x1.1 ch_0.e4 x1.2.1.1 ch_0.e5 ch_0.e6 ch_0.e7 x1.2.1.2.1 x1.2.1.e3 x1.2.1.t3 x1.e3 ch_0.e8 ch_0.e9 ch_0.e10 x1.e4 ch_0.e11 ch_0.e12 ch_0.e13 x1.e5 ch_0.e14 ch_0.e15 ch_0.t15 x1.t5 x2 ch_1_0 a w (S.sb rfl (.c3 (.c3 (.c3 (.c3 (.c3 (.c3 (.c3 (.c3 (.c0 (.c1 (.c1 .n)))))))))))) h12
abbrev ff6_.Ty:Type:=W2→(List Int)→Option W22
def ff6_.Ctr (s:ff6_.Ty):Prop:=∀ {x1:W2} {x2:List Int} {ch_0:W3} {r:W22} (h0:s x1 x2=some r) {mi:Mem} {w0:World},CtrB Tryz.prog 17 [(.v (.pointer (some ⟨ch_0.1,0,none⟩))),(.agg [.b20 x2])] (MS1 x1 ch_0) (fun (ch:W7)=>((.b r.1):D)) (fun (ch:W7)=>(MS1 (x1.1,r.e3,x1.e3,r.e5,r.e6,r.t6) (ch_0.1,ch_0.2.1,ch_0.e3,ch.1,ch.2.1,ch.e3,ch.e4,ch.e5,ch.e6,ch.e7,ch.e8,ch.e9,ch.e10,ch.e11,ch.e12,ch.t12))) mi w0
def ff6_.f (k:Nat)(x1:W2)(x2:List Int):Option W22:=(fi4_.f k x1 x2).bind fun t1=>(if t1.1.isSome=true then (if ((((atE t1.2.2.1.2.1 (t1.1.getD 0)).2.1).2.1)==0)=true then (if (decide (((atE t1.2.2.1.2.1 (t1.1.getD 0)).2.1).2.2.1=[0,0,0,0]))=true then (some (((((atE t1.2.2.1.2.1 (t1.1.getD 0)).2.1).2.2.2.1).length:Int)==0,((),t1.2.2.1,(),t1.2.2.2.2.1,t1.2.2.2.2.2.1,t1.2.2.2.2.2.2))) else (some (false,((),t1.2.2.1,(),t1.2.2.2.2.1,t1.2.2.2.2.2.1,t1.2.2.2.2.2.2)))) else (some (false,((),t1.2.2.1,(),t1.2.2.2.2.1,t1.2.2.2.2.2.1,t1.2.2.2.2.2.2)))) else none)
theorem ff6_.ok (k:Nat):ff6_.Ctr (ff6_.f k):=by
 intro x1 x2 ch_0 r h0 mi w0 ok hm
 delta ff6_.f at h0
 refine c_enterZ (n:=29) ok hm func17 rfl rfl rfl fun b0 hb a S=>c_region (s_box S rfl rfl rfl fun g1 a w S=>s_as1 S rfl fun a S=>c_end (wp_seq (c_region (s_mv1 S rfl fun a S=>s_eqp S (b:=false) rfl rfl underlying26 rfl rfl fun a S=>c_end (c_condF S rfl rfl (wp_skip (x_thenN (c_region (s_mv1 S rfl fun a S=>s_loada S rfl .h T40 (s':=[.b20 x2]) rfl rfl fun a S=>bindX h0 fun t1 et1 h1=>s_callK S (fi4_.ok k (ch_0:=ch_0) et1) N56 rfl (.sk .pre) (fun _=> .c8) rfl fun ch1 m le1 a w S=>?_)))))))))
 obtain ⟨c1,h2⟩:=chk_of h1; clear h1
 have hl1:=S.slotPlt (u:=10) c1 rfl
 replace S:=S.slotP (u:=10) c1 rfl
 refine s_nilchk S rfl rfl fun a S=>s_fieldAddr S rfl I110_1 T71 (by decide) rfl rfl fun a S=>?_
 replace S:=S.famOpen (i:=(t1.1.getD 0)) hl1 .h2
 have hS:=S.structOpen (T:=(YE110 ch1.e3 ch1.e4)) (fun _=> .h) (((),(),(),(none,0),(none,0)),((),(),(),(none,0),(none,0)),(),(),(),(),())
 clear S; obtain ⟨ch2,S⟩:=hS
 refine s_loada S rfl .h T71 (s':=(Y71.segs ((atE t1.e3.2.1 (t1.1.getD 0)).2.1) ch2.2.1)) rfl rfl fun a S=>?_
 replace S:=S.structClose (T:=(YE110 ch1.e3 ch1.e4)) (e:=atE t1.e3.2.1 (t1.1.getD 0)) (ch2:((YE110 ch1.e3 ch1.e4)).Ch) rfl .h
 replace S:=S.famShut hl1 .h .h2
 refine s_alloc S Z71 rfl ⟨rfl,rfl,rfl,rfl,rfl,trivial⟩ rfl fun g2 a w S=>s_store S rfl rfl rfl (s':=(Y71.segs ((atE t1.e3.2.1 (t1.1.getD 0)).2.1) ch2.2.1)) .h T71 rfl rfl fun w S=>c_end (c_region (s_fieldAddr S rfl I71_1 T41 (by decide) rfl rfl fun a S=>s_load1 S rfl .h T41 (v:=(.int .u64 (((atE t1.e3.2.1 (t1.1.getD 0)).2.1).2.1))) rfl rfl fun a S=>s_bi S rfl fun a S=>s_mv1 S rfl fun a S=>?_))
 rcases ite_of h2 with ⟨c2,h3⟩ | ⟨c2,h3⟩
 ·refine s_gT S (b:=((((atE t1.e3.2.1 (t1.1.getD 0)).2.1).2.1)==0)) rfl rfl c2 (s_fieldAddr S rfl I71_2 T43 (by decide) rfl rfl fun a S=>s_gT S (b:=((((atE t1.e3.2.1 (t1.1.getD 0)).2.1).2.1)==0)) rfl rfl c2 (s_loada S rfl .h T43 (s':=[.w4 (((atE t1.e3.2.1 (t1.1.getD 0)).2.1).e3)]) rfl rfl fun a S=>s_gT S (b:=((((atE t1.e3.2.1 (t1.1.getD 0)).2.1).2.1)==0)) rfl rfl c2 (s_build S (ds:=[]) (dv:=(.a4 [0,0,0,0])) rfl (fun _=>by kernel_rfl) ⟨rfl,trivial⟩ rfl fun a S=>s_gT S (b:=((((atE t1.e3.2.1 (t1.1.getD 0)).2.1).2.1)==0)) rfl rfl c2 (s_eqa S rfl rfl underlying43 underlying41 T41 Q43 rfl fun a S=>s_pick S (b:=true) (hc_of rfl c2) rfl rfl fun a S=>s_mv1 S rfl fun a S=>?_))))
  rcases ite_of h3 with ⟨c3,h4⟩ | ⟨c3,h4⟩
  ·refine s_gT S (b:=(decide (((atE t1.e3.2.1 (t1.1.getD 0)).2.1).e3=[0,0,0,0]))) rfl rfl c3 (s_fieldAddr S rfl I71_3 T44 (by decide) rfl rfl fun a S=>s_gT S (b:=(decide (((atE t1.e3.2.1 (t1.1.getD 0)).2.1).e3=[0,0,0,0]))) rfl rfl c3 (s_loadSl S rfl .h T44 (A:=ch2.2.1.e4.1) (len:=(((atE t1.e3.2.1 (t1.1.getD 0)).2.1).e4).length) (cap:=ch2.2.1.e4.2) rfl rfl fun a S=>s_gT S (b:=(decide (((atE t1.e3.2.1 (t1.1.getD 0)).2.1).e3=[0,0,0,0]))) rfl rfl c3 (s_lenS S rfl underlying44 rfl fun a S=>s_gT S (b:=(decide (((atE t1.e3.2.1 (t1.1.getD 0)).2.1).e3=[0,0,0,0]))) rfl rfl c3 (s_bi S rfl fun a S=>s_pick S (b:=true) (hc_of rfl c3) rfl rfl fun a S=>s_as1 S rfl fun a S=>c_end (wp_ret ?_)))))
   obtain rfl:=Option.some.inj h4
   exact b_ret1 (d:=(.b (((((atE t1.e3.2.1 (t1.1.getD 0)).2.1).e4).length:Int)==0))) S rfl rfl fun ok=>S.retX (Hx:=[]) hb _ _ (ch1:W7) (.c1 (.c1 (.c1 (.c1 (.c1 (.c1 (.c1 (.c1 .n)))))))) ok
  ·refine s_gF S (b:=(decide (((atE t1.e3.2.1 (t1.1.getD 0)).2.1).e3=[0,0,0,0]))) rfl rfl c3 rfl fun a S=>s_gF S (b:=(decide (((atE t1.e3.2.1 (t1.1.getD 0)).2.1).e3=[0,0,0,0]))) rfl rfl c3 rfl fun a S=>s_gF S (b:=(decide (((atE t1.e3.2.1 (t1.1.getD 0)).2.1).e3=[0,0,0,0]))) rfl rfl c3 rfl fun a S=>s_gF S (b:=(decide (((atE t1.e3.2.1 (t1.1.getD 0)).2.1).e3=[0,0,0,0]))) rfl rfl c3 rfl fun a S=>s_pick S (b:=false) (hc_of rfl c3) rfl rfl fun a S=>s_as1 S rfl fun a S=>c_end (wp_ret ?_)
   obtain rfl:=Option.some.inj h4
   exact b_ret1 (d:=(.b false)) S rfl rfl fun ok=>S.retX (Hx:=[]) hb _ _ (ch1:W7) (.c1 (.c1 (.c1 (.c1 (.c1 (.c1 (.c1 (.c1 .n)))))))) ok
 ·refine s_gF S (b:=((((atE t1.e3.2.1 (t1.1.getD 0)).2.1).2.1)==0)) rfl rfl c2 rfl fun a S=>s_gF S (b:=((((atE t1.e3.2.1 (t1.1.getD 0)).2.1).2.1)==0)) rfl rfl c2 rfl fun a S=>s_gF S (b:=((((atE t1.e3.2.1 (t1.1.getD 0)).2.1).2.1)==0)) rfl rfl c2 rfl fun a S=>s_gF S (b:=((((atE t1.e3.2.1 (t1.1.getD 0)).2.1).2.1)==0)) rfl rfl c2 rfl fun a S=>s_pick S (b:=false) (hc_of rfl c2) rfl rfl fun a S=>s_mv1 S rfl fun a S=>s_gF S (b:=false) rfl rfl rfl rfl fun a S=>s_gF S (b:=false) rfl rfl rfl rfl fun a S=>s_gF S (b:=false) rfl rfl rfl rfl fun a S=>s_gF S (b:=false) rfl rfl rfl rfl fun a S=>s_pick S (b:=false) (hc_of rfl rfl) rfl rfl fun a S=>s_as1 S rfl fun a S=>c_end (wp_ret ?_)
  obtain rfl:=Option.some.inj h3
  exact b_ret1 (d:=(.b false)) S rfl rfl fun ok=>S.retX (Hx:=[]) hb _ _ (ch1:W7) (.c1 (.c1 (.c1 (.c1 (.c1 (.c1 (.c1 (.c1 .n)))))))) ok
abbrev fb5_.Ty:Type:=ST37→(List Int)→Option Bool
def fb5_.Ctr (s:fb5_.Ty):Prop:=∀ {x1:ST37} {x2:List Int} {ch_0_0:(Option Addr×Nat)×(Option Addr×Nat)×(Option Addr×Nat)×(Option Addr×Nat)×Unit×(Option Addr×Nat)×Unit×(Option Addr×Nat)} {r:Bool} (h0:s x1 x2=some r) {mi:Mem} {w0:World},CtrB Tryz.prog 65 [(.agg (SY37.segs x1 ch_0_0)),(.agg [.b20 x2])] [] (fun (ch:Unit)=>((.b r):D)) (fun (ch:Unit)=>[]) mi w0
def fb5_.f (k:Nat)(x1:ST37)(x2:List Int):Option Bool:=(fd8_.f k x1 x2).bind fun t1=>(if (t1.1.2.1==0)=true then (if (decide (t1.1.2.2.1=[0,0,0,0]))=true then (some (((t1.1.2.2.2.1).length:Int)==0)) else (some false)) else (some false))
theorem fb5_.ok (k:Nat):fb5_.Ctr (fb5_.f k):=by
 intro x1 x2 ch_0_0 r h0 mi w0 ok hm
 delta fb5_.f at h0
 refine c_enterZ (n:=25) ok hm func65 rfl rfl rfl fun b0 hb a S=>c_region (s_box S rfl rfl rfl fun g1 a w S=>s_box S rfl rfl rfl fun g2 a w S=>s_as1 S rfl fun a S=>c_end (c_region (s_loada S rfl .h1 T37 (s':=(SY37.segs x1 ch_0_0)) rfl rfl fun a S=>s_loada S rfl .h T40 (s':=[.b20 x2]) rfl rfl fun a S=>bindX h0 fun t1 et1 h1=>s_callK S (fd8_.ok k (ch_0_0:=ch_0_0) et1) N64 rfl .pre (fun _=> .n) rfl fun ch1 m le1 a w S=>s_fielda S rfl I122_0 T71 (s':=(Y71.segs t1.1 ((),(),(),(ch1.1,ch1.2.1),ch1.t2))) rfl rfl fun a S=>s_alloc S Z71 rfl ⟨rfl,rfl,rfl,rfl,rfl,trivial⟩ rfl fun g3 a w S=>s_store S rfl rfl rfl (s':=(Y71.segs t1.1 ((),(),(),(ch1.1,ch1.2.1),ch1.t2))) .h T71 rfl rfl fun w S=>c_end (c_region (s_fieldAddr S rfl I71_1 T41 (by decide) rfl rfl fun a S=>s_load1 S rfl .h T41 (v:=(.int .u64 t1.1.2.1)) rfl rfl fun a S=>s_bi S rfl fun a S=>s_mv1 S rfl fun a S=>?_)))))
 rcases ite_of h1 with ⟨c1,h2⟩ | ⟨c1,h2⟩
 ·refine s_gT S (b:=(t1.1.2.1==0)) rfl rfl c1 (s_fieldAddr S rfl I71_2 T43 (by decide) rfl rfl fun a S=>s_gT S (b:=(t1.1.2.1==0)) rfl rfl c1 (s_loada S rfl .h T43 (s':=[.w4 t1.1.e3]) rfl rfl fun a S=>s_gT S (b:=(t1.1.2.1==0)) rfl rfl c1 (s_build S (ds:=[]) (dv:=(.a4 [0,0,0,0])) rfl (fun _=>by kernel_rfl) ⟨rfl,trivial⟩ rfl fun a S=>s_gT S (b:=(t1.1.2.1==0)) rfl rfl c1 (s_eqa S rfl rfl underlying43 underlying41 T41 Q43 rfl fun a S=>s_pick S (b:=true) (hc_of rfl c1) rfl rfl fun a S=>s_mv1 S rfl fun a S=>?_))))
  rcases ite_of h2 with ⟨c2,h3⟩ | ⟨c2,h3⟩
  ·refine s_gT S (b:=(decide (t1.1.e3=[0,0,0,0]))) rfl rfl c2 (s_fieldAddr S rfl I71_3 T44 (by decide) rfl rfl fun a S=>s_gT S (b:=(decide (t1.1.e3=[0,0,0,0]))) rfl rfl c2 (s_loadSl S rfl .h T44 (A:=ch1.1) (len:=(t1.1.e4).length) (cap:=ch1.2.1) rfl rfl fun a S=>s_gT S (b:=(decide (t1.1.e3=[0,0,0,0]))) rfl rfl c2 (s_lenS S rfl underlying44 rfl fun a S=>s_gT S (b:=(decide (t1.1.e3=[0,0,0,0]))) rfl rfl c2 (s_bi S rfl fun a S=>s_pick S (b:=true) (hc_of rfl c2) rfl rfl fun a S=>s_as1 S rfl fun a S=>c_end (wp_ret ?_)))))
   obtain rfl:=Option.some.inj h3
   exact b_ret1 (d:=(.b (((t1.1.e4).length:Int)==0))) S rfl rfl (S.rt hb)
  ·refine s_gF S (b:=(decide (t1.1.e3=[0,0,0,0]))) rfl rfl c2 rfl fun a S=>s_gF S (b:=(decide (t1.1.e3=[0,0,0,0]))) rfl rfl c2 rfl fun a S=>s_gF S (b:=(decide (t1.1.e3=[0,0,0,0]))) rfl rfl c2 rfl fun a S=>s_gF S (b:=(decide (t1.1.e3=[0,0,0,0]))) rfl rfl c2 rfl fun a S=>s_pick S (b:=false) (hc_of rfl c2) rfl rfl fun a S=>s_as1 S rfl fun a S=>c_end (wp_ret ?_)
   obtain rfl:=Option.some.inj h3
   exact b_ret1 (d:=(.b false)) S rfl rfl (S.rt hb)
 ·refine s_gF S (b:=(t1.1.2.1==0)) rfl rfl c1 rfl fun a S=>s_gF S (b:=(t1.1.2.1==0)) rfl rfl c1 rfl fun a S=>s_gF S (b:=(t1.1.2.1==0)) rfl rfl c1 rfl fun a S=>s_gF S (b:=(t1.1.2.1==0)) rfl rfl c1 rfl fun a S=>s_pick S (b:=false) (hc_of rfl c1) rfl rfl fun a S=>s_mv1 S rfl fun a S=>s_gF S (b:=false) rfl rfl rfl rfl fun a S=>s_gF S (b:=false) rfl rfl rfl rfl fun a S=>s_gF S (b:=false) rfl rfl rfl rfl fun a S=>s_gF S (b:=false) rfl rfl rfl rfl fun a S=>s_pick S (b:=false) (hc_of rfl rfl) rfl rfl fun a S=>s_as1 S rfl fun a S=>c_end (wp_ret ?_)
  obtain rfl:=Option.some.inj h2
  exact b_ret1 (d:=(.b false)) S rfl rfl (S.rt hb)
abbrev ff8_.Ty:Type:=W2→(List Int)→Option W30
def ff8_.Ctr (s:ff8_.Ty):Prop:=∀ {x1:W2} {x2:List Int} {ch_0:W3} {r:W30} (h0:s x1 x2=some r) {mi:Mem} {w0:World},CtrB Tryz.prog 18 [(.v (.pointer (some ⟨ch_0.1,0,none⟩))),(.agg [.b20 x2])] (MS1 x1 ch_0) (fun (ch:W7)=>((.w r.1):D)) (fun (ch:W7)=>(MS1 (x1.1,r.e3,x1.e3,r.e5,r.e6,r.t6) (ch_0.1,ch_0.2.1,ch_0.e3,ch.1,ch.2.1,ch.e3,ch.e4,ch.e5,ch.e6,ch.e7,ch.e8,ch.e9,ch.e10,ch.e11,ch.e12,ch.t12))) mi w0
def ff8_.f (k:Nat)(x1:W2)(x2:List Int):Option W30:=(fi4_.f k x1 x2).bind fun t1=>(if t1.1.isSome=true then (some (((atE t1.2.2.1.2.1 (t1.1.getD 0)).2.1).2.1,((),t1.2.2.1,(),t1.2.2.2.2.1,t1.2.2.2.2.2.1,t1.2.2.2.2.2.2))) else none)
theorem ff8_.ok (k:Nat):ff8_.Ctr (ff8_.f k):=by
 intro x1 x2 ch_0 r h0 mi w0 ok hm
 delta ff8_.f at h0
 refine c_enterZ (n:=14) ok hm func18 rfl rfl rfl fun b0 hb a S=>c_region (s_box S rfl rfl rfl fun g1 a w S=>s_as1 S rfl fun a S=>c_end (wp_seq (c_region (s_mv1 S rfl fun a S=>s_eqp S (b:=false) rfl rfl underlying26 rfl rfl fun a S=>c_end (c_condF S rfl rfl (wp_skip (x_thenN (c_region (s_mv1 S rfl fun a S=>s_loada S rfl .h T40 (s':=[.b20 x2]) rfl rfl fun a S=>bindX h0 fun t1 et1 h1=>s_callK S (fi4_.ok k (ch_0:=ch_0) et1) N56 rfl (.sk .pre) (fun _=> .c8) rfl fun ch1 m le1 a w S=>?_)))))))))
 obtain ⟨c1,h2⟩:=chk_of h1; clear h1
 have hl1:=S.slotPlt (u:=9) c1 rfl
 replace S:=S.slotP (u:=9) c1 rfl
 refine s_nilchk S rfl rfl fun a S=>s_fieldAddr S rfl I110_1 T71 (by decide) rfl rfl fun a S=>s_fieldAddr S rfl I71_1 T41 (by decide) rfl rfl fun a S=>?_
 replace S:=S.famOpen (i:=(t1.1.getD 0)) hl1 .h2
 have hS:=S.structOpen (T:=(YE110 ch1.e3 ch1.e4)) (fun _=> .h) (((),(),(),(none,0),(none,0)),((),(),(),(none,0),(none,0)),(),(),(),(),())
 clear S; obtain ⟨ch2,S⟩:=hS
 refine s_load1 S rfl .h T41 (v:=(.int .u64 (((atE t1.e3.2.1 (t1.1.getD 0)).2.1).2.1))) rfl rfl fun a S=>?_
 replace S:=S.structClose (T:=(YE110 ch1.e3 ch1.e4)) (e:=atE t1.e3.2.1 (t1.1.getD 0)) (ch2:((YE110 ch1.e3 ch1.e4)).Ch) rfl .h
 replace S:=S.famShut hl1 .h .h2
 refine s_as1 S rfl fun a S=>c_end (wp_ret ?_)
 obtain rfl:=Option.some.inj h2
 exact b_ret1 (d:=(.w (((atE t1.e3.2.1 (t1.1.getD 0)).2.1).2.1))) S rfl rfl fun ok=>S.retX (Hx:=[]) hb _ _ (ch1:W7) (.c0 (.c0 (.c0 (.c0 (.c0 (.c0 (.c0 (.c0 .n)))))))) ok
abbrev fe8_.Ty:Type:=W2→(List Int)→Option W19
def fe8_.Ctr (s:fe8_.Ty):Prop:=∀ {x1:W2} {x2:List Int} {ch_0:W3} {r:W19} (h0:s x1 x2=some r) {mi:Mem} {w0:World},CtrB Tryz.prog 19 [(.v (.pointer (some ⟨ch_0.1,0,none⟩))),(.agg [.b20 x2])] (MS1 x1 ch_0) (fun (ch:W7)=>((.a4 r.1):D)) (fun (ch:W7)=>(MS1 (x1.1,r.e3,x1.e3,r.e5,r.e6,r.t6) (ch_0.1,ch_0.2.1,ch_0.e3,ch.1,ch.2.1,ch.e3,ch.e4,ch.e5,ch.e6,ch.e7,ch.e8,ch.e9,ch.e10,ch.e11,ch.e12,ch.t12))) mi w0
def fe8_.f (k:Nat)(x1:W2)(x2:List Int):Option W19:=(fi4_.f k x1 x2).bind fun t1=>(if t1.1.isSome=true then (some (((atE t1.2.2.1.2.1 (t1.1.getD 0)).2.1).2.2.1,((),t1.2.2.1,(),t1.2.2.2.2.1,t1.2.2.2.2.2.1,t1.2.2.2.2.2.2))) else none)
theorem fe8_.ok (k:Nat):fe8_.Ctr (fe8_.f k):=by
 intro x1 x2 ch_0 r h0 mi w0 ok hm
 delta fe8_.f at h0
 refine c_enterZ (n:=15) ok hm func19 rfl rfl rfl fun b0 hb a S=>c_region (s_box S rfl rfl rfl fun g1 a w S=>s_alloc S Z43 rfl ⟨rfl,trivial⟩ rfl fun g2 a w S=>c_end (wp_seq (c_region (s_mv1 S rfl fun a S=>s_eqp S (b:=false) rfl rfl underlying26 rfl rfl fun a S=>c_end (c_condF S rfl rfl (wp_skip (x_thenN (c_region (s_mv1 S rfl fun a S=>s_loada S rfl .h1 T40 (s':=[.b20 x2]) rfl rfl fun a S=>bindX h0 fun t1 et1 h1=>s_callK S (fi4_.ok k (ch_0:=ch_0) et1) N56 rfl (.sk (.sk .pre)) (fun _=> .c8) rfl fun ch1 m le1 a w S=>?_)))))))))
 obtain ⟨c1,h2⟩:=chk_of h1; clear h1
 have hl1:=S.slotPlt (u:=10) c1 rfl
 replace S:=S.slotP (u:=10) c1 rfl
 refine s_nilchk S rfl rfl fun a S=>s_fieldAddr S rfl I110_1 T71 (by decide) rfl rfl fun a S=>s_fieldAddr S rfl I71_2 T43 (by decide) rfl rfl fun a S=>?_
 replace S:=S.famOpen (i:=(t1.1.getD 0)) hl1 .h2
 have hS:=S.structOpen (T:=(YE110 ch1.e3 ch1.e4)) (fun _=> .h) (((),(),(),(none,0),(none,0)),((),(),(),(none,0),(none,0)),(),(),(),(),())
 clear S; obtain ⟨ch2,S⟩:=hS
 refine s_loada S rfl .h T43 (s':=[.w4 (((atE t1.e3.2.1 (t1.1.getD 0)).2.1).e3)]) rfl rfl fun a S=>?_
 replace S:=S.structClose (T:=(YE110 ch1.e3 ch1.e4)) (e:=atE t1.e3.2.1 (t1.1.getD 0)) (ch2:((YE110 ch1.e3 ch1.e4)).Ch) rfl .h
 replace S:=S.famShut hl1 .h .h2
 refine s_storeJ S 0 rfl rfl rfl rfl .h8 T43 rfl rfl fun w S=>c_end (wp_ret ?_)
 obtain rfl:=Option.some.inj h2
 exact b_ret1 (d:=(.a4 (((atE t1.e3.2.1 (t1.1.getD 0)).2.1).e3))) S rfl (resD_cell rfl .h8 T43 rfl rfl) fun ok=>S.retX (Hx:=[]) hb _ _ (ch1:W7) (.c0 (.c0 (.c0 (.c0 (.c0 (.c0 (.c0 (.c0 .n)))))))) ok
abbrev fg9_.Ty:Type:=W2→(List Int)→Option W19
def fg9_.Ctr (s:fg9_.Ty):Prop:=∀ {x1:W2} {x2:List Int} {ch_0:W3} {r:W19} (h0:s x1 x2=some r) {mi:Mem} {w0:World},CtrB Tryz.prog 20 [(.v (.pointer (some ⟨ch_0.1,0,none⟩))),(.agg [.b20 x2])] (MS1 x1 ch_0) (fun (ch:W31)=>((.s ch.1 ch.2.1 ch.e3):D)) (fun (ch:W31)=>([Res.row yb 5 ch.1 ch.2.1 ch.e3 r.1]++MS1 (x1.1,r.e3,x1.e3,r.e5,r.e6,r.t6) (ch_0.1,ch_0.2.1,ch_0.e3,ch.e4,ch.e5,ch.e6,ch.e7,ch.e8,ch.e9,ch.e10,ch.e11,ch.e12,ch.e13,ch.e14,ch.e15,ch.t15))) mi w0
def fg9_.f (k:Nat)(x1:W2)(x2:List Int):Option W19:=(fi4_.f k x1 x2).bind fun t1=>(if t1.1.isSome=true then ((fb8_.f (((atE t1.2.2.1.2.1 (t1.1.getD 0)).2.1).2.2.2.1)).bind fun t2=>(some (t2,((),t1.2.2.1,(),t1.2.2.2.2.1,t1.2.2.2.2.2.1,t1.2.2.2.2.2.2)))) else none)
theorem fg9_.ok (k:Nat):fg9_.Ctr (fg9_.f k):=by
 intro x1 x2 ch_0 r h0 mi w0 ok hm
 delta fg9_.f at h0
 refine c_enterZ (n:=15) ok hm func20 rfl rfl rfl fun b0 hb a S=>c_region (s_box S rfl rfl rfl fun g1 a w S=>s_as1 S rfl fun a S=>c_end (wp_seq (c_region (s_mv1 S rfl fun a S=>s_eqp S (b:=false) rfl rfl underlying26 rfl rfl fun a S=>c_end (c_condF S rfl rfl (wp_skip (x_thenN (c_region (s_mv1 S rfl fun a S=>s_loada S rfl .h T40 (s':=[.b20 x2]) rfl rfl fun a S=>bindX h0 fun t1 et1 h1=>s_callK S (fi4_.ok k (ch_0:=ch_0) et1) N56 rfl (.sk .pre) (fun _=> .c8) rfl fun ch1 m le1 a w S=>?_)))))))))
 obtain ⟨c1,h2⟩:=chk_of h1; clear h1
 have hl1:=S.slotPlt (u:=9) c1 rfl
 replace S:=S.slotP (u:=9) c1 rfl
 refine s_nilchk S rfl rfl fun a S=>s_fieldAddr S rfl I110_1 T71 (by decide) rfl rfl fun a S=>s_fieldAddr S rfl I71_3 T44 (by decide) rfl rfl fun a S=>?_
 replace S:=S.famOpen (i:=(t1.1.getD 0)) hl1 .h2
 have hS:=S.structOpen (T:=(YE110 ch1.e3 ch1.e4)) (fun _=> .h) (((),(),(),(none,0),(none,0)),((),(),(),(none,0),(none,0)),(),(),(),(),())
 clear S; obtain ⟨ch2,S⟩:=hS
 refine s_loadSl S rfl .h T44 (A:=ch2.2.1.e4.1) (len:=(((atE t1.e3.2.1 (t1.1.getD 0)).2.1).e4).length) (cap:=ch2.2.1.e4.2) rfl rfl fun a S=>?_
 replace S:=S.structClose (T:=(YE110 ch1.e3 ch1.e4)) (e:=atE t1.e3.2.1 (t1.1.getD 0)) (ch2:((YE110 ch1.e3 ch1.e4)).Ch) rfl .h
 replace S:=S.famShut hl1 .h .h2
 refine bindX h2 fun t2 et2 h3=>s_callK S (fb8_.ok et2) N33 rfl .pre (fun _=> .c1) rfl fun ch3 m le1 a w S=>s_as1 S rfl fun a S=>c_end (wp_ret ?_)
 obtain rfl:=Option.some.inj h3
 exact b_ret1 (d:=(.s ch3.1 ch3.2.1 ch3.t2)) S rfl rfl fun ok=>S.retX (Hx:=[]) hb _ _ ((ch3.1,ch3.2.1,ch3.t2,ch1.1,ch1.2.1,ch1.e3,ch1.e4,ch1.e5,ch1.e6,ch1.e7,ch1.e8,ch1.e9,ch1.e10,ch1.e11,ch1.e12,ch1.t12):W31) (.c0 (.c0 (.c0 (.c0 (.c0 (.c0 (.c0 (.c0 (.c0 .n))))))))) ok
abbrev fh8_.Ty:Type:=W1→(List Int)→Option (List Int)
def fh8_.Ctr (s:fh8_.Ty):Prop:=∀ {x1:W1} {x2:List Int} {ch_0_0:Option Addr} {ch_0_1:Nat} {ch_0_2:Option Addr} {ch_0_3:Nat} {r:List Int} (h0:s x1 x2=some r) {mi:Mem} {w0:World},CtrB Tryz.prog 100 [(.agg (Y71.segs x1 ((),(),(),(ch_0_0,ch_0_1),(ch_0_2,ch_0_3)))),(.a4 x2)] [] (fun (ch:Unit)=>((.a4 r):D)) (fun (ch:Unit)=>[]) mi w0
def fh8_.j1:Option (List Int):=some [0,0,0,0]
def fh8_.b1 (x1:W1)(x2:List Int)(rec1:Int→Option (List Int))(y1:Int):Option (List Int):=if (decide (y1<((x1.2.2.2.2).length:Int)))=true then (if (0:Int)≤y1∧y1<((x1.2.2.2.2).length:Int) then (if (decide ((gt x1.2.2.2.2 y1).1=x2))=true then (some ((gt x1.2.2.2.2 y1).2)) else (rec1 (wr .i64 (y1+1)))) else none) else fh8_.j1
def fh8_.l1 (x1:W1)(x2:List Int):Nat→Int→Option (List Int)
  | 0,_=>none
  | q+1,y1=>fh8_.b1 x1 x2 (fh8_.l1 x1 x2 q) y1
def fh8_.f (k:Nat)(x1:W1)(x2:List Int):Option (List Int):=fh8_.l1 x1 x2 k 0
theorem fh8_.ok (k:Nat):fh8_.Ctr (fh8_.f k):=by
 intro x1 x2 ch_0_0 ch_0_1 ch_0_2 ch_0_3 r h0 mi w0 ok hm
 delta fh8_.f at h0
 refine c_enterZ (n:=28) ok hm func100 rfl rfl rfl fun b0 hb a S=>c_region (s_box S rfl rfl rfl fun g1 a w S=>s_box S rfl rfl rfl fun g2 a w S=>s_alloc S Z43 rfl ⟨rfl,trivial⟩ rfl fun g3 a w S=>c_end (wp_seq_k fun K1 hK1=>?_))
 have j1:∀ m g13 a w,St 28 m b0 [(4,(.p g13))] [Res.cells g13 43 [.w4 [0,0,0,0]]] a w→fh8_.j1=some r→K1 a w:=by
  intro m g13 a w S h0
  delta fh8_.j1 at h0
  refine hK1 a w (c_region (s_build S (ds:=[]) (dv:=(.a4 [0,0,0,0])) rfl (fun _=>by kernel_rfl) ⟨rfl,trivial⟩ rfl fun a S=>s_storeJ S 0 rfl rfl rfl rfl .h T43 rfl rfl fun w S=>c_end (wp_ret ?_)))
  obtain rfl:=Option.some.inj h0
  exact b_ret1 (d:=(.a4 [0,0,0,0])) S rfl (resD_cell rfl .h T43 rfl rfl) (S.rt hb)
 refine c_region (s_fieldAddr S rfl I71_4 T69 (by decide) rfl rfl fun a S=>s_loadSl S rfl .h2 T69 (A:=ch_0_2) (len:=(x1.t4).length) (cap:=ch_0_3) rfl rfl fun a S=>s_lenS S rfl underlying69 rfl fun a S=>s_mv1 S rfl fun a S=>c_end (wp_block ?_))
 refine c_loop (fun q1 a w=>∃ m y1 g20 g21 g22,St 28 m b0 [(9,(.i y1)),(8,(.i ((x1.t4).length:Int))),(4,(.p g20)),(3,(.p g21)),(2,(.p g22))] [Res.cells g20 43 [.w4 [0,0,0,0]],Res.cells g21 43 [.w4 x2],Res.cells g22 71 (Y71.segs x1 ((),(),(),(ch_0_0,ch_0_1),(ch_0_2,ch_0_3)))] a w∧fh8_.l1 x1 x2 q1 y1=some r) ?_ ?_ (k:=k) ⟨_,0,g3,g2,g1,(S.sb rfl (.c0 (.c0 (.c0 .n)))),h0⟩
 ·rintro a w ⟨m,y1,g20,g21,g22,S,h0⟩
  exact (nomatch (show (none:Option (List Int))=some r from h0))
 ·clear S h0
  rintro q1 a w ⟨m,y1,g20,g21,g22,S,h0⟩
  replace h0:fh8_.b1 x1 x2 (fh8_.l1 x1 x2 q1) y1=some r:=h0
  delta fh8_.b1 at h0
  refine c_region (s_bi S rfl fun a S=>c_end (wp_seq ?_))
  rcases ite_of h0 with ⟨c1,h1⟩ | ⟨c1,h1⟩
  ·refine c_condT S rfl c1 (wp_skip (x_thenN (wp_seq (wp_block (c_region (s_mv1 S rfl fun a S=>s_as1 S rfl fun a S=>c_end ?_))))))
   refine wp_seq (c_hS S (.tk 0 8 .done) 8 (.c1 (.c1 .n)) ⟨Res.stay_cells,Res.stay_cells,trivial⟩ [(5,(.i y1)),(3,(.p g21)),(2,(.p g22))] rfl (by kernel_rfl) ?_); clear S; intro w S CL hw le
   refine h_fieldAddr S CL hw le (subR rfl) rfl I71_4 T69 (by decide) rfl rfl rfl trivial fun a S CL=>h_loadSl S CL hw le (subR rfl) rfl .h1 T69 (A:=ch_0_2) (len:=(x1.t4).length) (cap:=ch_0_3) rfl rfl rfl trivial fun a S CL=>h_mv1 S CL hw le rfl trivial fun a S CL=>?_
   obtain ⟨c2,h2⟩:=chk_of h1; clear h1
   refine h_iaddrS S CL hw le (subR rfl) rfl rfl rfl underlying69 T83 c2.1 c2.2 rfl rfl trivial fun p1 a S CL=>h_faddrP S CL hw le (subR rfl) (tF:=(Ty.arr .u64 4)) (y:=(gt x1.t4 y1).1) rfl I83_0 T43 (by decide) (fun m h=>(at_fst (at_0 h))) rfl rfl trivial fun a S CL=>h_ldA S CL hw le (subR rfl) (fun (c:Unit)=>[.w4 ((gt x1.t4 y1).1)]) rfl T43 (fun _=>rfl) rfl rfl trivial fun ch1 a S CL=>?_
   refine h_loada S CL hw le (subR rfl) rfl .h T43 (s':=[.w4 x2]) rfl rfl rfl trivial fun a S CL=>h_eqa S CL hw le (subR rfl) rfl rfl underlying43 underlying41 T41 Q43 rfl rfl trivial fun a S CL=>?_
   refine h_done ?_; clear CL hw le
   refine x_thenN ?_
   rcases ite_of h2 with ⟨c3,h3⟩ | ⟨c3,h3⟩
   ·refine c_condT S rfl c3 (c_region (s_fieldAddr S rfl I71_4 T69 (by decide) rfl rfl fun a S=>s_loadSl S rfl .h2 T69 (A:=ch_0_2) (len:=(x1.t4).length) (cap:=ch_0_3) rfl rfl fun a S=>s_mv1 S rfl fun a S=>s_iaddrS S rfl rfl rfl underlying69 T83 c2.1 c2.2 rfl fun p2 a S=>s_faddrP S (tF:=(Ty.arr .u64 4)) (y:=(gt x1.t4 y1).2) rfl I83_1 T43 (by decide) (fun m h=>(at_snd (at_0 h))) rfl fun a S=>s_ldA S (fun (c:Unit)=>[.w4 ((gt x1.t4 y1).2)]) rfl T43 (fun _=>rfl) rfl fun ch2 a S=>?_))
    refine s_storeJ S 0 rfl rfl rfl rfl .h T43 rfl rfl fun w S=>c_end (wp_ret (x_blockR (x_thenR (x_thenR (x_blockR (x_thenR ?_))))))
    obtain rfl:=Option.some.inj h3
    exact b_ret1 (d:=(.a4 ((gt x1.t4 y1).2))) S rfl (resD_cell rfl .h T43 rfl rfl) (S.rt hb)
   ·refine c_condF S rfl c3 (wp_skip (x_blockN (x_thenN (c_region' (s_bi S rfl fun a S=>s_mv1 S rfl fun a S=>c_end' (x_thenN ?_))))))
    exact ⟨_,(wr .i64 (y1+1)),g20,g21,g22,(S.sb rfl (.c0 (.c0 (.c0 .n)))),h3⟩
  ·refine c_condF S rfl c1 (wp_exit (x_thenX (x_thenX (x_blockX (x_thenN ?_)))))
   exact j1 _ g20 a w (S.sub ⟨rfl,trivial⟩ (.c0 .n)) h1
abbrev fc5_.Ty:Type:=ST37→(List Int)→(List Int)→Option (List Int)
def fc5_.Ctr (s:fc5_.Ty):Prop:=∀ {x1:ST37} {x2:List Int} {x3:List Int} {ch_0_0:(Option Addr×Nat)×(Option Addr×Nat)×(Option Addr×Nat)×(Option Addr×Nat)×Unit×(Option Addr×Nat)×Unit×(Option Addr×Nat)} {r:List Int} (h0:s x1 x2 x3=some r) {mi:Mem} {w0:World},CtrB Tryz.prog 66 [(.agg (SY37.segs x1 ch_0_0)),(.agg [.b20 x2]),(.a4 x3)] [] (fun (ch:Unit)=>((.a4 r):D)) (fun (ch:Unit)=>[]) mi w0
def fc5_.f (k:Nat)(x1:ST37)(x2:List Int)(x3:List Int):Option (List Int):=(fd8_.f k x1 x2).bind fun t1=>((fh8_.f k t1.1 x3).bind fun t2=>(some t2))
theorem fc5_.ok (k:Nat):fc5_.Ctr (fc5_.f k):=by
 intro x1 x2 x3 ch_0_0 r h0 mi w0 ok hm
 delta fc5_.f at h0
 refine c_enterZ (n:=13) ok hm func66 rfl rfl rfl fun b0 hb a S=>c_region (s_box S rfl rfl rfl fun g1 a w S=>s_box S rfl rfl rfl fun g2 a w S=>s_box S rfl rfl rfl fun g3 a w S=>s_alloc S Z43 rfl ⟨rfl,trivial⟩ rfl fun g4 a w S=>c_end ?_)
 refine wp_seq (c_hS S (.take 0 (.take 1 (.take 4 (.alts (.run 2 true (.alts (.run 3 true (.alts (.run 5 true (.alts (.run 6 false .done .nil)) .nil)) .nil)) .nil))))) 6 (.c1 (.c1 (.c1 .n))) ⟨Res.stay_cells,Res.stay_cells,Res.stay_cells,trivial⟩ [(5,(.p g3)),(4,(.p g2)),(3,(.p g1))] rfl (by kernel_rfl) ?_); clear S; intro w S CL hw le
 refine h_loada S CL hw le (subR rfl) rfl .h2 T37 (s':=(SY37.segs x1 ch_0_0)) rfl rfl rfl trivial fun a S CL=>h_loada S CL hw le (subR rfl) rfl .h1 T40 (s':=[.b20 x2]) rfl rfl rfl trivial fun a S CL=>h_loada S CL hw le (subR rfl) rfl .h T43 (s':=[.w4 x3]) rfl rfl rfl trivial fun a S CL=>h_run' S rfl trivial (bindX h0 fun t1 et1 h1=>s_callK S (fd8_.ok k (ch_0_0:=ch_0_0) et1) N64 rfl .pre (fun _=> .n) rfl fun ch1 m le1 a w S=>?_)
 replace le:=le.trans le1
 refine CL.bk hw S (.c1 (.c1 (.c1 .n))) le fun hw=>h_run' S rfl trivial (s_fielda S rfl I122_0 T71 (s':=(Y71.segs t1.1 ((),(),(),(ch1.1,ch1.2.1),ch1.t2))) rfl rfl fun a S=>CL.bk hw S (.c1 (.c1 (.c1 .n))) le fun hw=>h_run' S rfl trivial (bindX h1 fun t2 et2 h2=>s_callK S (fh8_.ok k et2) N100 rfl .pre (fun _=> .n) rfl fun ch2 m le1 a w S=>?_))
 replace le:=le.trans le1
 refine CL.bk hw S (.c1 (.c1 (.c1 .n))) le fun hw=>h_run' S rfl trivial (s_store S rfl rfl rfl (s':=[.w4 t2]) .h T43 rfl rfl fun w S=>?_)
 refine h_back ⟨fun h=>(nomatch h),?_⟩
 refine h_done ?_; clear CL hw le
 refine x_thenN (wp_ret ?_)
 obtain rfl:=Option.some.inj h2
 exact b_ret1 (d:=(.a4 t2)) S rfl (resD_cell rfl .h T43 rfl rfl) (S.rt hb)
abbrev fb4_.Ty:Type:=ST37→(List Int)→(List Int)→Option (List Int)
def fb4_.Ctr (s:fb4_.Ty):Prop:=∀ {x1:ST37} {x2:List Int} {x3:List Int} {ch_0_0:(Option Addr×Nat)×(Option Addr×Nat)×(Option Addr×Nat)×(Option Addr×Nat)×Unit×(Option Addr×Nat)×Unit×(Option Addr×Nat)} {r:List Int} (h0:s x1 x2 x3=some r) {mi:Mem} {w0:World},CtrB Tryz.prog 67 [(.agg (SY37.segs x1 ch_0_0)),(.agg [.b20 x2]),(.a4 x3)] [] (fun (ch:Unit)=>((.a4 r):D)) (fun (ch:Unit)=>[]) mi w0
def fb4_.f (k:Nat)(x1:ST37)(x2:List Int)(x3:List Int):Option (List Int):=(fd8_.f k x1 x2).bind fun t1=>(if t1.2.1=true then (some [0,0,0,0]) else ((fc4_.f k x1 x2).bind fun t2=>((fh8_.f k t2 x3).bind fun t3=>(some t3))))
theorem fb4_.ok (k:Nat):fb4_.Ctr (fb4_.f k):=by
 intro x1 x2 x3 ch_0_0 r h0 mi w0 ok hm
 delta fb4_.f at h0
 refine c_enterZ (n:=17) ok hm func67 rfl rfl rfl fun b0 hb a S=>c_region (s_box S rfl rfl rfl fun g1 a w S=>s_box S rfl rfl rfl fun g2 a w S=>s_box S rfl rfl rfl fun g3 a w S=>s_alloc S Z43 rfl ⟨rfl,trivial⟩ rfl fun g4 a w S=>c_end (wp_seq (c_region (s_loada S rfl .h3 T37 (s':=(SY37.segs x1 ch_0_0)) rfl rfl fun a S=>s_loada S rfl .h2 T40 (s':=[.b20 x2]) rfl rfl fun a S=>bindX h0 fun t1 et1 h1=>s_callK S (fd8_.ok k (ch_0_0:=ch_0_0) et1) N64 rfl .pre (fun _=> .n) rfl fun ch1 m le1 a w S=>s_field1 S rfl I122_1 T4 (v:=(.bool t1.2.1)) rfl rfl fun a S=>c_end ?_))))
 rcases ite_of h1 with ⟨c1,h2⟩ | ⟨c1,h2⟩
 ·refine c_condT S rfl c1 (c_region (s_build S (ds:=[]) (dv:=(.a4 [0,0,0,0])) rfl (fun _=>by kernel_rfl) ⟨rfl,trivial⟩ rfl fun a S=>s_storeJ S 0 rfl rfl rfl rfl .h T43 rfl rfl fun w S=>c_end (wp_ret (x_thenR ?_))))
  obtain rfl:=Option.some.inj h2
  exact b_ret1 (d:=(.a4 [0,0,0,0])) S rfl (resD_cell rfl .h T43 rfl rfl) (S.rt hb)
 ·refine c_condF S rfl c1 (wp_skip (x_thenN ?_))
  refine wp_seq (c_hS S (.take 0 (.take 1 (.take 3 (.alts (.run 2 true (.alts (.run 4 true (.alts (.run 5 false .done .nil)) .nil)) .nil))))) 5 (.c1 (.c1 (.c1 .n))) ⟨Res.stay_cells,Res.stay_cells,Res.stay_cells,trivial⟩ [(5,(.p g3)),(4,(.p g2)),(3,(.p g1))] rfl (by kernel_rfl) ?_); clear S; intro w S CL hw le
  refine h_loada S CL hw le (subR rfl) rfl .h2 T37 (s':=(SY37.segs x1 ch_0_0)) rfl rfl rfl trivial fun a S CL=>h_loada S CL hw le (subR rfl) rfl .h1 T40 (s':=[.b20 x2]) rfl rfl rfl trivial fun a S CL=>h_loada S CL hw le (subR rfl) rfl .h T43 (s':=[.w4 x3]) rfl rfl rfl trivial fun a S CL=>h_run' S rfl trivial (bindX h2 fun t2 et2 h3=>s_callK S (fc4_.ok k (ch_0_0:=ch_0_0) et2) N87 rfl .pre (fun _=> .n) rfl fun ch2 m le1 a w S=>?_)
  replace le:=le.trans le1
  refine CL.bk hw S (.c1 (.c1 (.c1 .n))) le fun hw=>h_run' S rfl trivial (bindX h3 fun t3 et3 h4=>s_callK S (fh8_.ok k et3) N100 rfl .pre (fun _=> .n) rfl fun ch3 m le1 a w S=>?_)
  replace le:=le.trans le1
  refine CL.bk hw S (.c1 (.c1 (.c1 .n))) le fun hw=>h_run' S rfl trivial (s_store S rfl rfl rfl (s':=[.w4 t3]) .h T43 rfl rfl fun w S=>?_)
  refine h_back ⟨fun h=>(nomatch h),?_⟩
  refine h_done ?_; clear CL hw le
  refine x_thenN (wp_ret ?_)
  obtain rfl:=Option.some.inj h4
  exact b_ret1 (d:=(.a4 t3)) S rfl (resD_cell rfl .h T43 rfl rfl) (S.rt hb)
abbrev fd0_.Ty:Type:=W2→(List Int)→Option W22
def fd0_.Ctr (s:fd0_.Ty):Prop:=∀ {x1:W2} {x2:List Int} {ch_0:W3} {r:W22} (h0:s x1 x2=some r) {mi:Mem} {w0:World},CtrB Tryz.prog 25 [(.v (.pointer (some ⟨ch_0.1,0,none⟩))),(.agg [.b20 x2])] (MS1 x1 ch_0) (fun (ch:W7)=>((.b r.1):D)) (fun (ch:W7)=>(MS1 (x1.1,r.e3,x1.e3,r.e5,r.e6,r.t6) (ch_0.1,ch_0.2.1,ch_0.e3,ch.1,ch.2.1,ch.e3,ch.e4,ch.e5,ch.e6,ch.e7,ch.e8,ch.e9,ch.e10,ch.e11,ch.e12,ch.t12))) mi w0
def fd0_.f (k:Nat)(x1:W2)(x2:List Int):Option W22:=(fi4_.f k x1 x2).bind fun t1=>(if t1.1.isSome=true then (some ((atE t1.2.2.1.2.1 (t1.1.getD 0)).2.2.2.2.1,((),t1.2.2.1,(),t1.2.2.2.2.1,t1.2.2.2.2.2.1,t1.2.2.2.2.2.2))) else none)
theorem fd0_.ok (k:Nat):fd0_.Ctr (fd0_.f k):=by
 intro x1 x2 ch_0 r h0 mi w0 ok hm
 delta fd0_.f at h0
 refine c_enterZ (n:=15) ok hm func25 rfl rfl rfl fun b0 hb a S=>c_region (s_box S rfl rfl rfl fun g1 a w S=>s_as1 S rfl fun a S=>c_end (c_region (s_mv1 S rfl fun a S=>s_nep S (b:=true) rfl rfl underlying26 rfl rfl fun a S=>s_mv1 S rfl fun a S=>s_gT S (b:=true) rfl rfl rfl (s_mv1 S rfl fun a S=>s_gT S (b:=true) rfl rfl rfl (s_loada S rfl .h T40 (s':=[.b20 x2]) rfl rfl fun a S=>s_gT S (b:=true) rfl rfl rfl (bindX h0 fun t1 et1 h1=>s_callK S (fi4_.ok k (ch_0:=ch_0) et1) N56 rfl (.sk .pre) (fun _=> .c8) rfl fun ch1 m le1 a w S=>s_gT S (b:=true) rfl rfl rfl ?_))))))
 obtain ⟨c1,h2⟩:=chk_of h1; clear h1
 have hl1:=S.slotPlt (u:=10) c1 rfl
 replace S:=S.slotP (u:=10) c1 rfl
 refine s_nilchk S rfl rfl fun a S=>s_gT S (b:=true) rfl rfl rfl (s_fieldAddr S rfl I110_4 T4 (by decide) rfl rfl fun a S=>s_gT S (b:=true) rfl rfl rfl ?_)
 replace S:=S.famOpen (i:=(t1.1.getD 0)) hl1 .h2
 have hS:=S.structOpen (T:=(YE110 ch1.e3 ch1.e4)) (fun _=> .h) (((),(),(),(none,0),(none,0)),((),(),(),(none,0),(none,0)),(),(),(),(),())
 clear S; obtain ⟨ch2,S⟩:=hS
 refine s_load1 S rfl .h T4 (v:=(.bool ((atE t1.e3.2.1 (t1.1.getD 0)).e5))) rfl rfl fun a S=>?_
 replace S:=S.structClose (T:=(YE110 ch1.e3 ch1.e4)) (e:=atE t1.e3.2.1 (t1.1.getD 0)) (ch2:((YE110 ch1.e3 ch1.e4)).Ch) rfl .h
 replace S:=S.famShut hl1 .h .h2
 refine s_pick S (b:=true) (hc_of rfl rfl) rfl rfl fun a S=>s_as1 S rfl fun a S=>c_end (wp_ret ?_)
 obtain rfl:=Option.some.inj h2
 exact b_ret1 (d:=(.b ((atE t1.e3.2.1 (t1.1.getD 0)).e5))) S rfl rfl fun ok=>S.retX (Hx:=[]) hb _ _ (ch1:W7) (.c0 (.c0 (.c0 (.c0 (.c0 (.c0 (.c0 (.c0 .n)))))))) ok
abbrev fh7_.Ty:Type:=W2→ST37→(List Int)→(List Int)→Option W22
def fh7_.Ctr (s:fh7_.Ty):Prop:=∀ {x1:W2} {x2:ST37} {x3:List Int} {x4:List Int} {ch_0:W3} {ch_1_0:(Option Addr×Nat)×(Option Addr×Nat)×(Option Addr×Nat)×(Option Addr×Nat)×Unit×(Option Addr×Nat)×Unit×(Option Addr×Nat)} {r:W22} (h0:s x1 x2 x3 x4=some r) {mi:Mem} {w0:World},CtrB Tryz.prog 27 [(.v (.pointer (some ⟨ch_0.1,0,none⟩))),(.agg (SY37.segs x2 ch_1_0)),(.agg [.b20 x3]),(.a4 x4)] (MS1 x1 ch_0) (fun (ch:W7)=>((.b r.1):D)) (fun (ch:W7)=>(MS1 (x1.1,r.e3,x1.e3,r.e5,r.e6,r.t6) (ch_0.1,ch_0.2.1,ch_0.e3,ch.1,ch.2.1,ch.e3,ch.e4,ch.e5,ch.e6,ch.e7,ch.e8,ch.e9,ch.e10,ch.e11,ch.e12,ch.t12))) mi w0
def fh7_.f (k:Nat)(x1:W2)(x2:ST37)(x3:List Int)(x4:List Int):Option W22:=(fd8_.f k x2 x3).bind fun t1=>((ff6_.f k x1 x3).bind fun t2=>((fb5_.f k x2 x3).bind fun t3=>(if (t2.1==t3)=true then ((ff8_.f k (x1.1,t2.2.2.1,x1.2.2.1,t2.2.2.2.2.1,t2.2.2.2.2.2.1,t2.2.2.2.2.2.2) x3).bind fun t4=>(if (t4.1==t1.1.2.1)=true then ((fe8_.f k (x1.1,t4.2.2.1,x1.2.2.1,t4.2.2.2.2.1,t4.2.2.2.2.2.1,t4.2.2.2.2.2.2) x3).bind fun t5=>(if (decide (t5.1=t1.1.2.2.1))=true then ((fg9_.f k (x1.1,t5.2.2.1,x1.2.2.1,t5.2.2.2.2.1,t5.2.2.2.2.2.1,t5.2.2.2.2.2.2) x3).bind fun t6=>(if ((bstr t6.1).toList==(bstr t1.1.2.2.2.1).toList)=true then ((fh3_.f k (x1.1,t6.2.2.1,x1.2.2.1,t6.2.2.2.2.1,t6.2.2.2.2.2.1,t6.2.2.2.2.2.2) x3 x4).bind fun t7=>((fc5_.f k x2 x3 x4).bind fun t8=>(if (decide (t7.1=t8))=true then ((fg_.f k (x1.1,t7.2.2.1,x1.2.2.1,t7.2.2.2.2.1,t7.2.2.2.2.2.1,t7.2.2.2.2.2.2) x3 x4).bind fun t9=>((fb4_.f k x2 x3 x4).bind fun t10=>(if (decide (t9.1=t10))=true then ((fd0_.f k (x1.1,t9.2.2.1,x1.2.2.1,t9.2.2.2.2.1,t9.2.2.2.2.2.1,t9.2.2.2.2.2.2) x3).bind fun t11=>(some (t11.1==t1.2.2,((),t11.2.2.1,(),t11.2.2.2.2.1,t11.2.2.2.2.2.1,t11.2.2.2.2.2.2)))) else (some (false,((),t9.2.2.1,(),t9.2.2.2.2.1,t9.2.2.2.2.2.1,t9.2.2.2.2.2.2)))))) else (some (false,((),t7.2.2.1,(),t7.2.2.2.2.1,t7.2.2.2.2.2.1,t7.2.2.2.2.2.2)))))) else (some (false,((),t6.2.2.1,(),t6.2.2.2.2.1,t6.2.2.2.2.2.1,t6.2.2.2.2.2.2))))) else (some (false,((),t5.2.2.1,(),t5.2.2.2.2.1,t5.2.2.2.2.2.1,t5.2.2.2.2.2.2))))) else (some (false,((),t4.2.2.1,(),t4.2.2.2.2.1,t4.2.2.2.2.2.1,t4.2.2.2.2.2.2))))) else (some (false,((),t2.2.2.1,(),t2.2.2.2.2.1,t2.2.2.2.2.2.1,t2.2.2.2.2.2.2))))))
theorem fh7_.ok (k:Nat):fh7_.Ctr (fh7_.f k):=by
 intro x1 x2 x3 x4 ch_0 ch_1_0 r h0 mi w0 ok hm
 delta fh7_.f at h0
 refine c_enterZ (n:=79) ok hm func27 rfl rfl rfl fun b0 hb a S=>c_region (s_box S rfl rfl rfl fun g1 a w S=>s_box S rfl rfl rfl fun g2 a w S=>s_box S rfl rfl rfl fun g3 a w S=>s_as1 S rfl fun a S=>c_end (c_region (s_loada S rfl .h2 T37 (s':=(SY37.segs x2 ch_1_0)) rfl rfl fun a S=>s_loada S rfl .h1 T40 (s':=[.b20 x3]) rfl rfl fun a S=>bindX h0 fun t1 et1 h1=>s_callK S (fd8_.ok k (ch_0_0:=ch_1_0) et1) N64 rfl .pre (fun _=> .n) rfl fun ch1 m le1 a w S=>s_alloc S Z122 rfl ⟨rfl,rfl,rfl,rfl,rfl,rfl,rfl,trivial⟩ rfl fun g4 a w S=>s_store S rfl rfl rfl (s':=(Y122.segs t1 (((),(),(),(ch1.1,ch1.2.1),ch1.t2),(),()))) .h T122 rfl rfl fun w S=>c_end ?_)))
 refine wp_seq (c_hS S (.take 0 (.take 1 (.take 3 (.take 4 (.alts (.run 2 true (.alts (.run 5 true (.tk 6 4 (.tk 11 3 (.alts (.run 10 true (.tk 14 5 (.tk 20 3 (.alts (.run 19 true (.tk 23 5 (.tk 30 4 (.alts (.run 28 true (.alts (.run 29 true (.tk 34 6 (.tk 41 3 (.alts (.run 40 true (.alts (.run 44 true (.tk 45 6 (.tk 52 3 (.alts (.run 51 true (.alts (.run 55 true (.tk 56 5 (.take 62 (.take 63 (.alts (.run 61 true (.tk 64 3 .done) .nil))))) .nil)) .nil)))) .nil)) .nil)))) .nil)) .nil)))) .nil)))) .nil)))) .nil)) .nil)))))) 67 (.c0 (.c0 (.c0 (.c0 .n)))) ⟨Res.stay_cells,Res.stay_cells,Res.stay_cells,Res.stay_cells,trivial⟩ [(9,(.p g4)),(7,(.p g3)),(6,(.p g2)),(5,(.p g1)),(0,(.v (.pointer (some ⟨ch_0.1,0,none⟩))))] rfl (by kernel_rfl) ?_); clear S; intro w S CL hw le
 refine h_mv1 S CL hw le rfl trivial fun a S CL=>h_loada S CL hw le (subR rfl) rfl .h2 T40 (s':=[.b20 x3]) rfl rfl rfl trivial fun a S CL=>h_loada S CL hw le (subR rfl) rfl .h3 T37 (s':=(SY37.segs x2 ch_1_0)) rfl rfl rfl trivial fun a S CL=>h_loada S CL hw le (subR rfl) rfl .h2 T40 (s':=[.b20 x3]) rfl rfl rfl trivial fun a S CL=>h_run' S rfl trivial (bindX h1 fun t2 et2 h2=>s_callK S (ff6_.ok k (ch_0:=ch_0) et2) N17 rfl (.sk (.sk (.sk (.sk .pre)))) (fun _=> .c8) rfl fun ch2 m le1 a w S=>?_)
 replace le:=le.trans le1
 refine CL.bk hw S (.c8 (.c8 (.c8 (.c8 .n)))) le fun hw=>?_
 replace CL:=CL.add (t:=15) (d:=(.b t2.1)) S rfl rfl
 refine h_run' S rfl trivial (bindX h2 fun t3 et3 h3=>s_callK S (fb5_.ok k (ch_0_0:=ch_1_0) et3) N65 rfl .pre (fun _=> .n) rfl fun ch3 m le1 a w S=>?_)
 replace le:=le.trans le1
 refine CL.bk hw S (.c8 (.c8 (.c8 (.c8 .n)))) le fun hw=>?_
 replace CL:=CL.add (t:=18) (d:=(.b t3)) S rfl rfl
 refine h_eqb S CL hw le (subR rfl) rfl rfl underlying4 rfl rfl trivial fun a S CL=>h_mv1 S CL hw le rfl trivial fun a S CL=>?_
 rcases ite_of h3 with ⟨c1,h4⟩ | ⟨c1,h4⟩
 ·refine h_mv1 S CL hw le rfl ⟨_,_,rfl,rfl,c1⟩ fun a S CL=>h_loada S CL hw le (subR rfl) rfl .h2 T40 (s':=[.b20 x3]) rfl rfl rfl ⟨_,_,rfl,rfl,c1⟩ fun a S CL=>h_fieldAddr S CL hw le (subR rfl) rfl I122_0 T71 (by decide) rfl rfl rfl ⟨_,_,rfl,rfl,c1⟩ fun a S CL=>h_fieldAddr S CL hw le (subR rfl) rfl I71_1 T41 (by decide) rfl rfl rfl ⟨_,_,rfl,rfl,c1⟩ fun a S CL=>h_load1 S CL hw le (subR rfl) rfl .h T41 (v:=(.int .u64 t1.1.2.1)) rfl rfl rfl ⟨_,_,rfl,rfl,c1⟩ fun a S CL=>h_run' S rfl ⟨_,_,rfl,rfl,c1⟩ (bindX h4 fun t4 et4 h5=>s_callK S (ff8_.ok k (ch_0:=(ch_0.1,ch_0.2.1,ch_0.e3,ch2.1,ch2.2.1,ch2.e3,ch2.e4,ch2.e5,ch2.e6,ch2.e7,ch2.e8,ch2.e9,ch2.e10,ch2.e11,ch2.e12,ch2.t12)) et4) N18 rfl .pre (fun _=> .c8) rfl fun ch4 m le1 a w S=>?_)
  replace le:=le.trans le1
  refine CL.bk hw S (.c8 (.c8 (.c8 (.c8 .n)))) le fun hw=>?_
  replace CL:=CL.add (t:=23) (d:=(.w t4.1)) S rfl rfl
  refine h_bin S CL hw le (subR rfl) rfl rfl rfl rfl rfl ⟨_,_,rfl,rfl,c1⟩ fun a S CL=>h_pick S CL hw le (subR rfl) (b:=true) (hc_of rfl c1) rfl rfl rfl trivial fun a S CL=>h_mv1 S CL hw le rfl trivial fun a S CL=>?_
  rcases ite_of h5 with ⟨c2,h6⟩ | ⟨c2,h6⟩
  ·refine h_mv1 S CL hw le rfl ⟨_,_,rfl,rfl,c2⟩ fun a S CL=>h_loada S CL hw le (subR rfl) rfl .h2 T40 (s':=[.b20 x3]) rfl rfl rfl ⟨_,_,rfl,rfl,c2⟩ fun a S CL=>h_fieldAddr S CL hw le (subR rfl) rfl I122_0 T71 (by decide) rfl rfl rfl ⟨_,_,rfl,rfl,c2⟩ fun a S CL=>h_fieldAddr S CL hw le (subR rfl) rfl I71_2 T43 (by decide) rfl rfl rfl ⟨_,_,rfl,rfl,c2⟩ fun a S CL=>h_loada S CL hw le (subR rfl) rfl .h T43 (s':=[.w4 t1.1.e3]) rfl rfl rfl ⟨_,_,rfl,rfl,c2⟩ fun a S CL=>h_run' S rfl ⟨_,_,rfl,rfl,c2⟩ (bindX h6 fun t5 et5 h7=>s_callK S (fe8_.ok k (ch_0:=(ch_0.1,ch_0.2.1,ch_0.e3,ch4.1,ch4.2.1,ch4.e3,ch4.e4,ch4.e5,ch4.e6,ch4.e7,ch4.e8,ch4.e9,ch4.e10,ch4.e11,ch4.e12,ch4.t12)) et5) N19 rfl .pre (fun _=> .c8) rfl fun ch5 m le1 a w S=>?_)
   replace le:=le.trans le1
   refine CL.bk hw S (.c8 (.c8 (.c8 (.c8 .n)))) le fun hw=>?_
   replace CL:=CL.add (t:=32) (d:=(.a4 t5.1)) S rfl rfl
   refine h_eqa S CL hw le (subR rfl) rfl rfl underlying43 underlying41 T41 Q43 rfl rfl ⟨_,_,rfl,rfl,c2⟩ fun a S CL=>h_pick S CL hw le (subR rfl) (b:=true) (hc_of rfl c2) rfl rfl rfl trivial fun a S CL=>h_mv1 S CL hw le rfl trivial fun a S CL=>?_
   rcases ite_of h7 with ⟨c3,h8⟩ | ⟨c3,h8⟩
   ·refine h_mv1 S CL hw le rfl ⟨_,_,rfl,rfl,c3⟩ fun a S CL=>h_loada S CL hw le (subR rfl) rfl .h2 T40 (s':=[.b20 x3]) rfl rfl rfl ⟨_,_,rfl,rfl,c3⟩ fun a S CL=>h_fieldAddr S CL hw le (subR rfl) rfl I122_0 T71 (by decide) rfl rfl rfl ⟨_,_,rfl,rfl,c3⟩ fun a S CL=>h_fieldAddr S CL hw le (subR rfl) rfl I71_3 T44 (by decide) rfl rfl rfl ⟨_,_,rfl,rfl,c3⟩ fun a S CL=>h_loadSl S CL hw le (subR rfl) rfl .h T44 (A:=ch1.1) (len:=(t1.1.e4).length) (cap:=ch1.2.1) rfl rfl rfl ⟨_,_,rfl,rfl,c3⟩ fun a S CL=>h_strS S CL hw le (subR rfl) rfl rfl underlying44 underlying5 underlying9 rfl rfl ⟨_,_,rfl,rfl,c3⟩ fun a S CL=>h_run' S rfl ⟨_,_,rfl,rfl,c3⟩ (bindX h8 fun t6 et6 h9=>s_callK S (fg9_.ok k (ch_0:=(ch_0.1,ch_0.2.1,ch_0.e3,ch5.1,ch5.2.1,ch5.e3,ch5.e4,ch5.e5,ch5.e6,ch5.e7,ch5.e8,ch5.e9,ch5.e10,ch5.e11,ch5.e12,ch5.t12)) et6) N20 rfl .pre (fun _=> .c9) rfl fun ch6 m le1 a w S=>?_)
    replace le:=le.trans le1
    refine CL.bk hw S (.c9 (.c9 (.c9 (.c9 .n)))) le fun hw=>h_run' S rfl ⟨_,_,rfl,rfl,c3⟩ ?_
    replace S:=S.rowfro .h
    obtain ⟨m,le1,S,hro⟩:=S
    replace le:=le.trans le1
    replace S:=S.slotro (u:=41) rfl hro
    refine s_strS S rfl rfl underlying44 underlying5 underlying9 rfl fun a S=>CL.bk hw S (.c8 (.c8 (.c8 (.c8 .n)))) le fun hw=>?_
    replace CL:=CL.add (t:=42) (d:=(.v (.string (bstr t6.1)))) S rfl rfl
    refine h_eqT S CL hw le (subR rfl) rfl rfl rfl rfl ⟨_,_,rfl,rfl,c3⟩ fun a S CL=>h_pick S CL hw le (subR rfl) (b:=true) (hc_of rfl c3) rfl rfl rfl trivial fun a S CL=>h_mv1 S CL hw le rfl trivial fun a S CL=>?_
    rcases ite_of h9 with ⟨c4,h10⟩ | ⟨c4,h10⟩
    ·refine h_mv1 S CL hw le rfl ⟨_,_,rfl,rfl,c4⟩ fun a S CL=>h_loada S CL hw le (subR rfl) rfl .h2 T40 (s':=[.b20 x3]) rfl rfl rfl ⟨_,_,rfl,rfl,c4⟩ fun a S CL=>h_loada S CL hw le (subR rfl) rfl .h1 T43 (s':=[.w4 x4]) rfl rfl rfl ⟨_,_,rfl,rfl,c4⟩ fun a S CL=>h_loada S CL hw le (subR rfl) rfl .h3 T37 (s':=(SY37.segs x2 ch_1_0)) rfl rfl rfl ⟨_,_,rfl,rfl,c4⟩ fun a S CL=>h_loada S CL hw le (subR rfl) rfl .h2 T40 (s':=[.b20 x3]) rfl rfl rfl ⟨_,_,rfl,rfl,c4⟩ fun a S CL=>h_loada S CL hw le (subR rfl) rfl .h1 T43 (s':=[.w4 x4]) rfl rfl rfl ⟨_,_,rfl,rfl,c4⟩ fun a S CL=>h_run' S rfl ⟨_,_,rfl,rfl,c4⟩ (bindX h10 fun t7 et7 h11=>s_callK S (fh3_.ok k (ch_0:=(ch_0.1,ch_0.2.1,ch_0.e3,ch6.e4,ch6.e5,ch6.e6,ch6.e7,ch6.e8,ch6.e9,ch6.e10,ch6.e11,ch6.e12,ch6.e13,ch6.e14,ch6.e15,ch6.t15)) et7) N21 rfl .pre (fun _=> .c8) rfl fun ch7 m le1 a w S=>?_)
     replace le:=le.trans le1
     refine CL.bk hw S (.c8 (.c8 (.c8 (.c8 .n)))) le fun hw=>?_
     replace CL:=CL.add (t:=53) (d:=(.a4 t7.1)) S rfl rfl
     refine h_run' S rfl ⟨_,_,rfl,rfl,c4⟩ (bindX h11 fun t8 et8 h12=>s_callK S (fc5_.ok k (ch_0_0:=ch_1_0) et8) N66 rfl .pre (fun _=> .n) rfl fun ch8 m le1 a w S=>?_)
     replace le:=le.trans le1
     refine CL.bk hw S (.c8 (.c8 (.c8 (.c8 .n)))) le fun hw=>?_
     replace CL:=CL.add (t:=57) (d:=(.a4 t8)) S rfl rfl
     refine h_eqa S CL hw le (subR rfl) rfl rfl underlying43 underlying41 T41 Q43 rfl rfl ⟨_,_,rfl,rfl,c4⟩ fun a S CL=>h_pick S CL hw le (subR rfl) (b:=true) (hc_of rfl c4) rfl rfl rfl trivial fun a S CL=>h_mv1 S CL hw le rfl trivial fun a S CL=>?_
     rcases ite_of h12 with ⟨c5,h13⟩ | ⟨c5,h13⟩
     ·refine h_mv1 S CL hw le rfl ⟨_,_,rfl,rfl,c5⟩ fun a S CL=>h_loada S CL hw le (subR rfl) rfl .h2 T40 (s':=[.b20 x3]) rfl rfl rfl ⟨_,_,rfl,rfl,c5⟩ fun a S CL=>h_loada S CL hw le (subR rfl) rfl .h1 T43 (s':=[.w4 x4]) rfl rfl rfl ⟨_,_,rfl,rfl,c5⟩ fun a S CL=>h_loada S CL hw le (subR rfl) rfl .h3 T37 (s':=(SY37.segs x2 ch_1_0)) rfl rfl rfl ⟨_,_,rfl,rfl,c5⟩ fun a S CL=>h_loada S CL hw le (subR rfl) rfl .h2 T40 (s':=[.b20 x3]) rfl rfl rfl ⟨_,_,rfl,rfl,c5⟩ fun a S CL=>h_loada S CL hw le (subR rfl) rfl .h1 T43 (s':=[.w4 x4]) rfl rfl rfl ⟨_,_,rfl,rfl,c5⟩ fun a S CL=>h_run' S rfl ⟨_,_,rfl,rfl,c5⟩ (bindX h13 fun t9 et9 h14=>s_callK S (fg_.ok k (ch_0:=(ch_0.1,ch_0.2.1,ch_0.e3,ch7.1,ch7.2.1,ch7.e3,ch7.e4,ch7.e5,ch7.e6,ch7.e7,ch7.e8,ch7.e9,ch7.e10,ch7.e11,ch7.e12,ch7.t12)) et9) N22 rfl .pre (fun _=> .c8) rfl fun ch9 m le1 a w S=>?_)
      replace le:=le.trans le1
      refine CL.bk hw S (.c8 (.c8 (.c8 (.c8 .n)))) le fun hw=>?_
      replace CL:=CL.add (t:=64) (d:=(.a4 t9.1)) S rfl rfl
      refine h_run' S rfl ⟨_,_,rfl,rfl,c5⟩ (bindX h14 fun t10 et10 h15=>s_callK S (fb4_.ok k (ch_0_0:=ch_1_0) et10) N67 rfl .pre (fun _=> .n) rfl fun ch10 m le1 a w S=>?_)
      replace le:=le.trans le1
      refine CL.bk hw S (.c8 (.c8 (.c8 (.c8 .n)))) le fun hw=>?_
      replace CL:=CL.add (t:=68) (d:=(.a4 t10)) S rfl rfl
      refine h_eqa S CL hw le (subR rfl) rfl rfl underlying43 underlying41 T41 Q43 rfl rfl ⟨_,_,rfl,rfl,c5⟩ fun a S CL=>h_pick S CL hw le (subR rfl) (b:=true) (hc_of rfl c5) rfl rfl rfl trivial fun a S CL=>h_mv1 S CL hw le rfl trivial fun a S CL=>?_
      rcases ite_of h15 with ⟨c6,h16⟩ | ⟨c6,h16⟩
      ·refine h_mv1 S CL hw le rfl ⟨_,_,rfl,rfl,c6⟩ fun a S CL=>h_loada S CL hw le (subR rfl) rfl .h2 T40 (s':=[.b20 x3]) rfl rfl rfl ⟨_,_,rfl,rfl,c6⟩ fun a S CL=>h_fieldAddr S CL hw le (subR rfl) rfl I122_2 T4 (by decide) rfl rfl rfl ⟨_,_,rfl,rfl,c6⟩ fun a S CL=>h_load1 S CL hw le (subR rfl) rfl .h T4 (v:=(.bool t1.t2)) rfl rfl rfl ⟨_,_,rfl,rfl,c6⟩ fun a S CL=>h_run' S rfl ⟨_,_,rfl,rfl,c6⟩ (bindX h16 fun t11 et11 h17=>s_callK S (fd0_.ok k (ch_0:=(ch_0.1,ch_0.2.1,ch_0.e3,ch9.1,ch9.2.1,ch9.e3,ch9.e4,ch9.e5,ch9.e6,ch9.e7,ch9.e8,ch9.e9,ch9.e10,ch9.e11,ch9.e12,ch9.t12)) et11) N25 rfl .pre (fun _=> .c8) rfl fun ch11 m le1 a w S=>?_)
       replace le:=le.trans le1
       refine CL.bk hw S (.c8 (.c8 (.c8 (.c8 .n)))) le fun hw=>?_
       replace CL:=CL.add (t:=74) (d:=(.b t11.1)) S rfl rfl
       refine h_eqb S CL hw le (subR rfl) rfl rfl underlying4 rfl rfl ⟨_,_,rfl,rfl,c6⟩ fun a S CL=>h_pick S CL hw le (subR rfl) (b:=true) (hc_of rfl c6) rfl rfl rfl trivial fun a S CL=>h_assign S CL hw le (subR rfl) rfl rfl rfl trivial fun a S CL=>?_
       refine h_done ?_; clear CL hw le
       refine x_thenN (wp_ret ?_)
       obtain rfl:=Option.some.inj h17
       exact b_ret1 (d:=(.b (t11.1==t1.t2))) S rfl rfl fun ok=>S.retX (Hx:=[]) hb _ _ (ch11:W7) (.c0 (.c0 (.c0 (.c0 (.c0 (.c0 (.c0 (.c0 .n)))))))) ok
      ·refine h_sk4 S CL rfl (ne_bool c6) fun a S CL=>h_skipRt S rfl rfl rfl (ne_bool c6) rfl fun a S=>CL.bk hw S (.c8 (.c8 (.c8 (.c8 .n)))) le fun hw=>?_
       replace CL:=CL.add (t:=74) (d:= .u) S rfl rfl
       refine h_sk1 S CL rfl (ne_bool c6) fun a S CL=>h_pick S CL hw le (subR rfl) (b:=false) (hc_of rfl c6) rfl rfl rfl trivial fun a S CL=>h_assign S CL hw le (subR rfl) rfl rfl rfl trivial fun a S CL=>?_
       refine h_done ?_; clear CL hw le
       refine x_thenN (wp_ret ?_)
       obtain rfl:=Option.some.inj h16
       exact b_ret1 (d:=(.b false)) S rfl rfl fun ok=>S.retX (Hx:=[]) hb _ _ (ch9:W7) (.c0 (.c0 (.c0 (.c0 (.c0 (.c0 (.c0 (.c0 .n)))))))) ok
     ·refine h_sk4 S CL rfl (ne_bool c5) fun a S CL=>h_sk2 S CL rfl (ne_bool c5) fun a S CL=>h_skipRt S rfl rfl rfl (ne_bool c5) rfl fun a S=>CL.bk hw S (.c8 (.c8 (.c8 (.c8 .n)))) le fun hw=>?_
      replace CL:=CL.add (t:=64) (d:= .u) S rfl rfl
      refine h_skipRt S rfl rfl rfl (ne_bool c5) rfl fun a S=>CL.bk hw S (.c8 (.c8 (.c8 (.c8 .n)))) le fun hw=>?_
      replace CL:=CL.add (t:=68) (d:= .u) S rfl rfl
      refine h_sk1 S CL rfl (ne_bool c5) fun a S CL=>h_pick S CL hw le (subR rfl) (b:=false) (hc_of rfl c5) rfl rfl rfl trivial fun a S CL=>h_mv1 S CL hw le rfl trivial fun a S CL=>h_skip S CL rfl rfl rfl (ne_bool rfl) rfl fun a S CL=>h_skip S CL rfl rfl rfl (ne_bool rfl) rfl fun a S CL=>h_skip S CL rfl rfl rfl (ne_bool rfl) rfl fun a S CL=>h_skip S CL rfl rfl rfl (ne_bool rfl) rfl fun a S CL=>h_skipRt S rfl rfl rfl (ne_bool rfl) rfl fun a S=>CL.bk hw S (.c8 (.c8 (.c8 (.c8 .n)))) le fun hw=>?_
      replace CL:=CL.add (t:=74) (d:= .u) S rfl rfl
      refine h_skip S CL rfl rfl rfl (ne_bool rfl) rfl fun a S CL=>h_pick S CL hw le (subR rfl) (b:=false) (hc_of rfl rfl) rfl rfl rfl trivial fun a S CL=>h_assign S CL hw le (subR rfl) rfl rfl rfl trivial fun a S CL=>?_
      refine h_done ?_; clear CL hw le
      refine x_thenN (wp_ret ?_)
      obtain rfl:=Option.some.inj h13
      exact b_ret1 (d:=(.b false)) S rfl rfl fun ok=>S.retX (Hx:=[]) hb _ _ (ch7:W7) (.c0 (.c0 (.c0 (.c0 (.c0 (.c0 (.c0 (.c0 .n)))))))) ok
    ·refine h_sk4 S CL rfl (ne_bool c4) fun a S CL=>h_sk2 S CL rfl (ne_bool c4) fun a S CL=>h_skipRt S rfl rfl rfl (ne_bool c4) rfl fun a S=>CL.bk hw S (.c8 (.c8 (.c8 (.c8 .n)))) le fun hw=>?_
     replace CL:=CL.add (t:=53) (d:= .u) S rfl rfl
     refine h_skipRt S rfl rfl rfl (ne_bool c4) rfl fun a S=>CL.bk hw S (.c8 (.c8 (.c8 (.c8 .n)))) le fun hw=>?_
     replace CL:=CL.add (t:=57) (d:= .u) S rfl rfl
     refine h_sk1 S CL rfl (ne_bool c4) fun a S CL=>h_pick S CL hw le (subR rfl) (b:=false) (hc_of rfl c4) rfl rfl rfl trivial fun a S CL=>h_mv1 S CL hw le rfl trivial fun a S CL=>h_skip S CL rfl rfl rfl (ne_bool rfl) rfl fun a S CL=>h_skip S CL rfl rfl rfl (ne_bool rfl) rfl fun a S CL=>h_skip S CL rfl rfl rfl (ne_bool rfl) rfl fun a S CL=>h_skip S CL rfl rfl rfl (ne_bool rfl) rfl fun a S CL=>h_skip S CL rfl rfl rfl (ne_bool rfl) rfl fun a S CL=>h_skip S CL rfl rfl rfl (ne_bool rfl) rfl fun a S CL=>h_skipRt S rfl rfl rfl (ne_bool rfl) rfl fun a S=>CL.bk hw S (.c8 (.c8 (.c8 (.c8 .n)))) le fun hw=>?_
     replace CL:=CL.add (t:=64) (d:= .u) S rfl rfl
     refine h_skipRt S rfl rfl rfl (ne_bool rfl) rfl fun a S=>CL.bk hw S (.c8 (.c8 (.c8 (.c8 .n)))) le fun hw=>?_
     replace CL:=CL.add (t:=68) (d:= .u) S rfl rfl
     refine h_skip S CL rfl rfl rfl (ne_bool rfl) rfl fun a S CL=>h_pick S CL hw le (subR rfl) (b:=false) (hc_of rfl rfl) rfl rfl rfl trivial fun a S CL=>h_mv1 S CL hw le rfl trivial fun a S CL=>h_skip S CL rfl rfl rfl (ne_bool rfl) rfl fun a S CL=>h_skip S CL rfl rfl rfl (ne_bool rfl) rfl fun a S CL=>h_skip S CL rfl rfl rfl (ne_bool rfl) rfl fun a S CL=>h_skip S CL rfl rfl rfl (ne_bool rfl) rfl fun a S CL=>h_skipRt S rfl rfl rfl (ne_bool rfl) rfl fun a S=>CL.bk hw S (.c8 (.c8 (.c8 (.c8 .n)))) le fun hw=>?_
     replace CL:=CL.add (t:=74) (d:= .u) S rfl rfl
     refine h_skip S CL rfl rfl rfl (ne_bool rfl) rfl fun a S CL=>h_pick S CL hw le (subR rfl) (b:=false) (hc_of rfl rfl) rfl rfl rfl trivial fun a S CL=>h_assign S CL hw le (subR rfl) rfl rfl rfl trivial fun a S CL=>?_
     refine h_done ?_; clear CL hw le
     refine x_thenN (wp_ret ?_)
     obtain rfl:=Option.some.inj h10
     exact b_ret1 (d:=(.b false)) S rfl rfl fun ok=>S.retX (Hx:=[]) hb _ _ (ch6.t3:W7) (.c0 (.c0 (.c0 (.c0 (.c0 (.c0 (.c0 (.c0 .n)))))))) ok
   ·refine h_sk4 S CL rfl (ne_bool c3) fun a S CL=>h_sk2 S CL rfl (ne_bool c3) fun a S CL=>h_skipRt S rfl rfl rfl (ne_bool c3) rfl fun a S=>CL.bk hw S (.c8 (.c8 (.c8 (.c8 .n)))) le fun hw=>h_skipRt S rfl rfl rfl (ne_bool c3) rfl fun a S=>CL.bk hw S (.c8 (.c8 (.c8 (.c8 .n)))) le fun hw=>?_
    replace CL:=CL.add (t:=42) (d:= .u) S rfl rfl
    refine h_sk1 S CL rfl (ne_bool c3) fun a S CL=>h_pick S CL hw le (subR rfl) (b:=false) (hc_of rfl c3) rfl rfl rfl trivial fun a S CL=>h_mv1 S CL hw le rfl trivial fun a S CL=>h_skip S CL rfl rfl rfl (ne_bool rfl) rfl fun a S CL=>h_skip S CL rfl rfl rfl (ne_bool rfl) rfl fun a S CL=>h_skip S CL rfl rfl rfl (ne_bool rfl) rfl fun a S CL=>h_skip S CL rfl rfl rfl (ne_bool rfl) rfl fun a S CL=>h_skip S CL rfl rfl rfl (ne_bool rfl) rfl fun a S CL=>h_skip S CL rfl rfl rfl (ne_bool rfl) rfl fun a S CL=>h_skipRt S rfl rfl rfl (ne_bool rfl) rfl fun a S=>CL.bk hw S (.c8 (.c8 (.c8 (.c8 .n)))) le fun hw=>?_
    replace CL:=CL.add (t:=53) (d:= .u) S rfl rfl
    refine h_skipRt S rfl rfl rfl (ne_bool rfl) rfl fun a S=>CL.bk hw S (.c8 (.c8 (.c8 (.c8 .n)))) le fun hw=>?_
    replace CL:=CL.add (t:=57) (d:= .u) S rfl rfl
    refine h_skip S CL rfl rfl rfl (ne_bool rfl) rfl fun a S CL=>h_pick S CL hw le (subR rfl) (b:=false) (hc_of rfl rfl) rfl rfl rfl trivial fun a S CL=>h_mv1 S CL hw le rfl trivial fun a S CL=>h_skip S CL rfl rfl rfl (ne_bool rfl) rfl fun a S CL=>h_skip S CL rfl rfl rfl (ne_bool rfl) rfl fun a S CL=>h_skip S CL rfl rfl rfl (ne_bool rfl) rfl fun a S CL=>h_skip S CL rfl rfl rfl (ne_bool rfl) rfl fun a S CL=>h_skip S CL rfl rfl rfl (ne_bool rfl) rfl fun a S CL=>h_skip S CL rfl rfl rfl (ne_bool rfl) rfl fun a S CL=>h_skipRt S rfl rfl rfl (ne_bool rfl) rfl fun a S=>CL.bk hw S (.c8 (.c8 (.c8 (.c8 .n)))) le fun hw=>?_
    replace CL:=CL.add (t:=64) (d:= .u) S rfl rfl
    refine h_skipRt S rfl rfl rfl (ne_bool rfl) rfl fun a S=>CL.bk hw S (.c8 (.c8 (.c8 (.c8 .n)))) le fun hw=>?_
    replace CL:=CL.add (t:=68) (d:= .u) S rfl rfl
    refine h_skip S CL rfl rfl rfl (ne_bool rfl) rfl fun a S CL=>h_pick S CL hw le (subR rfl) (b:=false) (hc_of rfl rfl) rfl rfl rfl trivial fun a S CL=>h_mv1 S CL hw le rfl trivial fun a S CL=>h_skip S CL rfl rfl rfl (ne_bool rfl) rfl fun a S CL=>h_skip S CL rfl rfl rfl (ne_bool rfl) rfl fun a S CL=>h_skip S CL rfl rfl rfl (ne_bool rfl) rfl fun a S CL=>h_skip S CL rfl rfl rfl (ne_bool rfl) rfl fun a S CL=>h_skipRt S rfl rfl rfl (ne_bool rfl) rfl fun a S=>CL.bk hw S (.c8 (.c8 (.c8 (.c8 .n)))) le fun hw=>?_
    replace CL:=CL.add (t:=74) (d:= .u) S rfl rfl
    refine h_skip S CL rfl rfl rfl (ne_bool rfl) rfl fun a S CL=>h_pick S CL hw le (subR rfl) (b:=false) (hc_of rfl rfl) rfl rfl rfl trivial fun a S CL=>h_assign S CL hw le (subR rfl) rfl rfl rfl trivial fun a S CL=>?_
    refine h_done ?_; clear CL hw le
    refine x_thenN (wp_ret ?_)
    obtain rfl:=Option.some.inj h8
    exact b_ret1 (d:=(.b false)) S rfl rfl fun ok=>S.retX (Hx:=[]) hb _ _ (ch5:W7) (.c0 (.c0 (.c0 (.c0 (.c0 (.c0 (.c0 (.c0 .n)))))))) ok
  ·refine h_sk4 S CL rfl (ne_bool c2) fun a S CL=>h_sk1 S CL rfl (ne_bool c2) fun a S CL=>h_skipRt S rfl rfl rfl (ne_bool c2) rfl fun a S=>CL.bk hw S (.c8 (.c8 (.c8 (.c8 .n)))) le fun hw=>?_
   replace CL:=CL.add (t:=32) (d:= .u) S rfl rfl
   refine h_sk1 S CL rfl (ne_bool c2) fun a S CL=>h_pick S CL hw le (subR rfl) (b:=false) (hc_of rfl c2) rfl rfl rfl trivial fun a S CL=>h_mv1 S CL hw le rfl trivial fun a S CL=>h_skip S CL rfl rfl rfl (ne_bool rfl) rfl fun a S CL=>h_skip S CL rfl rfl rfl (ne_bool rfl) rfl fun a S CL=>h_skip S CL rfl rfl rfl (ne_bool rfl) rfl fun a S CL=>h_skip S CL rfl rfl rfl (ne_bool rfl) rfl fun a S CL=>h_skip S CL rfl rfl rfl (ne_bool rfl) rfl fun a S CL=>h_skip S CL rfl rfl rfl (ne_bool rfl) rfl fun a S CL=>h_skipRt S rfl rfl rfl (ne_bool rfl) rfl fun a S=>CL.bk hw S (.c8 (.c8 (.c8 (.c8 .n)))) le fun hw=>h_skipRt S rfl rfl rfl (ne_bool rfl) rfl fun a S=>CL.bk hw S (.c8 (.c8 (.c8 (.c8 .n)))) le fun hw=>?_
   replace CL:=CL.add (t:=42) (d:= .u) S rfl rfl
   refine h_skip S CL rfl rfl rfl (ne_bool rfl) rfl fun a S CL=>h_pick S CL hw le (subR rfl) (b:=false) (hc_of rfl rfl) rfl rfl rfl trivial fun a S CL=>h_mv1 S CL hw le rfl trivial fun a S CL=>h_skip S CL rfl rfl rfl (ne_bool rfl) rfl fun a S CL=>h_skip S CL rfl rfl rfl (ne_bool rfl) rfl fun a S CL=>h_skip S CL rfl rfl rfl (ne_bool rfl) rfl fun a S CL=>h_skip S CL rfl rfl rfl (ne_bool rfl) rfl fun a S CL=>h_skip S CL rfl rfl rfl (ne_bool rfl) rfl fun a S CL=>h_skip S CL rfl rfl rfl (ne_bool rfl) rfl fun a S CL=>h_skipRt S rfl rfl rfl (ne_bool rfl) rfl fun a S=>CL.bk hw S (.c8 (.c8 (.c8 (.c8 .n)))) le fun hw=>?_
   replace CL:=CL.add (t:=53) (d:= .u) S rfl rfl
   refine h_skipRt S rfl rfl rfl (ne_bool rfl) rfl fun a S=>CL.bk hw S (.c8 (.c8 (.c8 (.c8 .n)))) le fun hw=>?_
   replace CL:=CL.add (t:=57) (d:= .u) S rfl rfl
   refine h_skip S CL rfl rfl rfl (ne_bool rfl) rfl fun a S CL=>h_pick S CL hw le (subR rfl) (b:=false) (hc_of rfl rfl) rfl rfl rfl trivial fun a S CL=>h_mv1 S CL hw le rfl trivial fun a S CL=>h_skip S CL rfl rfl rfl (ne_bool rfl) rfl fun a S CL=>h_skip S CL rfl rfl rfl (ne_bool rfl) rfl fun a S CL=>h_skip S CL rfl rfl rfl (ne_bool rfl) rfl fun a S CL=>h_skip S CL rfl rfl rfl (ne_bool rfl) rfl fun a S CL=>h_skip S CL rfl rfl rfl (ne_bool rfl) rfl fun a S CL=>h_skip S CL rfl rfl rfl (ne_bool rfl) rfl fun a S CL=>h_skipRt S rfl rfl rfl (ne_bool rfl) rfl fun a S=>CL.bk hw S (.c8 (.c8 (.c8 (.c8 .n)))) le fun hw=>?_
   replace CL:=CL.add (t:=64) (d:= .u) S rfl rfl
   refine h_skipRt S rfl rfl rfl (ne_bool rfl) rfl fun a S=>CL.bk hw S (.c8 (.c8 (.c8 (.c8 .n)))) le fun hw=>?_
   replace CL:=CL.add (t:=68) (d:= .u) S rfl rfl
   refine h_skip S CL rfl rfl rfl (ne_bool rfl) rfl fun a S CL=>h_pick S CL hw le (subR rfl) (b:=false) (hc_of rfl rfl) rfl rfl rfl trivial fun a S CL=>h_mv1 S CL hw le rfl trivial fun a S CL=>h_skip S CL rfl rfl rfl (ne_bool rfl) rfl fun a S CL=>h_skip S CL rfl rfl rfl (ne_bool rfl) rfl fun a S CL=>h_skip S CL rfl rfl rfl (ne_bool rfl) rfl fun a S CL=>h_skip S CL rfl rfl rfl (ne_bool rfl) rfl fun a S CL=>h_skipRt S rfl rfl rfl (ne_bool rfl) rfl fun a S=>CL.bk hw S (.c8 (.c8 (.c8 (.c8 .n)))) le fun hw=>?_
   replace CL:=CL.add (t:=74) (d:= .u) S rfl rfl
   refine h_skip S CL rfl rfl rfl (ne_bool rfl) rfl fun a S CL=>h_pick S CL hw le (subR rfl) (b:=false) (hc_of rfl rfl) rfl rfl rfl trivial fun a S CL=>h_assign S CL hw le (subR rfl) rfl rfl rfl trivial fun a S CL=>?_
   refine h_done ?_; clear CL hw le
   refine x_thenN (wp_ret ?_)
   obtain rfl:=Option.some.inj h6
   exact b_ret1 (d:=(.b false)) S rfl rfl fun ok=>S.retX (Hx:=[]) hb _ _ (ch4:W7) (.c0 (.c0 (.c0 (.c0 (.c0 (.c0 (.c0 (.c0 .n)))))))) ok
 ·refine h_sk4 S CL rfl (ne_bool c1) fun a S CL=>h_sk1 S CL rfl (ne_bool c1) fun a S CL=>h_skipRt S rfl rfl rfl (ne_bool c1) rfl fun a S=>CL.bk hw S (.c8 (.c8 (.c8 (.c8 .n)))) le fun hw=>?_
  replace CL:=CL.add (t:=23) (d:= .u) S rfl rfl
  refine h_sk1 S CL rfl (ne_bool c1) fun a S CL=>h_pick S CL hw le (subR rfl) (b:=false) (hc_of rfl c1) rfl rfl rfl trivial fun a S CL=>h_mv1 S CL hw le rfl trivial fun a S CL=>h_skip S CL rfl rfl rfl (ne_bool rfl) rfl fun a S CL=>h_skip S CL rfl rfl rfl (ne_bool rfl) rfl fun a S CL=>h_skip S CL rfl rfl rfl (ne_bool rfl) rfl fun a S CL=>h_skip S CL rfl rfl rfl (ne_bool rfl) rfl fun a S CL=>h_skip S CL rfl rfl rfl (ne_bool rfl) rfl fun a S CL=>h_skipRt S rfl rfl rfl (ne_bool rfl) rfl fun a S=>CL.bk hw S (.c8 (.c8 (.c8 (.c8 .n)))) le fun hw=>?_
  replace CL:=CL.add (t:=32) (d:= .u) S rfl rfl
  refine h_skip S CL rfl rfl rfl (ne_bool rfl) rfl fun a S CL=>h_pick S CL hw le (subR rfl) (b:=false) (hc_of rfl rfl) rfl rfl rfl trivial fun a S CL=>h_mv1 S CL hw le rfl trivial fun a S CL=>h_skip S CL rfl rfl rfl (ne_bool rfl) rfl fun a S CL=>h_skip S CL rfl rfl rfl (ne_bool rfl) rfl fun a S CL=>h_skip S CL rfl rfl rfl (ne_bool rfl) rfl fun a S CL=>h_skip S CL rfl rfl rfl (ne_bool rfl) rfl fun a S CL=>h_skip S CL rfl rfl rfl (ne_bool rfl) rfl fun a S CL=>h_skip S CL rfl rfl rfl (ne_bool rfl) rfl fun a S CL=>h_skipRt S rfl rfl rfl (ne_bool rfl) rfl fun a S=>CL.bk hw S (.c8 (.c8 (.c8 (.c8 .n)))) le fun hw=>h_skipRt S rfl rfl rfl (ne_bool rfl) rfl fun a S=>CL.bk hw S (.c8 (.c8 (.c8 (.c8 .n)))) le fun hw=>?_
  replace CL:=CL.add (t:=42) (d:= .u) S rfl rfl
  refine h_skip S CL rfl rfl rfl (ne_bool rfl) rfl fun a S CL=>h_pick S CL hw le (subR rfl) (b:=false) (hc_of rfl rfl) rfl rfl rfl trivial fun a S CL=>h_mv1 S CL hw le rfl trivial fun a S CL=>h_skip S CL rfl rfl rfl (ne_bool rfl) rfl fun a S CL=>h_skip S CL rfl rfl rfl (ne_bool rfl) rfl fun a S CL=>h_skip S CL rfl rfl rfl (ne_bool rfl) rfl fun a S CL=>h_skip S CL rfl rfl rfl (ne_bool rfl) rfl fun a S CL=>h_skip S CL rfl rfl rfl (ne_bool rfl) rfl fun a S CL=>h_skip S CL rfl rfl rfl (ne_bool rfl) rfl fun a S CL=>h_skipRt S rfl rfl rfl (ne_bool rfl) rfl fun a S=>CL.bk hw S (.c8 (.c8 (.c8 (.c8 .n)))) le fun hw=>?_
  replace CL:=CL.add (t:=53) (d:= .u) S rfl rfl
  refine h_skipRt S rfl rfl rfl (ne_bool rfl) rfl fun a S=>CL.bk hw S (.c8 (.c8 (.c8 (.c8 .n)))) le fun hw=>?_
  replace CL:=CL.add (t:=57) (d:= .u) S rfl rfl
  refine h_skip S CL rfl rfl rfl (ne_bool rfl) rfl fun a S CL=>h_pick S CL hw le (subR rfl) (b:=false) (hc_of rfl rfl) rfl rfl rfl trivial fun a S CL=>h_mv1 S CL hw le rfl trivial fun a S CL=>h_skip S CL rfl rfl rfl (ne_bool rfl) rfl fun a S CL=>h_skip S CL rfl rfl rfl (ne_bool rfl) rfl fun a S CL=>h_skip S CL rfl rfl rfl (ne_bool rfl) rfl fun a S CL=>h_skip S CL rfl rfl rfl (ne_bool rfl) rfl fun a S CL=>h_skip S CL rfl rfl rfl (ne_bool rfl) rfl fun a S CL=>h_skip S CL rfl rfl rfl (ne_bool rfl) rfl fun a S CL=>h_skipRt S rfl rfl rfl (ne_bool rfl) rfl fun a S=>CL.bk hw S (.c8 (.c8 (.c8 (.c8 .n)))) le fun hw=>?_
  replace CL:=CL.add (t:=64) (d:= .u) S rfl rfl
  refine h_skipRt S rfl rfl rfl (ne_bool rfl) rfl fun a S=>CL.bk hw S (.c8 (.c8 (.c8 (.c8 .n)))) le fun hw=>?_
  replace CL:=CL.add (t:=68) (d:= .u) S rfl rfl
  refine h_skip S CL rfl rfl rfl (ne_bool rfl) rfl fun a S CL=>h_pick S CL hw le (subR rfl) (b:=false) (hc_of rfl rfl) rfl rfl rfl trivial fun a S CL=>h_mv1 S CL hw le rfl trivial fun a S CL=>h_skip S CL rfl rfl rfl (ne_bool rfl) rfl fun a S CL=>h_skip S CL rfl rfl rfl (ne_bool rfl) rfl fun a S CL=>h_skip S CL rfl rfl rfl (ne_bool rfl) rfl fun a S CL=>h_skip S CL rfl rfl rfl (ne_bool rfl) rfl fun a S CL=>h_skipRt S rfl rfl rfl (ne_bool rfl) rfl fun a S=>CL.bk hw S (.c8 (.c8 (.c8 (.c8 .n)))) le fun hw=>?_
  replace CL:=CL.add (t:=74) (d:= .u) S rfl rfl
  refine h_skip S CL rfl rfl rfl (ne_bool rfl) rfl fun a S CL=>h_pick S CL hw le (subR rfl) (b:=false) (hc_of rfl rfl) rfl rfl rfl trivial fun a S CL=>h_assign S CL hw le (subR rfl) rfl rfl rfl trivial fun a S CL=>?_
  refine h_done ?_; clear CL hw le
  refine x_thenN (wp_ret ?_)
  obtain rfl:=Option.some.inj h4
  exact b_ret1 (d:=(.b false)) S rfl rfl fun ok=>S.retX (Hx:=[]) hb _ _ (ch2:W7) (.c0 (.c0 (.c0 (.c0 (.c0 (.c0 (.c0 (.c0 .n)))))))) ok
abbrev ff2_.Ty:Type:=W2→Option Int
def ff2_.Ctr (s:ff2_.Ty):Prop:=∀ {x1:W2} {ch_0:W3} {r:Int} (h0:s x1=some r) {mi:Mem} {w0:World},CtrB Tryz.prog 23 [(.v (.pointer (some ⟨ch_0.1,0,none⟩)))] (MS1 x1 ch_0) (fun (ch:Unit)=>((.i r):D)) (fun (ch:Unit)=>(MS1 x1 ch_0)) mi w0
def ff2_.f (x1:W2):Option Int:=some x1.2.2.1
theorem ff2_.ok:ff2_.Ctr (ff2_.f):=by
 intro x1 ch_0 r h0 mi w0 ok hm
 delta ff2_.f at h0
 refine c_enterZ (n:=9) ok hm func23 rfl rfl rfl fun b0 hb a S=>c_region (s_as1 S rfl fun a S=>c_end (wp_seq (c_region (s_mv1 S rfl fun a S=>s_eqp S (b:=false) rfl rfl underlying26 rfl rfl fun a S=>c_end (c_condF S rfl rfl (wp_skip (x_thenN (c_region (s_mv1 S rfl fun a S=>s_nilchk S rfl rfl fun a S=>s_fieldAddr S rfl I79_2 T2 (by decide) rfl rfl fun a S=>s_load1 S rfl .h T2 (v:=(.int .i64 x1.e3)) rfl rfl fun a S=>s_as1 S rfl fun a S=>c_end (wp_ret ?_))))))))))
 obtain rfl:=Option.some.inj h0
 exact b_ret1 (d:=(.i x1.e3)) S rfl rfl fun ok=>S.retX (Hx:=[]) hb _ _ (():Unit) (.c0 (.c0 (.c0 (.c0 (.c0 (.c0 (.c0 (.c0 .n)))))))) ok
abbrev fh5_.Ty:Type:=W2→Option (List L100)
def fh5_.Ctr (s:fh5_.Ty):Prop:=∀ {x1:W2} {ch_0:W3} {r:List L100} (h0:s x1=some r) {mi:Mem} {w0:World},CtrB Tryz.prog 24 [(.v (.pointer (some ⟨ch_0.1,0,none⟩)))] (MS1 x1 ch_0) (fun (ch:(Option Addr)×Nat×Nat)=>((.s ch.1 ch.2.1 ch.t2):D)) (fun (ch:(Option Addr)×Nat×Nat)=>([Res.row Y100 100 ch.1 ch.2.1 ch.t2 r]++MS1 x1 ch_0)) mi w0
def fh5_.j1 (y1:List L100):Option (List L100):=some y1
def fh5_.b1 (x1:W2)(rec1:(List L100)→Int→Option (List L100))(y4:List L100)(y5:Int):Option (List L100):=if (decide (y5<((x1.2.2.2.1).length:Int)))=true then (if (0:Int)≤y5∧y5<((x1.2.2.2.1).length:Int) then ((fj8_.f (gt x1.2.2.2.1 y5)).bind fun t1=>(if ((y4).length+([t1]).length)*72≤140737488355328 then (rec1 (y4++[t1]) (wr .i64 (y5+1))) else none)) else none) else (fh5_.j1 y4)
def fh5_.l1 (x1:W2):Nat→(List L100)→Int→Option (List L100)
  | 0,_,_=>none
  | q+1,y4,y5=>fh5_.b1 x1 (fh5_.l1 x1 q) y4 y5
def fh5_.f (k:Nat)(x1:W2):Option (List L100):=fh5_.l1 x1 k ([]:List L100) 0
theorem fh5_.ok (k:Nat):fh5_.Ctr (fh5_.f k):=by
 intro x1 ch_0 r h0 mi w0 ok hm
 delta fh5_.f at h0
 refine c_enterZ (n:=25) ok hm func24 rfl rfl rfl fun b0 hb a S=>c_region (s_as1 S rfl fun a S=>c_end (c_region (s_as1 S rfl fun a S=>c_end (wp_seq (c_region (s_mv1 S rfl fun a S=>s_eqp S (b:=false) rfl rfl underlying26 rfl rfl fun a S=>c_end (c_condF S rfl rfl (wp_skip (x_thenN (wp_seq_k fun K1 hK1=>?_))))))))))
 have j1:∀ m A1 nn1 cp1 y1 a w,St 25 m b0 [(3,(.s A1 nn1 cp1))] ([Res.row Y100 100 A1 nn1 cp1 y1]++MS1 x1 ch_0) a w→fh5_.j1 y1=some r→K1 a w:=by
  intro m A1 nn1 cp1 y1 a w S h0
  delta fh5_.j1 at h0
  refine hK1 a w (c_region (s_mv1 S rfl fun a S=>s_as1 S rfl fun a S=>c_end (wp_ret ?_)))
  obtain rfl:=Option.some.inj h0
  exact b_ret1 (d:=(.s A1 nn1 cp1)) S rfl rfl fun ok=>S.retX (Hx:=[]) hb _ _ ((A1,nn1,cp1):(Option Addr)×Nat×Nat) (.c0 (.c0 (.c0 (.c0 (.c0 (.c0 (.c0 (.c0 (.c0 .n))))))))) ok
 refine c_region (s_mv1 S rfl fun a S=>s_nilchk S rfl rfl fun a S=>s_fieldAddr S rfl I79_3 T34 (by decide) rfl rfl fun a S=>s_load1 S rfl .h T34 (v:=(.slice ch_0.e8 ch_0.e9 ch_0.e10)) rfl rfl fun a S=>s_lenO S rfl .h5 underlying34 rfl fun a S=>s_mv1 S rfl fun a S=>c_end (wp_block ?_))
 replace S:=S.nilrow Y100 100
 refine c_loop (fun q1 a w=>∃ m A2 nn3 cp5 y4 y5,St 25 m b0 [(3,(.s A2 nn3 cp5)),(14,(.i y5)),(13,(.i ((x1.e4).length:Int))),(12,(.s ch_0.e8 ch_0.e9 ch_0.e10))] ([Res.row Y100 100 A2 nn3 cp5 y4]++MS1 x1 ch_0) a w∧fh5_.l1 x1 q1 y4 y5=some r) ?_ ?_ (k:=k) ⟨_,none,0,0,([]:List L100),0,(S.sb rfl (.c0 (.c0 (.c0 (.c0 (.c0 (.c0 (.c0 (.c0 (.c0 .n)))))))))),h0⟩
 ·rintro a w ⟨m,A2,nn3,cp5,y4,y5,S,h0⟩
  exact (nomatch (show (none:Option (List L100))=some r from h0))
 ·clear S h0
  rintro q1 a w ⟨m,A2,nn3,cp5,y4,y5,S,h0⟩
  replace h0:fh5_.b1 x1 (fh5_.l1 x1 q1) y4 y5=some r:=h0
  delta fh5_.b1 at h0
  refine c_region (s_bi S rfl fun a S=>c_end (wp_seq ?_))
  rcases ite_of h0 with ⟨c1,h1⟩ | ⟨c1,h1⟩
  ·refine c_condT S rfl c1 (wp_skip (x_thenN (wp_seq (wp_block (c_region ?_)))))
   obtain ⟨c2,h2⟩:=chk_of h1; clear h1
   refine s_iaddrO S (ty':=Y100) rfl .h6 rfl underlying34 T100 c2.1 c2.2 rfl fun g1 a hA1 S=>s_ldRW S (i:=y5) rfl hA1 .h6 T100 c2.1 c2.2 rfl rfl fun ch1 a S=>s_alloc S Z100 rfl ⟨rfl,rfl,rfl,trivial⟩ rfl fun g2 a w S=>s_store S rfl rfl rfl (s':=(Y100.segs (gt x1.e4 y5) ch1)) .h T100 rfl rfl fun w S=>c_end (c_region' (s_mv1 S rfl fun a S=>s_loada S rfl .h T100 (s':=(Y100.segs (gt x1.e4 y5) ch1)) rfl rfl fun a S=>bindX h2 fun t1 et1 h3=>s_callK S (fj8_.ok et1) N58 rfl .pre (fun _=> .c2) rfl fun ch2 m le1 a w S=>?_))
   replace S:=S.rowfro .h
   obtain ⟨m,le1,S,hro⟩:=S
   replace S:=S.slotF 20 1 rfl rfl hro
   replace S:=S.rowfro .h
   obtain ⟨m,le1,S,hro⟩:=S
   replace S:=S.slotF 20 2 rfl rfl hro
   refine s_bldSl S (ty':=Y100) (ds:=[(0,(.agg (Y100.segs t1 ((),(ch2.1,ch2.e3),(ch2.e4,ch2.t5)))))]) (z:=(z20,([]:List (List Int)),([]:List Int))) (c0:=((),(none,0),(none,0))) (ys:=[t1]) (cs:=[((),(ch2.1,ch2.e3),(ch2.e4,ch2.t5))]) rfl underlying34 J100 Z100 rfl ⟨rfl,⟨Nat.le_refl _,Nat.zero_le _,RdS.nil _ _ _,RdS.mono _ _ _⟩,⟨Nat.le_refl _,Nat.zero_le _,RdS.nil _ _ _,RdS.mono _ _ _⟩,trivial⟩ rfl rfl rfl rfl rfl rfl fun g3 a w S=>?_
   obtain ⟨c3,h4⟩:=chk_of h3; clear h3
   refine s_app S (k2:=1) (ys:=[t1]) rfl (fun _ _=> .h2) rfl rfl (S.holds _ (Pull.mem .h).1).1 (Res.row.src (S.holds _ (Pull.mem .h).1)) underlying34 J100 c3 rfl fun A3 cp6 a w S=>s_as1 S rfl fun a S=>c_end' (x_blockN (x_thenN (c_region' (s_bi S rfl fun a S=>s_mv1 S rfl fun a S=>c_end' (x_thenN ?_)))))
   exact ⟨_,A3,(nn3+1),cp6,(y4++[t1]),(wr .i64 (y5+1)),(S.sb rfl (.c2 (.c2 (.c2 (.c2 (.c2 (.c2 (.c2 (.c2 (.c2 .n)))))))))),h4⟩
  ·refine c_condF S rfl c1 (wp_exit (x_thenX (x_thenX (x_blockX (x_thenN ?_)))))
   exact j1 _ A2 nn3 cp5 y4 a w (S.sub ⟨rfl,trivial⟩ (.c0 (.c0 (.c0 (.c0 (.c0 (.c0 (.c0 (.c0 (.c0 .n)))))))))) h1
abbrev fd9_.Ty:Type:=(List L100)→(List L100)→Option Bool
def fd9_.Ctr (s:fd9_.Ty):Prop:=∀ {x1:List L100} {x2:List L100} {ch_0_0:Option Addr} {ch_0_1:Nat} {ch_1_0:Option Addr} {ch_1_1:Nat} {r:Bool} (h0:s x1 x2=some r) {mi:Mem} {w0:World},CtrB Tryz.prog 53 [(.q Y100 ch_0_0 ch_0_1 x1),(.q Y100 ch_1_0 ch_1_1 x2)] [] (fun (ch:Unit)=>((.b r):D)) (fun (ch:Unit)=>[]) mi w0
def fd9_.j1:Option Bool:=some true
def fd9_.j2 (y1:Int)(rec1:Int→Option Bool):Option Bool:=rec1 (wr .i64 (y1+1))
def fd9_.b2 (x1:List L100)(x2:List L100)(y1:Int)(rec1:Int→Option Bool)(rec2:Int→Option Bool)(y7:Int):Option Bool:=if (decide (y7<(((gt x1 y1).2.1).length:Int)))=true then (if (0:Int)≤y7∧y7<(((gt x1 y1).2.1).length:Int) then (if (0:Int)≤y1∧y1<((x2).length:Int) then (if (0:Int)≤y7∧y7<(((gt x2 y1).2.1).length:Int) then (if (!(decide (gt ((gt x1 y1).2.1) y7=gt ((gt x2 y1).2.1) y7)))=true then (some false) else (rec2 (wr .i64 (y7+1)))) else none) else none) else none) else (fd9_.j2 y1 rec1)
def fd9_.l2 (x1:List L100)(x2:List L100)(y1:Int)(rec1:Int→Option Bool):Nat→Int→Option Bool
  | 0,_=>none
  | q+1,y7=>fd9_.b2 x1 x2 y1 rec1 (fd9_.l2 x1 x2 y1 rec1 q) y7
def fd9_.j3 (k:Nat)(x1:List L100)(x2:List L100)(y1:Int)(rec1:Int→Option Bool)(y5:Bool):Option Bool:=if y5=true then (some false) else (if (0:Int)≤y1∧y1<((x1).length:Int) then (fd9_.l2 x1 x2 y1 rec1 k 0) else none)
def fd9_.b1 (k:Nat)(x1:List L100)(x2:List L100)(rec1:Int→Option Bool)(y1:Int):Option Bool:=if (decide (y1<((x1).length:Int)))=true then (if (0:Int)≤y1∧y1<((x1).length:Int) then (if (0:Int)≤y1∧y1<((x2).length:Int) then (if (!(decide ((gt x1 y1).1=(gt x2 y1).1)))=true then (fd9_.j3 k x1 x2 y1 rec1 true) else (if (!((bstr ((gt x1 y1).2.2)).toList==(bstr ((gt x2 y1).2.2)).toList))=true then (fd9_.j3 k x1 x2 y1 rec1 true) else (fd9_.j3 k x1 x2 y1 rec1 ((((gt x1 y1).2.1).length:Int) != (((gt x2 y1).2.1).length:Int))))) else none) else none) else fd9_.j1
def fd9_.l1 (k:Nat)(x1:List L100)(x2:List L100):Nat→Int→Option Bool
  | 0,_=>none
  | q+1,y1=>fd9_.b1 k x1 x2 (fd9_.l1 k x1 x2 q) y1
def fd9_.f (k:Nat)(x1:List L100)(x2:List L100):Option Bool:=if (((x1).length:Int) != ((x2).length:Int))=true then (some false) else (fd9_.l1 k x1 x2 k 0)
theorem fd9_.ok (k:Nat):fd9_.Ctr (fd9_.f k):=by
 intro x1 x2 ch_0_0 ch_0_1 ch_1_0 ch_1_1 r h0 mi w0 ok hm
 delta fd9_.f at h0
 refine c_enterZ (n:=86) ok hm func53 rfl rfl rfl fun b0 hb a S=>c_region (s_as1 S rfl fun a S=>c_end (wp_seq (c_region (s_mv1 S rfl fun a S=>s_lenS S rfl underlying34 rfl fun a S=>s_mv1 S rfl fun a S=>s_lenS S rfl underlying34 rfl fun a S=>s_bi S rfl fun a S=>c_end ?_))))
 rcases ite_of h0 with ⟨c1,h1⟩ | ⟨c1,h1⟩
 ·refine c_condT S rfl c1 (c_region (s_as1 S rfl fun a S=>c_end (wp_ret (x_thenR ?_))))
  obtain rfl:=Option.some.inj h1
  exact b_ret1 (d:=(.b false)) S rfl rfl (S.rt hb)
 ·refine c_condF S rfl c1 (wp_skip (x_thenN (wp_seq_k fun K1 hK1=>?_)))
  have j1:∀ m a w,St 86 m b0 [] [] a w→fd9_.j1=some r→K1 a w:=by
   intro m a w S h0
   delta fd9_.j1 at h0
   refine hK1 a w (c_region (s_as1 S rfl fun a S=>c_end (wp_ret ?_)))
   obtain rfl:=Option.some.inj h0
   exact b_ret1 (d:=(.b true)) S rfl rfl (S.rt hb)
  refine c_region (s_mv1 S rfl fun a S=>s_lenS S rfl underlying34 rfl fun a S=>s_mv1 S rfl fun a S=>c_end (wp_block ?_))
  refine c_loop (fun q1 a w=>∃ m y1,St 86 m b0 [(14,(.i y1)),(13,(.i ((x1).length:Int))),(0,(.q Y100 ch_0_0 ch_0_1 x1)),(1,(.q Y100 ch_1_0 ch_1_1 x2))] [] a w∧fd9_.l1 k x1 x2 q1 y1=some r) ?_ ?_ (k:=k) ⟨_,0,(S.sb rfl .nil),h1⟩
  ·rintro a w ⟨m,y1,S,h0⟩
   exact (nomatch (show (none:Option Bool)=some r from h0))
  ·clear S h1
   rintro q1 a w ⟨m,y1,S,h0⟩
   replace h0:fd9_.b1 k x1 x2 (fd9_.l1 k x1 x2 q1) y1=some r:=h0
   delta fd9_.b1 at h0
   refine c_region (s_bi S rfl fun a S=>c_end (wp_seq ?_))
   rcases ite_of h0 with ⟨c2,h1⟩ | ⟨c2,h1⟩
   ·refine c_condT S rfl c2 (wp_skip (x_thenN (wp_seq_k fun K2 hK2=>?_)))
    have j2:∀ m a w,St 86 m b0 [(14,(.i y1)),(13,(.i ((x1).length:Int))),(0,(.q Y100 ch_0_0 ch_0_1 x1)),(1,(.q Y100 ch_1_0 ch_1_1 x2))] [] a w→fd9_.j2 y1 (fd9_.l1 k x1 x2 q1)=some r→K2 a w:=by
     intro m a w S h0
     delta fd9_.j2 at h0
     refine hK2 a w (c_region' (s_bi S rfl fun a S=>s_mv1 S rfl fun a S=>c_end' (x_thenN ?_)))
     exact ⟨_,(wr .i64 (y1+1)),(S.sb rfl .nil),h0⟩
    refine wp_block (c_region (s_mv1 S rfl fun a S=>s_as1 S rfl fun a S=>c_end (wp_seq (wp_seq_k fun K3 hK3=>?_))))
    have j3:∀ m y5 a w,St 86 m b0 [(57,(.b y5)),(5,(.i y1)),(14,(.i y1)),(13,(.i ((x1).length:Int))),(0,(.q Y100 ch_0_0 ch_0_1 x1)),(1,(.q Y100 ch_1_0 ch_1_1 x2))] [] a w→fd9_.j3 k x1 x2 y1 (fd9_.l1 k x1 x2 q1) y5=some r→K3 a w:=by
     intro m y5 a w S h0
     delta fd9_.j3 at h0
     refine hK3 a w ?_
     rcases ite_of h0 with ⟨c3,h1⟩ | ⟨c3,h1⟩
     ·refine c_condT S rfl c3 (c_region (s_as1 S rfl fun a S=>c_end (wp_ret (x_thenR (x_blockR (x_thenR (x_thenR (x_blockR (x_thenR ?_)))))))))
      obtain rfl:=Option.some.inj h1
      exact b_ret1 (d:=(.b false)) S rfl rfl (S.rt hb)
     ·refine c_condF S rfl c3 (wp_skip (x_thenN (c_region (s_mv2 S rfl fun a S=>?_))))
      obtain ⟨c4,h2⟩:=chk_of h1; clear h1
      refine s_iaddrS S rfl rfl rfl underlying34 T100 c4.1 c4.2 rfl fun p1 a S=>s_faddrP S (tF:=(Ty.slice (Ty.arr .u64 4))) (y:=(gt x1 y1).2.1) rfl I100_1 T98 (by decide) (fun m h=>(at_fst (at_snd (at_0 h)))) rfl fun a S=>s_ldS S (fun c=>c) rfl T98 (fun _=>rfl) rfl fun A1 cp1 a S=>s_lenS S rfl underlying98 rfl fun a S=>s_mv1 S rfl fun a S=>c_end (wp_block ?_)
      refine c_loop (fun q2 a w=>∃ m y7,St 86 m b0 [(64,(.i y7)),(63,(.i (((gt x1 y1).2.1).length:Int))),(5,(.i y1)),(14,(.i y1)),(13,(.i ((x1).length:Int))),(0,(.q Y100 ch_0_0 ch_0_1 x1)),(1,(.q Y100 ch_1_0 ch_1_1 x2))] [] a w∧fd9_.l2 x1 x2 y1 (fd9_.l1 k x1 x2 q1) q2 y7=some r) ?_ ?_ (k:=k) ⟨_,0,(S.sb rfl .nil),h2⟩
      ·rintro a w ⟨m,y7,S,h0⟩
       exact (nomatch (show (none:Option Bool)=some r from h0))
      ·clear S h2
       rintro q2 a w ⟨m,y7,S,h0⟩
       replace h0:fd9_.b2 x1 x2 y1 (fd9_.l1 k x1 x2 q1) (fd9_.l2 x1 x2 y1 (fd9_.l1 k x1 x2 q1) q2) y7=some r:=h0
       delta fd9_.b2 at h0
       refine c_region (s_bi S rfl fun a S=>c_end (wp_seq ?_))
       rcases ite_of h0 with ⟨c5,h1⟩ | ⟨c5,h1⟩
       ·refine c_condT S rfl c5 (wp_skip (x_thenN (wp_seq (wp_block (c_region (s_mv1 S rfl fun a S=>s_as1 S rfl fun a S=>c_end ?_))))))
        refine wp_seq (c_hS S (.tk 0 17 .done) 17 .nil trivial [(6,(.i y7)),(5,(.i y1)),(0,(.q Y100 ch_0_0 ch_0_1 x1)),(1,(.q Y100 ch_1_0 ch_1_1 x2))] rfl (by kernel_rfl) ?_); clear S; intro w S CL hw le
        refine h_mv2 S CL hw le rfl trivial trivial fun a S CL=>h_iaddrS S CL hw le (subR rfl) rfl rfl rfl underlying34 T100 c4.1 c4.2 rfl rfl trivial fun p10 a S CL=>h_faddrP S CL hw le (subR rfl) (tF:=(Ty.slice (Ty.arr .u64 4))) (y:=(gt x1 y1).2.1) rfl I100_1 T98 (by decide) (fun m h=>(at_fst (at_snd (at_0 h)))) rfl rfl trivial fun a S CL=>h_ldS S CL hw le (subR rfl) (fun c=>c) rfl T98 (fun _=>rfl) rfl rfl trivial fun A2 cp6 a S CL=>h_mv1 S CL hw le rfl trivial fun a S CL=>?_
        obtain ⟨c6,h2⟩:=chk_of h1; clear h1
        refine h_iaddrS S CL hw le (subR rfl) rfl rfl rfl underlying98 T43 c6.1 c6.2 rfl rfl trivial fun p11 a S CL=>h_ldA S CL hw le (subR rfl) (fun (c:Unit)=>[.w4 (gt ((gt x1 y1).2.1) y7)]) rfl T43 (fun _=>rfl) rfl rfl trivial fun ch1 a S CL=>?_
        refine h_mv2 S CL hw le rfl trivial trivial fun a S CL=>?_
        obtain ⟨c7,h3⟩:=chk_of h2; clear h2
        refine h_iaddrS S CL hw le (subR rfl) rfl rfl rfl underlying34 T100 c7.1 c7.2 rfl rfl trivial fun p12 a S CL=>h_faddrP S CL hw le (subR rfl) (tF:=(Ty.slice (Ty.arr .u64 4))) (y:=(gt x2 y1).2.1) rfl I100_1 T98 (by decide) (fun m h=>(at_fst (at_snd (at_0 h)))) rfl rfl trivial fun a S CL=>h_ldS S CL hw le (subR rfl) (fun c=>c) rfl T98 (fun _=>rfl) rfl rfl trivial fun A3 cp7 a S CL=>h_mv1 S CL hw le rfl trivial fun a S CL=>?_
        obtain ⟨c8,h4⟩:=chk_of h3; clear h3
        refine h_iaddrS S CL hw le (subR rfl) rfl rfl rfl underlying98 T43 c8.1 c8.2 rfl rfl trivial fun p13 a S CL=>h_ldA S CL hw le (subR rfl) (fun (c:Unit)=>[.w4 (gt ((gt x2 y1).2.1) y7)]) rfl T43 (fun _=>rfl) rfl rfl trivial fun ch2 a S CL=>?_
        refine h_nea S CL hw le (subR rfl) rfl rfl underlying43 underlying41 T41 Q43 rfl rfl trivial fun a S CL=>?_
        refine h_done ?_; clear CL hw le
        refine x_thenN ?_
        rcases ite_of h4 with ⟨c9,h5⟩ | ⟨c9,h5⟩
        ·refine c_condT S rfl c9 (c_region (s_as1 S rfl fun a S=>c_end (wp_ret (x_blockR (x_thenR (x_thenR (x_blockR (x_blockR (x_thenR (x_thenR (x_blockR (x_thenR ?_))))))))))))
         obtain rfl:=Option.some.inj h5
         exact b_ret1 (d:=(.b false)) S rfl rfl (S.rt hb)
        ·refine c_condF S rfl c9 (wp_skip (x_blockN (x_thenN (c_region' (s_bi S rfl fun a S=>s_mv1 S rfl fun a S=>c_end' (x_thenN ?_))))))
         exact ⟨_,(wr .i64 (y7+1)),(S.sb rfl .nil),h5⟩
       ·refine c_condF S rfl c5 (wp_exit (x_thenX (x_thenX (x_blockX (x_blockN (x_thenN ?_))))))
        exact j2 _ a w (S.sb rfl .nil) h1
    refine c_hS S (.tk 0 41 .done) 41 .nil trivial [(5,(.i y1)),(0,(.q Y100 ch_0_0 ch_0_1 x1)),(1,(.q Y100 ch_1_0 ch_1_1 x2))] rfl (by kernel_rfl) fun w S CL hw le=>?_
    refine h_mv2 S CL hw le rfl trivial trivial fun a S CL=>?_
    obtain ⟨c10,h2⟩:=chk_of h1; clear h1
    refine h_iaddrS S CL hw le (subR rfl) rfl rfl rfl underlying34 T100 c10.1 c10.2 rfl rfl trivial fun p14 a S CL=>h_faddrP S CL hw le (subR rfl) (tF:=(Ty.arr .u8 20)) (y:=(gt x1 y1).1) rfl I100_0 T40 (by decide) (fun m h=>(at_fst (at_0 h))) rfl rfl trivial fun a S CL=>h_ldA S CL hw le (subR rfl) (fun (c:Unit)=>[.b20 ((gt x1 y1).1)]) rfl T40 (fun _=>rfl) rfl rfl trivial fun ch3 a S CL=>?_
    refine h_mv2 S CL hw le rfl trivial trivial fun a S CL=>?_
    obtain ⟨c11,h3⟩:=chk_of h2; clear h2
    refine h_iaddrS S CL hw le (subR rfl) rfl rfl rfl underlying34 T100 c11.1 c11.2 rfl rfl trivial fun p15 a S CL=>h_faddrP S CL hw le (subR rfl) (tF:=(Ty.arr .u8 20)) (y:=(gt x2 y1).1) rfl I100_0 T40 (by decide) (fun m h=>(at_fst (at_0 h))) rfl rfl trivial fun a S CL=>h_ldA S CL hw le (subR rfl) (fun (c:Unit)=>[.b20 ((gt x2 y1).1)]) rfl T40 (fun _=>rfl) rfl rfl trivial fun ch4 a S CL=>?_
    refine h_nea S CL hw le (subR rfl) rfl rfl underlying40 underlying5 T5 Q40 rfl rfl trivial fun a S CL=>h_mv1 S CL hw le rfl trivial fun a S CL=>?_
    rcases ite_of h3 with ⟨c12,h4⟩ | ⟨c12,h4⟩
    ·refine h_sk8 S CL rfl (ne_bool c12) fun a S CL=>h_sk4 S CL rfl (ne_bool c12) fun a S CL=>h_sk1 S CL rfl (ne_bool c12) fun a S CL=>h_pick S CL hw le (subR rfl) (b:=true) (hc_of rfl c12) rfl rfl rfl trivial fun a S CL=>h_mv1 S CL hw le rfl trivial fun a S CL=>h_skip S CL rfl rfl rfl (ne_bool rfl) rfl fun a S CL=>h_skip S CL rfl rfl rfl (ne_bool rfl) rfl fun a S CL=>h_skip S CL rfl rfl rfl (ne_bool rfl) rfl fun a S CL=>h_skip S CL rfl rfl rfl (ne_bool rfl) rfl fun a S CL=>h_skip S CL rfl rfl rfl (ne_bool rfl) rfl fun a S CL=>h_skip S CL rfl rfl rfl (ne_bool rfl) rfl fun a S CL=>h_skip S CL rfl rfl rfl (ne_bool rfl) rfl fun a S CL=>h_skip S CL rfl rfl rfl (ne_bool rfl) rfl fun a S CL=>h_skip S CL rfl rfl rfl (ne_bool rfl) rfl fun a S CL=>h_skip S CL rfl rfl rfl (ne_bool rfl) rfl fun a S CL=>h_skip S CL rfl rfl rfl (ne_bool rfl) rfl fun a S CL=>h_skip S CL rfl rfl rfl (ne_bool rfl) rfl fun a S CL=>h_skip S CL rfl rfl rfl (ne_bool rfl) rfl fun a S CL=>h_pick S CL hw le (subR rfl) (b:=true) (hc_of rfl rfl) rfl rfl rfl trivial fun a S CL=>?_
     refine h_done ?_; clear CL hw le
     refine x_thenN ?_
     exact j3 _ true a w (S.sb rfl .nil) h4
    ·refine h_mv2 S CL hw le rfl ⟨_,_,rfl,rfl,c12⟩ ⟨_,_,rfl,rfl,c12⟩ fun a S CL=>h_iaddrS S CL hw le (subR rfl) rfl rfl rfl underlying34 T100 c10.1 c10.2 rfl rfl ⟨_,_,rfl,rfl,c12⟩ fun p16 a S CL=>h_faddrP S CL hw le (subR rfl) (tF:=(Ty.slice yb)) (y:=(gt x1 y1).t2) rfl I100_2 T44 (by decide) (fun m h=>(at_snd (at_snd (at_0 h)))) rfl rfl ⟨_,_,rfl,rfl,c12⟩ fun a S CL=>h_ldS S CL hw le (subR rfl) (fun c=>c) rfl T44 (fun _=>rfl) rfl rfl ⟨_,_,rfl,rfl,c12⟩ fun A4 cp8 a S CL=>h_strS S CL hw le (subR rfl) rfl rfl underlying44 underlying5 underlying9 rfl rfl ⟨_,_,rfl,rfl,c12⟩ fun a S CL=>h_mv2 S CL hw le rfl ⟨_,_,rfl,rfl,c12⟩ ⟨_,_,rfl,rfl,c12⟩ fun a S CL=>h_iaddrS S CL hw le (subR rfl) rfl rfl rfl underlying34 T100 c11.1 c11.2 rfl rfl ⟨_,_,rfl,rfl,c12⟩ fun p17 a S CL=>h_faddrP S CL hw le (subR rfl) (tF:=(Ty.slice yb)) (y:=(gt x2 y1).t2) rfl I100_2 T44 (by decide) (fun m h=>(at_snd (at_snd (at_0 h)))) rfl rfl ⟨_,_,rfl,rfl,c12⟩ fun a S CL=>h_ldS S CL hw le (subR rfl) (fun c=>c) rfl T44 (fun _=>rfl) rfl rfl ⟨_,_,rfl,rfl,c12⟩ fun A5 cp9 a S CL=>h_strS S CL hw le (subR rfl) rfl rfl underlying44 underlying5 underlying9 rfl rfl ⟨_,_,rfl,rfl,c12⟩ fun a S CL=>h_neT S CL hw le (subR rfl) rfl rfl rfl rfl ⟨_,_,rfl,rfl,c12⟩ fun a S CL=>h_pick S CL hw le (subR rfl) (b:=false) (hc_of rfl c12) rfl rfl rfl trivial fun a S CL=>h_mv1 S CL hw le rfl trivial fun a S CL=>?_
     rcases ite_of h4 with ⟨c13,h5⟩ | ⟨c13,h5⟩
     ·refine h_sk8 S CL rfl (ne_bool c13) fun a S CL=>h_sk4 S CL rfl (ne_bool c13) fun a S CL=>h_sk1 S CL rfl (ne_bool c13) fun a S CL=>h_pick S CL hw le (subR rfl) (b:=true) (hc_of rfl c13) rfl rfl rfl trivial fun a S CL=>?_
      refine h_done ?_; clear CL hw le
      refine x_thenN ?_
      exact j3 _ true a w (S.sb rfl .nil) h5
     ·refine h_mv2 S CL hw le rfl ⟨_,_,rfl,rfl,c13⟩ ⟨_,_,rfl,rfl,c13⟩ fun a S CL=>h_iaddrS S CL hw le (subR rfl) rfl rfl rfl underlying34 T100 c10.1 c10.2 rfl rfl ⟨_,_,rfl,rfl,c13⟩ fun p18 a S CL=>h_faddrP S CL hw le (subR rfl) (tF:=(Ty.slice (Ty.arr .u64 4))) (y:=(gt x1 y1).2.1) rfl I100_1 T98 (by decide) (fun m h=>(at_fst (at_snd (at_0 h)))) rfl rfl ⟨_,_,rfl,rfl,c13⟩ fun a S CL=>h_ldS S CL hw le (subR rfl) (fun c=>c) rfl T98 (fun _=>rfl) rfl rfl ⟨_,_,rfl,rfl,c13⟩ fun A6 cp10 a S CL=>h_lenS S CL hw le (subR rfl) rfl underlying98 rfl rfl ⟨_,_,rfl,rfl,c13⟩ fun a S CL=>h_mv2 S CL hw le rfl ⟨_,_,rfl,rfl,c13⟩ ⟨_,_,rfl,rfl,c13⟩ fun a S CL=>h_iaddrS S CL hw le (subR rfl) rfl rfl rfl underlying34 T100 c11.1 c11.2 rfl rfl ⟨_,_,rfl,rfl,c13⟩ fun p19 a S CL=>h_faddrP S CL hw le (subR rfl) (tF:=(Ty.slice (Ty.arr .u64 4))) (y:=(gt x2 y1).2.1) rfl I100_1 T98 (by decide) (fun m h=>(at_fst (at_snd (at_0 h)))) rfl rfl ⟨_,_,rfl,rfl,c13⟩ fun a S CL=>h_ldS S CL hw le (subR rfl) (fun c=>c) rfl T98 (fun _=>rfl) rfl rfl ⟨_,_,rfl,rfl,c13⟩ fun A7 cp11 a S CL=>h_lenS S CL hw le (subR rfl) rfl underlying98 rfl rfl ⟨_,_,rfl,rfl,c13⟩ fun a S CL=>h_bin S CL hw le (subR rfl) rfl rfl rfl rfl rfl ⟨_,_,rfl,rfl,c13⟩ fun a S CL=>h_pick S CL hw le (subR rfl) (b:=false) (hc_of rfl c13) rfl rfl rfl trivial fun a S CL=>?_
      refine h_done ?_; clear CL hw le
      refine x_thenN ?_
      exact j3 _ ((((gt x1 y1).2.1).length:Int) != (((gt x2 y1).2.1).length:Int)) a w (S.sb rfl .nil) h5
   ·refine c_condF S rfl c2 (wp_exit (x_thenX (x_thenX (x_blockX (x_thenN ?_)))))
    exact j1 _ a w (S.sub trivial .nil) h1
end
end GW
