import Derived.Test.YtdajnflppnlhiaaProg
import Derived.Test.YtdajnflppnlhiaaGD
set_option linter.unusedVariables false
set_option linter.unusedSimpArgs false
set_option maxRecDepth 10000
set_option maxHeartbeats 4000000
namespace GW
open Go Go.RowKit Go.Proofs Go.Proofs.Try
noncomputable section
abbrev fb5_.Ty:Type:=(List L39)→(List Int)→(List Int)→W19→Option Bool
def fb5_.Ctr (s:fb5_.Ty):Prop:=∀ {x1:List L39} {x2:List Int} {x3:List Int} {x4:W19} {ch_0_0:Option Addr} {ch_0_1:Nat} {ch_2_0:Option Addr} {ch_2_1:Nat} {ch_3_0:Option Addr} {ch_3_1:Nat} {ch_3_2:Option Addr} {ch_3_3:Nat} {r:Bool} (h0:s x1 x2 x3 x4=some r) {mi:Mem} {w0:World},CtrB Try.prog 4 [(.q Y39 ch_0_0 ch_0_1 x1),(.agg [.b20 x2]),(.q yb ch_2_0 ch_2_1 x3),(.agg (Y51.segs x4 ((),(ch_3_0,ch_3_1),(ch_3_2,ch_3_3))))] [] (fun (ch:Unit)=>((.b r):D)) (fun (ch:Unit)=>[]) mi w0
def fb5_.j6 (y7:Bool):Option Bool:=some y7
def fb5_.j5 (k:Nat)(x2:List Int)(x3:List Int)(x4:W19)(t3:W2)(t8:W18)(t11:W4)(y6:L39):Option Bool:=(fd9_.f k (t3.1,t8.2.2.1,t3.2.2.1,t8.2.2.2.2.1,t8.2.2.2.2.2.1,t8.2.2.2.2.2.2) x2).bind fun t18=>(if ((bstr t18.1).toList==(bstr x3).toList)=true then ((fd4_.f k (t3.1,t18.2.2.1,t3.2.2.1,t18.2.2.2.2.1,t18.2.2.2.2.2.1,t18.2.2.2.2.2.2)).bind fun t19=>((fb7_.f k t19 [x4]).bind fun t20=>(if t20=true then ((fd7_.f k (t3.1,t18.2.2.1,t3.2.2.1,t18.2.2.2.2.1,t18.2.2.2.2.2.1,t18.2.2.2.2.2.2) x2 [1,0,0,0]).bind fun t21=>(if (decide (t21.1=[9,0,0,0]))=true then (if t11.2=true then ((fe_.f k t11.1 y6).bind fun t22=>(fb5_.j6 t22)) else (fb5_.j6 false)) else (fb5_.j6 false))) else (fb5_.j6 false)))) else (fb5_.j6 false))
def fb5_.j4 (k:Nat)(x1:List L39)(x2:List Int)(x3:List Int)(x4:W19)(t2:List L39)(t3:W2)(t8:W18):Option Bool:=(fc4_.f k t2 x2).bind fun t11=>((fe0_.f k x1 x2).bind fun t12=>(if (!t12.2)=true then (fb5_.j5 k x2 x3 x4 t3 t8 t11 (x2,0,[0,0,0,0],([]:List Int),([]:List ((List Int)×(List Int))))) else (fb5_.j5 k x2 x3 x4 t3 t8 t11 t12.1)))
def fb5_.b1 (k:Nat)(x1:List L39)(x2:List Int)(x3:List Int)(x4:W19)(t2:List L39)(t3:W2)(t8:W18)(t23:List L39)(rec1:Int→Option Bool)(y9:Int):Option Bool:=if (decide (y9<((t23).length:Int)))=true then (if (0:Int)≤y9∧y9<((t23).length:Int) then (rec1 (wr .i64 (y9+1))) else none) else (fb5_.j4 k x1 x2 x3 x4 t2 t3 t8)
def fb5_.l1 (k:Nat)(x1:List L39)(x2:List Int)(x3:List Int)(x4:W19)(t2:List L39)(t3:W2)(t8:W18)(t23:List L39):Nat→Int→Option Bool
  | 0,_=>none
  | q+1,y9=>fb5_.b1 k x1 x2 x3 x4 t2 t3 t8 t23 (fb5_.l1 k x1 x2 x3 x4 t2 t3 t8 t23 q) y9
def fb5_.j3 (k:Nat)(x1:List L39)(x2:List Int)(x3:List Int)(x4:W19)(t2:List L39)(t3:W2)(t8:W18):Option Bool:=(fc2_.f k (t3.1,t8.2.2.1,t3.2.2.1,t8.2.2.2.2.1,t8.2.2.2.2.2.1,t8.2.2.2.2.2.2)).bind fun t23=>(fb5_.l1 k x1 x2 x3 x4 t2 t3 t8 t23 k 0)
def fb5_.b2 (k:Nat)(x1:List L39)(x2:List Int)(x3:List Int)(x4:W19)(t2:List L39)(t3:W2)(t8:W18)(t24:List L51)(rec2:Int→Option Bool)(y11:Int):Option Bool:=if (decide (y11<((t24).length:Int)))=true then (if (0:Int)≤y11∧y11<((t24).length:Int) then (rec2 (wr .i64 (y11+1))) else none) else (fb5_.j3 k x1 x2 x3 x4 t2 t3 t8)
def fb5_.l2 (k:Nat)(x1:List L39)(x2:List Int)(x3:List Int)(x4:W19)(t2:List L39)(t3:W2)(t8:W18)(t24:List L51):Nat→Int→Option Bool
  | 0,_=>none
  | q+1,y11=>fb5_.b2 k x1 x2 x3 x4 t2 t3 t8 t24 (fb5_.l2 k x1 x2 x3 x4 t2 t3 t8 t24 q) y11
def fb5_.j2 (k:Nat)(x1:List L39)(x2:List Int)(x3:List Int)(x4:W19)(t2:List L39)(t3:W2):Option Bool:=(fb_.f k t3 x2 (([]:List Int)++x3)).bind fun t5=>((fb9_.f (t3.1,t5.2.1,t3.2.2.1,t5.2.2.2.1,t5.2.2.2.2.1,t5.2.2.2.2.2) (x4.1,([]:List (List Int))++x4.2.1,([]:List Int)++x4.2.2)).bind fun t6=>((fe1_.f k (t3.1,t5.2.1,t3.2.2.1,t6.2.2.2.1,t6.2.2.2.2.1,t5.2.2.2.2.2) x2 [1,0,0,0] [9,0,0,0]).bind fun t7=>((fd9_.f k (t3.1,t7.2.1,t3.2.2.1,t7.2.2.2.1,t7.2.2.2.2.1,t7.2.2.2.2.2) x2).bind fun t8=>((fd4_.f k (t3.1,t8.2.2.1,t3.2.2.1,t8.2.2.2.2.1,t8.2.2.2.2.2.1,t8.2.2.2.2.2.2)).bind fun t24=>(fb5_.l2 k x1 x2 x3 x4 t2 t3 t8 t24 k 0)))))
def fb5_.j1 (k:Nat)(x1:List L39)(x2:List Int)(x3:List Int)(x4:W19)(y1:Bool):Option Bool:=if y1=true then ((fd3_.f k).bind fun t1=>(some t1)) else ((ff6_.f k x1).bind fun t2=>((fe5_.f t2).bind fun t3=>((fd3_.f k).bind fun t4=>(if (!t4)=true then (some false) else (if ((([]:List Int)).length+(x3).length)*1≤140737488355328 then (if ((([]:List (List Int))).length+(x4.2.1).length)*32≤140737488355328 then (if ((([]:List Int)).length+(x4.2.2).length)*1≤140737488355328 then (fb5_.j2 k x1 x2 x3 x4 t2 t3) else none) else none) else none)))))
def fb5_.f (k:Nat)(x1:List L39)(x2:List Int)(x3:List Int)(x4:W19):Option Bool:=(fd1_.f k x1).bind fun t25=>(if (!t25)=true then (fb5_.j1 k x1 x2 x3 x4 true) else (if (decide (300<((x3).length:Int)))=true then (fb5_.j1 k x1 x2 x3 x4 true) else (if (decide (300<((x4.2.2).length:Int)))=true then (fb5_.j1 k x1 x2 x3 x4 true) else (fb5_.j1 k x1 x2 x3 x4 (decide (20<((x4.2.1).length:Int)))))))
theorem fb5_.ok (k:Nat):fb5_.Ctr (fb5_.f k):=by
 intro x1 x2 x3 x4 ch_0_0 ch_0_1 ch_2_0 ch_2_1 ch_3_0 ch_3_1 ch_3_2 ch_3_3 r h0 mi w0 ok hm
 delta fb5_.f at h0
 refine c_enterZ (n:=156) ok hm func4 rfl rfl rfl fun b0 hb a S=>c_region (s_box S rfl rfl rfl fun g1 a w S=>s_box S rfl rfl rfl fun g2 a w S=>s_as1 S rfl fun a S=>c_end (wp_seq (wp_seq_k fun K1 hK1=>?_)))
 have j1:∀ m y1 g3 g4 a w,St 156 m b0 [(40,(.b y1)),(7,(.p g3)),(5,(.p g4)),(0,(.q Y39 ch_0_0 ch_0_1 x1)),(2,(.q yb ch_2_0 ch_2_1 x3))] [Res.cells g3 51 (Y51.segs x4 ((),(ch_3_0,ch_3_1),(ch_3_2,ch_3_3))),Res.cells g4 31 [.b20 x2]] a w→fb5_.j1 k x1 x2 x3 x4 y1=some r→K1 a w:=by
  intro m y1 g3 g4 a w S h0
  delta fb5_.j1 at h0
  refine hK1 a w ?_
  rcases ite_of h0 with ⟨c1,h1⟩ | ⟨c1,h1⟩
  ·refine c_condT S rfl c1 (c_region (bindX h1 fun t1 et1 h2=>s_callK S (fd3_.ok k et1) N6 rfl .pre (fun _=> .n) rfl fun ch1 m le1 a w S=>s_as1 S rfl fun a S=>c_end (wp_ret (x_thenR ?_))))
   obtain rfl:=sI h2
   exact b_ret1 (d:=(.b t1)) S rfl rfl (S.rt hb)
  ·refine c_condF S rfl c1 (wp_skip (x_thenN (c_region (s_mv1 S rfl fun a S=>bindX h1 fun t2 et2 h2=>s_callK S (ff6_.ok k et2) N11 rfl .pre (fun _=> .n) rfl fun ch2 m le1 a w S=>s_as1 S rfl fun a S=>c_end (c_region (s_mv1 S rfl fun a S=>bindX h2 fun t3 et3 h3=>s_callK S (fe5_.ok et3) N7 rfl .pre (fun _=> .c8) rfl fun ch3 m le1 a w S=>s_as1 S rfl fun a S=>c_end (wp_seq (c_region (s_mv1 S rfl fun a S=>s_eqp S (b:=false) rfl rfl underlying26 rfl rfl fun a S=>s_mv1 S rfl fun a S=>s_gT S (b:=false) rfl rfl rfl (bindX h3 fun t4 et4 h4=>s_callK S (fd3_.ok k et4) N6 rfl .pre (fun _=> .n) rfl fun ch4 m le1 a w S=>s_gT S (b:=false) rfl rfl rfl (s_not S rfl rfl fun a S=>s_pick S (b:=false) (hc_of rfl rfl) rfl rfl fun a S=>c_end ?_)))))))))))
   rcases ite_of h4 with ⟨c2,h5⟩ | ⟨c2,h5⟩
   ·refine c_condT S rfl c2 (c_region (s_as1 S rfl fun a S=>c_end (wp_ret (x_thenR ?_))))
    obtain rfl:=sI h5
    exact b_ret1 (d:=(.b false)) S rfl rfl (S.rt hb)
   ·refine c_condF S rfl c2 (wp_skip (x_thenN (c_region (s_bldSl S (ty':=yb) (ds:=[]) (z:=0) (c0:=()) (ys:=([]:List Int)) (cs:=[]) rfl underlying36 J5 Z5 rfl ⟨rfl,tv⟩ rfl rfl rfl rfl rfl rfl fun g5 a w S=>s_mv1 S rfl fun a S=>?_))))
    obtain ⟨c3,h6⟩:=chk_of h5; clear h5
    refine s_app S (k2:=((x3).length)) (ys:=x3) rfl (fun _ _=> .h) rfl rfl rfl (RdS.src (S.get 53 (.q yb ch_2_0 ch_2_1 x3) rfl).2.2.2.1 (by decide) S.frz) underlying36 J5 c3 rfl fun A1 cp1 a w S=>s_as1 S rfl fun a S=>c_end (wp_seq_k fun K2 hK2=>?_)
    have j2:∀ m g9 A2 cp4 A3 cp5 g10 g11 A4 cp6 A5 cp7 a w,St 156 m b0 [(12,(.p g9)),(11,(.s A2 (0+((x3).length)) cp4)),(10,(.v (.pointer (some ⟨ch3.1,0,none⟩)))),(9,(.rf (.iface 68 (.agg (cellsOf [.q Y39 A3 cp5 t2]).toArray)) (IfR [.q Y39 A3 cp5 t2]))),(7,(.p g10)),(5,(.p g11)),(0,(.q Y39 ch_0_0 ch_0_1 x1)),(2,(.q yb ch_2_0 ch_2_1 x3))] ([Res.cells g9 51 [.b20 x4.1, .s A4 (0+((x4.2.1).length)) cp6, .s A5 (0+((x4.t2).length)) cp7],Res.row yb 5 A5 (0+((x4.t2).length)) cp7 (([]:List Int)++x4.t2),Res.row (Ty.arr .u64 4) 35 A4 (0+((x4.2.1).length)) cp6 (([]:List (List Int))++x4.2.1),Res.row yb 5 A2 (0+((x3).length)) cp4 (([]:List Int)++x3)]++MS1 t3 ch3++[Res.cells g10 51 (Y51.segs x4 ((),(ch_3_0,ch_3_1),(ch_3_2,ch_3_3))),Res.cells g11 31 [.b20 x2]]) a w→fb5_.j2 k x1 x2 x3 x4 t2 t3=some r→K2 a w:=by
     intro m g9 A2 cp4 A3 cp5 g10 g11 A4 cp6 A5 cp7 a w S h0
     delta fb5_.j2 at h0
     refine hK2 a w (c_region (s_mv1 S rfl fun a S=>s_loada S rfl .h13 T31 (s':=[.b20 x2]) rfl rfl fun a S=>s_mv1 S rfl fun a S=>bindX h0 fun t5 et5 h1=>s_callK S (fb_.ok k (ch_0:=ch3) et5) N13 rfl (.c4 (.c4 (.c4 (.c4 (.c4 (.c4 (.c4 (.c4 (.c3 .n))))))))) (fun _=> .c9) rfl fun ch5 m le1 a w S=>c_end (c_region (s_mv1 S rfl fun a S=>s_loada S rfl .h9 T51 (s':=[.b20 x4.1, .s A4 (0+((x4.2.1).length)) cp6, .s A5 (0+((x4.t2).length)) cp7]) rfl rfl fun a S=>bindX h1 fun t6 et6 h2=>s_callK S (fb9_.ok (ch_0:=(ch3.1,ch3.2.1,ch3.e3,ch5.1,ch5.2.1,ch5.e3,ch5.e4,ch5.e5,ch5.e6,ch5.e7,ch5.e8,ch5.e9,ch5.e10,ch5.e11,ch5.e12,ch5.t12)) et6) N14 rfl (.c0 (.c0 (.c0 (.c0 (.c0 (.c0 (.c0 (.c0 (.c3 (.c2 .n)))))))))) (fun _=> .c10) rfl fun ch6 m le1 a w S=>c_end (c_region (s_mv1 S rfl fun a S=>s_loada S rfl .h13 T31 (s':=[.b20 x2]) rfl rfl fun a S=>s_build S (ds:=[(0,(.w 1))]) (dv:=(.a4 [1,0,0,0])) rfl (fun _=>by kernel_rfl) ⟨rfl,tv⟩ rfl fun a S=>s_build S (ds:=[(0,(.w 9))]) (dv:=(.a4 [9,0,0,0])) rfl (fun _=>by kernel_rfl) ⟨rfl,tv⟩ rfl fun a S=>bindX h2 fun t7 et7 h3=>s_callK S (fe1_.ok k (ch_0:=(ch3.1,ch3.2.1,ch3.e3,ch5.1,ch5.2.1,ch5.e3,ch5.e4,ch6.1,ch6.2.1,ch6.e3,ch6.e4,ch6.e5,ch6.t5,ch5.e11,ch5.e12,ch5.t12)) et7) N15 rfl .pre (fun _=> .c8) rfl fun ch7 m le1 a w S=>c_end (c_region (s_mv1 S rfl fun a S=>s_clearOn S (z:=0) (c0:=()) rfl .h10 underlying36 Z5 rfl ⟨rfl,tv⟩ (by decide) fun w S=>c_end (c_region (s_fieldAddr S rfl I51_1 T49 (by decide) rfl rfl fun a S=>s_load1 S rfl .h11 T49 (v:=(.slice A4 (0+((x4.2.1).length)) cp6)) rfl rfl fun a S=>s_clearOn S (z:=[0,0,0,0]) (c0:=()) rfl .h8 underlying49 Z35 rfl ⟨rfl,tv⟩ (by decide) fun w S=>c_end (c_region (s_fieldAddr S rfl I51_2 T36 (by decide) rfl rfl fun a S=>s_load1 S rfl .h11 T36 (v:=(.slice A5 (0+((x4.t2).length)) cp7)) rfl rfl fun a S=>s_clearOn S (z:=0) (c0:=()) rfl .h9 underlying36 Z5 rfl ⟨rfl,tv⟩ (by decide) fun w S=>c_end (c_region (s_mv1 S rfl fun a S=>s_loada S rfl .h13 T31 (s':=[.b20 x2]) rfl rfl fun a S=>bindX h3 fun t8 et8 h4=>s_callK S (fd9_.ok k (ch_0:=(ch3.1,ch3.2.1,ch3.e3,ch7.1,ch7.2.1,ch7.e3,ch7.e4,ch7.e5,ch7.e6,ch7.e7,ch7.e8,ch7.e9,ch7.e10,ch7.e11,ch7.e12,ch7.t12)) et8) N16 rfl .pre (fun _=> .c9) rfl fun ch8 m le1 a w S=>s_clearOn S (z:=0) (c0:=()) rfl .h underlying36 Z5 rfl ⟨rfl,tv⟩ (by decide) fun w S=>c_end (wp_seq_k fun K3 hK3=>?_)))))))))))))))
     have j3:∀ m g22 g23 a w,St 156 m b0 [(10,(.v (.pointer (some ⟨ch3.1,0,none⟩)))),(9,(.rf (.iface 68 (.agg (cellsOf [.q Y39 A3 cp5 t2]).toArray)) (IfR [.q Y39 A3 cp5 t2]))),(7,(.p g22)),(5,(.p g23)),(0,(.q Y39 ch_0_0 ch_0_1 x1)),(2,(.q yb ch_2_0 ch_2_1 x3))] (MS1 (t3.1,t8.e3,t3.e3,t8.e5,t8.e6,t8.t6) (ch3.1,ch3.2.1,ch3.e3,ch8.e4,ch8.e5,ch8.e6,ch8.e7,ch8.e8,ch8.e9,ch8.e10,ch8.e11,ch8.e12,ch8.e13,ch8.e14,ch8.e15,ch8.t15)++[Res.cells g22 51 (Y51.segs x4 ((),(ch_3_0,ch_3_1),(ch_3_2,ch_3_3))),Res.cells g23 31 [.b20 x2]]) a w→fb5_.j3 k x1 x2 x3 x4 t2 t3 t8=some r→K3 a w:=by
      intro m g22 g23 a w S h0
      delta fb5_.j3 at h0
      refine hK3 a w (wp_seq_k fun K4 hK4=>?_)
      have j4:∀ m g34 g35 a w,St 156 m b0 [(10,(.v (.pointer (some ⟨ch3.1,0,none⟩)))),(9,(.rf (.iface 68 (.agg (cellsOf [.q Y39 A3 cp5 t2]).toArray)) (IfR [.q Y39 A3 cp5 t2]))),(7,(.p g34)),(5,(.p g35)),(0,(.q Y39 ch_0_0 ch_0_1 x1)),(2,(.q yb ch_2_0 ch_2_1 x3))] (MS1 (t3.1,t8.e3,t3.e3,t8.e5,t8.e6,t8.t6) (ch3.1,ch3.2.1,ch3.e3,ch8.e4,ch8.e5,ch8.e6,ch8.e7,ch8.e8,ch8.e9,ch8.e10,ch8.e11,ch8.e12,ch8.e13,ch8.e14,ch8.e15,ch8.t15)++[Res.cells g34 51 (Y51.segs x4 ((),(ch_3_0,ch_3_1),(ch_3_2,ch_3_3))),Res.cells g35 31 [.b20 x2]]) a w→fb5_.j4 k x1 x2 x3 x4 t2 t3 t8=some r→K4 a w:=by
       intro m g34 g35 a w S h0
       delta fb5_.j4 at h0
       refine hK4 a w (c_region (s_mv1 S rfl fun a S=>s_loada S rfl .h9 T31 (s':=[.b20 x2]) rfl rfl fun a S=>bindX h0 fun t11 et11 h1=>s_callKI S (d0:=(.agg [.q Y39 A3 cp5 t2])) (ds':=[(.agg [.b20 x2])]) (ds:=[(.agg [.b20 x2])]) (fc4_.ok k et11) N102 M68_Account rfl rfl (fun h=>h) rfl rfl (fun ok=>ok) .pre (fun _=> .n) rfl fun ch11 m le1 a w S=>s_mv1 S rfl fun a S=>s_extract S rfl rfl rfl rfl fun a S=>s_extract S rfl rfl rfl rfl fun a S=>s_alloc S Z39 rfl ⟨rfl,rfl,rfl,rfl,rfl,tv⟩ rfl fun g36 a w S=>s_store S rfl rfl rfl (s':=(Y39.segs t11.1 ((),(),(),(ch11.1,ch11.2.1),ch11.t2))) .h T39 rfl rfl fun w S=>s_as1 S rfl fun a S=>c_end (c_region (s_mv1 S rfl fun a S=>s_loada S rfl .h10 T31 (s':=[.b20 x2]) rfl rfl fun a S=>bindX h1 fun t12 et12 h2=>s_callK S (fe0_.ok k et12) N9 rfl .pre (fun _=> .n) rfl fun ch12 m le1 a w S=>s_mv1 S rfl fun a S=>s_extract S rfl rfl rfl rfl fun a S=>s_extract S rfl rfl rfl rfl fun a S=>s_alloc S Z39 rfl ⟨rfl,rfl,rfl,rfl,rfl,tv⟩ rfl fun g37 a w S=>s_store S rfl rfl rfl (s':=(Y39.segs t12.1 ((),(),(),(ch12.1,ch12.2.1),ch12.t2))) .h T39 rfl rfl fun w S=>s_as1 S rfl fun a S=>c_end (wp_seq_k fun K5 hK5=>?_)))))
       have j5:∀ m g38 g39 g40 g41 y6 cc1 A6 cp8 A7 cp9 a w,St 156 m b0 [(19,(.p g38)),(18,(.b t11.2)),(17,(.p g39)),(10,(.v (.pointer (some ⟨ch3.1,0,none⟩)))),(7,(.p g40)),(5,(.p g41)),(2,(.q yb ch_2_0 ch_2_1 x3))] ([Res.cells g38 39 (Y39.segs y6 cc1),Res.cells g39 39 (Y39.segs t11.1 ((),(),(),(A6,cp8),(A7,cp9)))]++MS1 (t3.1,t8.e3,t3.e3,t8.e5,t8.e6,t8.t6) (ch3.1,ch3.2.1,ch3.e3,ch8.e4,ch8.e5,ch8.e6,ch8.e7,ch8.e8,ch8.e9,ch8.e10,ch8.e11,ch8.e12,ch8.e13,ch8.e14,ch8.e15,ch8.t15)++[Res.cells g40 51 (Y51.segs x4 ((),(ch_3_0,ch_3_1),(ch_3_2,ch_3_3))),Res.cells g41 31 [.b20 x2]]) a w→fb5_.j5 k x2 x3 x4 t3 t8 t11 y6=some r→K5 a w:=by
        intro m g38 g39 g40 g41 y6 cc1 A6 cp8 A7 cp9 a w S h0
        delta fb5_.j5 at h0
        refine hK5 a w (wp_seq_k fun K6 hK6=>?_)
        have j6:∀ m y7 a w,St 156 m b0 [(8,(.b y7))] [] a w→fb5_.j6 y7=some r→K6 a w:=by
         intro m y7 a w S h0
         delta fb5_.j6 at h0
         refine hK6 a w (wp_ret ?_)
         obtain rfl:=sI h0
         exact b_ret1 (d:=(.b y7)) S rfl rfl (S.rt hb)
        refine c_hS S (.take 0 (.take 1 (.take 4 (.take 5 (.alts (.run 2 true (.alts (.run 3 true (.tk 6 3 (.take 10 (.alts (.run 9 true (.alts (.run 11 true (.alts (.run 12 true (.tk 13 5 (.take 19 (.alts (.run 18 true (.tk 20 8 (.alts (.run 28 false (.alts (.run 29 false (.alts (.run 30 false .done .nil)) .nil)) .nil))) .nil)))) .nil)) .nil)) (.run 11 true (.alts (.run 9 true (.alts (.run 12 true (.tk 13 5 (.take 19 (.alts (.run 18 true (.tk 20 8 (.alts (.run 28 false (.alts (.run 29 false (.alts (.run 30 false .done .nil)) .nil)) .nil))) .nil)))) .nil)) .nil)) .nil))))) .nil)) .nil)))))) 28 (.c0 (.c0 (.c8 (.c8 .n)))) ⟨Res.stay_cells,Res.stay_cells,Res.stay_cells,Res.stay_cells,tv⟩ [(19,(.p g38)),(18,(.b t11.2)),(17,(.p g39)),(10,(.v (.pointer (some ⟨ch3.1,0,none⟩)))),(7,(.p g40)),(5,(.p g41)),(2,(.q yb ch_2_0 ch_2_1 x3))] rfl (by kernel_rfl) fun w S CL hw le=>?_
        refine h_mv1 S CL hw le rfl tv fun a S CL=>h_loada S CL hw le (subR rfl) rfl .h3 T31 (s':=[.b20 x2]) rfl rfl rfl tv fun a S CL=>h_mv1 S CL hw le rfl tv fun a S CL=>h_strS S CL hw le (subR rfl) rfl rfl underlying36 underlying5 underlying9 rfl rfl tv fun a S CL=>h_run' S rfl tv (bindX h0 fun t18 et18 h1=>s_callK S (fd9_.ok k (ch_0:=(ch3.1,ch3.2.1,ch3.e3,ch8.e4,ch8.e5,ch8.e6,ch8.e7,ch8.e8,ch8.e9,ch8.e10,ch8.e11,ch8.e12,ch8.e13,ch8.e14,ch8.e15,ch8.t15)) et18) N16 rfl (.sk (.sk .pre)) (fun _=> .c9) rfl fun ch17 m le1 a w S=>?_)
        replace le:=le.trans le1
        refine CL.bk hw S (.c9 (.c9 (.c9 (.c9 .n)))) le fun hw=>h_run' S rfl tv ?_
        replace S:=S.rowfro .h
        obtain ⟨m,le1,S,hro⟩:=S
        replace le:=le.trans le1
        replace S:=S.slotro (u:=128) rfl hro
        refine s_strS S rfl rfl underlying36 underlying5 underlying9 rfl fun a S=>CL.bk hw S (.c8 (.c8 (.c8 (.c8 .n)))) le fun hw=>?_
        replace CL:=CL.add (t:=129) (d:=(.v (.string (bstr t18.1)))) S rfl rfl
        refine h_eqT S CL hw le (subR rfl) rfl rfl rfl rfl tv fun a S CL=>h_mv1 S CL hw le rfl tv fun a S CL=>?_
        rcases ite_of h1 with ⟨c4,h2⟩ | ⟨c4,h2⟩
        ·refine h_mv1 S CL hw le rfl ⟨_,_,rfl,rfl,c4⟩ fun a S CL=>h_loada S CL hw le (subR rfl) rfl .h2 T51 (s':=(Y51.segs x4 ((),(ch_3_0,ch_3_1),(ch_3_2,ch_3_3)))) rfl rfl rfl ⟨_,_,rfl,rfl,c4⟩ fun a S CL=>bindX h2 fun t19 et19 h3=>bindX h3 fun t20 et20 h4=>h_alts ?_
         refine h_runO S rfl ⟨_,_,rfl,rfl,c4⟩ ?_ ?_
         ·refine s_callK S (fd4_.ok k (ch_0:=(ch3.1,ch3.2.1,ch3.e3,ch17.e4,ch17.e5,ch17.e6,ch17.e7,ch17.e8,ch17.e9,ch17.e10,ch17.e11,ch17.e12,ch17.e13,ch17.e14,ch17.e15,ch17.t15)) et19) N17 rfl .pre (fun _=> .c10) rfl fun ch18 m le1 a w S=>?_
          replace le:=le.trans le1
          refine CL.bk hw S (.c10 (.c10 (.c10 (.c10 .n)))) le fun hw=>h_run' S rfl ⟨_,_,rfl,rfl,c4⟩ (s_bldSl S (ty':=Y51) (ds:=[(0,(.agg (Y51.segs x4 ((),(ch_3_0,ch_3_1),(ch_3_2,ch_3_3)))))]) (z:=(z20,([]:List (List Int)),([]:List Int))) (c0:=((),(none,0),(none,0))) (ys:=[x4]) (cs:=[((),(ch_3_0,ch_3_1),(ch_3_2,ch_3_3))]) rfl underlying56 J51 Z51 rfl ⟨rfl,⟨Nat.le_refl _,Nat.zero_le _,RdS.nil _ _ _,RdS.mono _ _ _⟩,⟨Nat.le_refl _,Nat.zero_le _,RdS.nil _ _ _,RdS.mono _ _ _⟩,tv⟩ rfl rfl rfl rfl rfl rfl fun g43 a w S=>CL.bk hw S (.c11 (.c11 (.c11 (.c11 .n)))) le fun hw=>h_run' S rfl ⟨_,_,rfl,rfl,c4⟩ ?_)
          replace S:=S.rowfro .h
          obtain ⟨m,le1,S,hro⟩:=S
          replace le:=le.trans le1
          replace S:=S.slotro (u:=137) rfl hro
          refine s_callL S (ds':=[(.s ch18.1 ch18.2.1 ch18.e3),(.q Y51 (ad g43) 1 [x4])]) (ds:=[(.q Y51 ch18.1 ch18.e3 t19),(.q Y51 (ad g43) 1 [x4])]) (fun (ch:Unit)=>((.b t20):D)) (fun _ _ _ h=>h) (by obtain ⟨mm,g1,gZ,g2,g3⟩:=S.zlend .h1 .h; exact ⟨mm,g1,g2,fun ok=>⟨⟨by have:=g3.2.1; omega,g3.2.right,g3.1.1,RdS.mono _ _ _⟩,ok.2.1,tv⟩⟩) N19 rfl (congrArg (fun z=>[Value.slice ch18.1 z ch18.e3,D.val (.q Y51 (ad g43) 1 [x4])]) (S.holds _ (Pull.mem .h).1).1.symm) rfl (fun _=>fb7_.ok k et20) fun ch19 a w S=>CL.bk hw S (.c10 (.c10 (.c10 (.c10 .n)))) le fun hw=>?_
          replace CL:=CL.add (t:=138) (d:=(.b t20)) S rfl rfl
          refine h_pick S CL hw le (subR rfl) (b:=true) (hc_of rfl c4) rfl rfl rfl tv fun a S CL=>h_mv1 S CL hw le rfl tv fun a S CL=>?_
          rcases ite_of h4 with ⟨c5,h5⟩ | ⟨c5,h5⟩
          ·refine h_mv1 S CL hw le rfl ⟨_,_,rfl,rfl,c5⟩ fun a S CL=>h_loada S CL hw le (subR rfl) rfl .h3 T31 (s':=[.b20 x2]) rfl rfl rfl ⟨_,_,rfl,rfl,c5⟩ fun a S CL=>h_build S CL hw le (subR rfl) (ds:=[(0,(.w 1))]) (dv:=(.a4 [1,0,0,0])) rfl (fun _=>by kernel_rfl) ⟨rfl,tv⟩ rfl rfl ⟨_,_,rfl,rfl,c5⟩ fun a S CL=>h_build S CL hw le (subR rfl) (ds:=[(0,(.w 9))]) (dv:=(.a4 [9,0,0,0])) rfl (fun _=>by kernel_rfl) ⟨rfl,tv⟩ rfl rfl ⟨_,_,rfl,rfl,c5⟩ fun a S CL=>h_run' S rfl ⟨_,_,rfl,rfl,c5⟩ (bindX h5 fun t21 et21 h6=>s_callK S (fd7_.ok k (ch_0:=(ch3.1,ch3.2.1,ch3.e3,ch17.e4,ch17.e5,ch17.e6,ch17.e7,ch17.e8,ch17.e9,ch17.e10,ch17.e11,ch17.e12,ch17.e13,ch17.e14,ch17.e15,ch17.t15)) et21) N20 rfl (.sk (.sk .pre)) (fun _=> .c8) rfl fun ch20 m le1 a w S=>?_)
           replace le:=le.trans le1
           refine CL.bk hw S (.c10 (.c10 (.c10 (.c10 .n)))) le fun hw=>?_
           replace CL:=CL.add (t:=144) (d:=(.a4 t21.1)) S rfl rfl
           refine h_eqa S CL hw le (subR rfl) rfl rfl underlying35 underlying32 T32 Q35 rfl rfl ⟨_,_,rfl,rfl,c5⟩ fun a S CL=>h_pick S CL hw le (subR rfl) (b:=true) (hc_of rfl c5) rfl rfl rfl tv fun a S CL=>h_mv1 S CL hw le rfl tv fun a S CL=>?_
           rcases ite_of h6 with ⟨c6,h7⟩ | ⟨c6,h7⟩
           ·refine h_mv1 S CL hw le rfl ⟨_,_,rfl,rfl,c6⟩ fun a S CL=>h_pick S CL hw le (subR rfl) (b:=true) (hc_of rfl c6) rfl rfl rfl tv fun a S CL=>h_mv1 S CL hw le rfl tv fun a S CL=>?_
            rcases ite_of h7 with ⟨c7,h8⟩ | ⟨c7,h8⟩
            ·refine h_loada S CL hw le (subR rfl) rfl .h1 T39 (s':=(Y39.segs t11.1 ((),(),(),(A6,cp8),(A7,cp9)))) rfl rfl rfl ⟨_,_,rfl,rfl,c7⟩ fun a S CL=>h_loada S CL hw le (subR rfl) rfl .h T39 (s':=(Y39.segs y6 cc1)) rfl rfl rfl ⟨_,_,rfl,rfl,c7⟩ fun a S CL=>h_run' S rfl ⟨_,_,rfl,rfl,c7⟩ (bindX h8 fun t22 et22 h9=>s_callK S (fe_.ok k et22) N21 rfl .pre (fun _=> .n) rfl fun ch21 m le1 a w S=>?_)
             replace le:=le.trans le1
             refine h_back ⟨fun h=>(nomatch h),?_⟩
             refine h_run' S rfl tv (s_pick S (b:=true) (hc_of rfl c7) rfl rfl fun a S=>?_)
             refine h_back ⟨fun h=>(nomatch h),?_⟩
             refine h_run' S rfl tv (s_as1 S rfl fun a S=>?_)
             refine h_back ⟨fun h=>(nomatch h),?_⟩
             refine h_done ?_; clear CL hw le
             refine x_thenN ?_
             exact j6 _ t22 a w (S.sub ⟨rfl,tv⟩ .nil) h9
            ·refine h_sk2 S CL rfl (ne_bool c7) fun a S CL=>h_skipRt S rfl rfl rfl (ne_bool c7) rfl fun a S=>?_
             refine h_back ⟨fun h=>(nomatch h),?_⟩
             refine h_run' S rfl tv (s_pick S (b:=false) (hc_of rfl c7) rfl rfl fun a S=>?_)
             refine h_back ⟨fun h=>(nomatch h),?_⟩
             refine h_run' S rfl tv (s_as1 S rfl fun a S=>?_)
             refine h_back ⟨fun h=>(nomatch h),?_⟩
             refine h_done ?_; clear CL hw le
             refine x_thenN ?_
             exact j6 _ false a w (S.sub ⟨rfl,tv⟩ .nil) h8
           ·refine h_sk1 S CL rfl (ne_bool c6) fun a S CL=>h_pick S CL hw le (subR rfl) (b:=false) (hc_of rfl c6) rfl rfl rfl tv fun a S CL=>h_mv1 S CL hw le rfl tv fun a S CL=>h_skip S CL rfl rfl rfl (ne_bool rfl) rfl fun a S CL=>h_skip S CL rfl rfl rfl (ne_bool rfl) rfl fun a S CL=>h_skipRt S rfl rfl rfl (ne_bool rfl) rfl fun a S=>?_
            refine h_back ⟨fun h=>(nomatch h),?_⟩
            refine h_run' S rfl tv (s_pick S (b:=false) (hc_of rfl rfl) rfl rfl fun a S=>?_)
            refine h_back ⟨fun h=>(nomatch h),?_⟩
            refine h_run' S rfl tv (s_as1 S rfl fun a S=>?_)
            refine h_back ⟨fun h=>(nomatch h),?_⟩
            refine h_done ?_; clear CL hw le
            refine x_thenN ?_
            exact j6 _ false a w (S.sub ⟨rfl,tv⟩ .nil) h7
          ·refine h_sk4 S CL rfl (ne_bool c5) fun a S CL=>h_skipRt S rfl rfl rfl (ne_bool c5) rfl fun a S=>CL.bk hw S (.c10 (.c10 (.c10 (.c10 .n)))) le fun hw=>?_
           replace CL:=CL.add (t:=144) (d:= .u) S rfl rfl
           refine h_sk1 S CL rfl (ne_bool c5) fun a S CL=>h_pick S CL hw le (subR rfl) (b:=false) (hc_of rfl c5) rfl rfl rfl tv fun a S CL=>h_mv1 S CL hw le rfl tv fun a S CL=>h_skip S CL rfl rfl rfl (ne_bool rfl) rfl fun a S CL=>h_pick S CL hw le (subR rfl) (b:=false) (hc_of rfl rfl) rfl rfl rfl tv fun a S CL=>h_mv1 S CL hw le rfl tv fun a S CL=>h_skip S CL rfl rfl rfl (ne_bool rfl) rfl fun a S CL=>h_skip S CL rfl rfl rfl (ne_bool rfl) rfl fun a S CL=>h_skipRt S rfl rfl rfl (ne_bool rfl) rfl fun a S=>?_
           refine h_back ⟨fun h=>(nomatch h),?_⟩
           refine h_run' S rfl tv (s_pick S (b:=false) (hc_of rfl rfl) rfl rfl fun a S=>?_)
           refine h_back ⟨fun h=>(nomatch h),?_⟩
           refine h_run' S rfl tv (s_as1 S rfl fun a S=>?_)
           refine h_back ⟨fun h=>(nomatch h),?_⟩
           refine h_done ?_; clear CL hw le
           refine x_thenN ?_
           exact j6 _ false a w (S.sub ⟨rfl,tv⟩ .nil) h5
         refine h_runO S rfl ⟨_,_,rfl,rfl,c4⟩ ?_ ?_
         ·refine s_bldSl S (ty':=Y51) (ds:=[(0,(.agg (Y51.segs x4 ((),(ch_3_0,ch_3_1),(ch_3_2,ch_3_3)))))]) (z:=(z20,([]:List (List Int)),([]:List Int))) (c0:=((),(none,0),(none,0))) (ys:=[x4]) (cs:=[((),(ch_3_0,ch_3_1),(ch_3_2,ch_3_3))]) rfl underlying56 J51 Z51 rfl ⟨rfl,⟨Nat.le_refl _,Nat.zero_le _,RdS.nil _ _ _,RdS.mono _ _ _⟩,⟨Nat.le_refl _,Nat.zero_le _,RdS.nil _ _ _,RdS.mono _ _ _⟩,tv⟩ rfl rfl rfl rfl rfl rfl fun g43 a w S=>CL.bk hw S (.c9 (.c9 (.c9 (.c9 .n)))) le fun hw=>h_run' S rfl ⟨_,_,rfl,rfl,c4⟩ (s_callK S (fd4_.ok k (ch_0:=(ch3.1,ch3.2.1,ch3.e3,ch17.e4,ch17.e5,ch17.e6,ch17.e7,ch17.e8,ch17.e9,ch17.e10,ch17.e11,ch17.e12,ch17.e13,ch17.e14,ch17.e15,ch17.t15)) et19) N17 rfl (.sk .pre) (fun _=> .c10) rfl fun ch18 m le1 a w S=>?_)
          replace le:=le.trans le1
          refine CL.bk hw S (.c11 (.c11 (.c11 (.c11 .n)))) le fun hw=>h_run' S rfl ⟨_,_,rfl,rfl,c4⟩ ?_
          replace S:=S.rowfro .h10
          obtain ⟨m,le1,S,hro⟩:=S
          replace le:=le.trans le1
          replace S:=S.slotro (u:=137) rfl hro
          refine s_callL S (ds':=[(.s ch18.1 ch18.2.1 ch18.e3),(.q Y51 (ad g43) 1 [x4])]) (ds:=[(.q Y51 ch18.1 ch18.e3 t19),(.q Y51 (ad g43) 1 [x4])]) (fun (ch:Unit)=>((.b t20):D)) (fun _ _ _ h=>h) (by obtain ⟨mm,g1,gZ,g2,g3⟩:=S.zlend .h1 .h; exact ⟨mm,g1,g2,fun ok=>⟨⟨by have:=g3.2.1; omega,g3.2.right,g3.1.1,RdS.mono _ _ _⟩,ok.2.1,tv⟩⟩) N19 rfl (congrArg (fun z=>[Value.slice ch18.1 z ch18.e3,D.val (.q Y51 (ad g43) 1 [x4])]) (S.holds _ (Pull.mem .h).1).1.symm) rfl (fun _=>fb7_.ok k et20) fun ch19 a w S=>CL.bk hw S (.c10 (.c10 (.c10 (.c10 .n)))) le fun hw=>?_
          replace CL:=CL.add (t:=138) (d:=(.b t20)) S rfl rfl
          refine h_pick S CL hw le (subR rfl) (b:=true) (hc_of rfl c4) rfl rfl rfl tv fun a S CL=>h_mv1 S CL hw le rfl tv fun a S CL=>?_
          rcases ite_of h4 with ⟨c5,h5⟩ | ⟨c5,h5⟩
          ·refine h_mv1 S CL hw le rfl ⟨_,_,rfl,rfl,c5⟩ fun a S CL=>h_loada S CL hw le (subR rfl) rfl .h3 T31 (s':=[.b20 x2]) rfl rfl rfl ⟨_,_,rfl,rfl,c5⟩ fun a S CL=>h_build S CL hw le (subR rfl) (ds:=[(0,(.w 1))]) (dv:=(.a4 [1,0,0,0])) rfl (fun _=>by kernel_rfl) ⟨rfl,tv⟩ rfl rfl ⟨_,_,rfl,rfl,c5⟩ fun a S CL=>h_build S CL hw le (subR rfl) (ds:=[(0,(.w 9))]) (dv:=(.a4 [9,0,0,0])) rfl (fun _=>by kernel_rfl) ⟨rfl,tv⟩ rfl rfl ⟨_,_,rfl,rfl,c5⟩ fun a S CL=>h_run' S rfl ⟨_,_,rfl,rfl,c5⟩ (bindX h5 fun t21 et21 h6=>s_callK S (fd7_.ok k (ch_0:=(ch3.1,ch3.2.1,ch3.e3,ch17.e4,ch17.e5,ch17.e6,ch17.e7,ch17.e8,ch17.e9,ch17.e10,ch17.e11,ch17.e12,ch17.e13,ch17.e14,ch17.e15,ch17.t15)) et21) N20 rfl (.sk (.sk .pre)) (fun _=> .c8) rfl fun ch20 m le1 a w S=>?_)
           replace le:=le.trans le1
           refine CL.bk hw S (.c10 (.c10 (.c10 (.c10 .n)))) le fun hw=>?_
           replace CL:=CL.add (t:=144) (d:=(.a4 t21.1)) S rfl rfl
           refine h_eqa S CL hw le (subR rfl) rfl rfl underlying35 underlying32 T32 Q35 rfl rfl ⟨_,_,rfl,rfl,c5⟩ fun a S CL=>h_pick S CL hw le (subR rfl) (b:=true) (hc_of rfl c5) rfl rfl rfl tv fun a S CL=>h_mv1 S CL hw le rfl tv fun a S CL=>?_
           rcases ite_of h6 with ⟨c6,h7⟩ | ⟨c6,h7⟩
           ·refine h_mv1 S CL hw le rfl ⟨_,_,rfl,rfl,c6⟩ fun a S CL=>h_pick S CL hw le (subR rfl) (b:=true) (hc_of rfl c6) rfl rfl rfl tv fun a S CL=>h_mv1 S CL hw le rfl tv fun a S CL=>?_
            rcases ite_of h7 with ⟨c7,h8⟩ | ⟨c7,h8⟩
            ·refine h_loada S CL hw le (subR rfl) rfl .h1 T39 (s':=(Y39.segs t11.1 ((),(),(),(A6,cp8),(A7,cp9)))) rfl rfl rfl ⟨_,_,rfl,rfl,c7⟩ fun a S CL=>h_loada S CL hw le (subR rfl) rfl .h T39 (s':=(Y39.segs y6 cc1)) rfl rfl rfl ⟨_,_,rfl,rfl,c7⟩ fun a S CL=>h_run' S rfl ⟨_,_,rfl,rfl,c7⟩ (bindX h8 fun t22 et22 h9=>s_callK S (fe_.ok k et22) N21 rfl .pre (fun _=> .n) rfl fun ch21 m le1 a w S=>?_)
             replace le:=le.trans le1
             refine h_back ⟨fun h=>(nomatch h),?_⟩
             refine h_run' S rfl tv (s_pick S (b:=true) (hc_of rfl c7) rfl rfl fun a S=>?_)
             refine h_back ⟨fun h=>(nomatch h),?_⟩
             refine h_run' S rfl tv (s_as1 S rfl fun a S=>?_)
             refine h_back ⟨fun h=>(nomatch h),?_⟩
             refine h_done ?_; clear CL hw le
             refine x_thenN ?_
             exact j6 _ t22 a w (S.sub ⟨rfl,tv⟩ .nil) h9
            ·refine h_sk2 S CL rfl (ne_bool c7) fun a S CL=>h_skipRt S rfl rfl rfl (ne_bool c7) rfl fun a S=>?_
             refine h_back ⟨fun h=>(nomatch h),?_⟩
             refine h_run' S rfl tv (s_pick S (b:=false) (hc_of rfl c7) rfl rfl fun a S=>?_)
             refine h_back ⟨fun h=>(nomatch h),?_⟩
             refine h_run' S rfl tv (s_as1 S rfl fun a S=>?_)
             refine h_back ⟨fun h=>(nomatch h),?_⟩
             refine h_done ?_; clear CL hw le
             refine x_thenN ?_
             exact j6 _ false a w (S.sub ⟨rfl,tv⟩ .nil) h8
           ·refine h_sk1 S CL rfl (ne_bool c6) fun a S CL=>h_pick S CL hw le (subR rfl) (b:=false) (hc_of rfl c6) rfl rfl rfl tv fun a S CL=>h_mv1 S CL hw le rfl tv fun a S CL=>h_skip S CL rfl rfl rfl (ne_bool rfl) rfl fun a S CL=>h_skip S CL rfl rfl rfl (ne_bool rfl) rfl fun a S CL=>h_skipRt S rfl rfl rfl (ne_bool rfl) rfl fun a S=>?_
            refine h_back ⟨fun h=>(nomatch h),?_⟩
            refine h_run' S rfl tv (s_pick S (b:=false) (hc_of rfl rfl) rfl rfl fun a S=>?_)
            refine h_back ⟨fun h=>(nomatch h),?_⟩
            refine h_run' S rfl tv (s_as1 S rfl fun a S=>?_)
            refine h_back ⟨fun h=>(nomatch h),?_⟩
            refine h_done ?_; clear CL hw le
            refine x_thenN ?_
            exact j6 _ false a w (S.sub ⟨rfl,tv⟩ .nil) h7
          ·refine h_sk4 S CL rfl (ne_bool c5) fun a S CL=>h_skipRt S rfl rfl rfl (ne_bool c5) rfl fun a S=>CL.bk hw S (.c10 (.c10 (.c10 (.c10 .n)))) le fun hw=>?_
           replace CL:=CL.add (t:=144) (d:= .u) S rfl rfl
           refine h_sk1 S CL rfl (ne_bool c5) fun a S CL=>h_pick S CL hw le (subR rfl) (b:=false) (hc_of rfl c5) rfl rfl rfl tv fun a S CL=>h_mv1 S CL hw le rfl tv fun a S CL=>h_skip S CL rfl rfl rfl (ne_bool rfl) rfl fun a S CL=>h_pick S CL hw le (subR rfl) (b:=false) (hc_of rfl rfl) rfl rfl rfl tv fun a S CL=>h_mv1 S CL hw le rfl tv fun a S CL=>h_skip S CL rfl rfl rfl (ne_bool rfl) rfl fun a S CL=>h_skip S CL rfl rfl rfl (ne_bool rfl) rfl fun a S CL=>h_skipRt S rfl rfl rfl (ne_bool rfl) rfl fun a S=>?_
           refine h_back ⟨fun h=>(nomatch h),?_⟩
           refine h_run' S rfl tv (s_pick S (b:=false) (hc_of rfl rfl) rfl rfl fun a S=>?_)
           refine h_back ⟨fun h=>(nomatch h),?_⟩
           refine h_run' S rfl tv (s_as1 S rfl fun a S=>?_)
           refine h_back ⟨fun h=>(nomatch h),?_⟩
           refine h_done ?_; clear CL hw le
           refine x_thenN ?_
           exact j6 _ false a w (S.sub ⟨rfl,tv⟩ .nil) h5
         exact h_nil
        ·refine h_sk2 S CL rfl (ne_bool c4) fun a S CL=>h_alts ?_
         refine h_skipOt S rfl rfl rfl (ne_bool c4) rfl ?_ ?_
         ·clear S a; intro a S
          refine CL.bk hw S (.c8 (.c8 (.c8 (.c8 .n)))) le fun hw=>h_skipRt S rfl rfl rfl (ne_bool c4) rfl fun a S=>CL.bk hw S (.c8 (.c8 (.c8 (.c8 .n)))) le fun hw=>h_skipRt S rfl rfl rfl (ne_bool c4) rfl fun a S=>CL.bk hw S (.c8 (.c8 (.c8 (.c8 .n)))) le fun hw=>?_
          replace CL:=CL.add (t:=138) (d:= .u) S rfl rfl
          refine h_pick S CL hw le (subR rfl) (b:=false) (hc_of rfl c4) rfl rfl rfl tv fun a S CL=>h_mv1 S CL hw le rfl tv fun a S CL=>h_skip S CL rfl rfl rfl (ne_bool rfl) rfl fun a S CL=>h_skip S CL rfl rfl rfl (ne_bool rfl) rfl fun a S CL=>h_skip S CL rfl rfl rfl (ne_bool rfl) rfl fun a S CL=>h_skip S CL rfl rfl rfl (ne_bool rfl) rfl fun a S CL=>h_skipRt S rfl rfl rfl (ne_bool rfl) rfl fun a S=>CL.bk hw S (.c8 (.c8 (.c8 (.c8 .n)))) le fun hw=>?_
          replace CL:=CL.add (t:=144) (d:= .u) S rfl rfl
          refine h_skip S CL rfl rfl rfl (ne_bool rfl) rfl fun a S CL=>h_pick S CL hw le (subR rfl) (b:=false) (hc_of rfl rfl) rfl rfl rfl tv fun a S CL=>h_mv1 S CL hw le rfl tv fun a S CL=>h_skip S CL rfl rfl rfl (ne_bool rfl) rfl fun a S CL=>h_pick S CL hw le (subR rfl) (b:=false) (hc_of rfl rfl) rfl rfl rfl tv fun a S CL=>h_mv1 S CL hw le rfl tv fun a S CL=>h_skip S CL rfl rfl rfl (ne_bool rfl) rfl fun a S CL=>h_skip S CL rfl rfl rfl (ne_bool rfl) rfl fun a S CL=>h_skipRt S rfl rfl rfl (ne_bool rfl) rfl fun a S=>?_
          refine h_back ⟨fun h=>(nomatch h),?_⟩
          refine h_run' S rfl tv (s_pick S (b:=false) (hc_of rfl rfl) rfl rfl fun a S=>?_)
          refine h_back ⟨fun h=>(nomatch h),?_⟩
          refine h_run' S rfl tv (s_as1 S rfl fun a S=>?_)
          refine h_back ⟨fun h=>(nomatch h),?_⟩
          refine h_done ?_; clear CL hw le
          refine x_thenN ?_
          exact j6 _ false a w (S.sub ⟨rfl,tv⟩ .nil) h2
         refine h_skipOt S rfl rfl rfl (ne_bool c4) rfl ?_ ?_
         ·clear S a; intro a S
          refine CL.bk hw S (.c8 (.c8 (.c8 (.c8 .n)))) le fun hw=>h_skipRt S rfl rfl rfl (ne_bool c4) rfl fun a S=>CL.bk hw S (.c8 (.c8 (.c8 (.c8 .n)))) le fun hw=>h_skipRt S rfl rfl rfl (ne_bool c4) rfl fun a S=>CL.bk hw S (.c8 (.c8 (.c8 (.c8 .n)))) le fun hw=>?_
          replace CL:=CL.add (t:=138) (d:= .u) S rfl rfl
          refine h_pick S CL hw le (subR rfl) (b:=false) (hc_of rfl c4) rfl rfl rfl tv fun a S CL=>h_mv1 S CL hw le rfl tv fun a S CL=>h_skip S CL rfl rfl rfl (ne_bool rfl) rfl fun a S CL=>h_skip S CL rfl rfl rfl (ne_bool rfl) rfl fun a S CL=>h_skip S CL rfl rfl rfl (ne_bool rfl) rfl fun a S CL=>h_skip S CL rfl rfl rfl (ne_bool rfl) rfl fun a S CL=>h_skipRt S rfl rfl rfl (ne_bool rfl) rfl fun a S=>CL.bk hw S (.c8 (.c8 (.c8 (.c8 .n)))) le fun hw=>?_
          replace CL:=CL.add (t:=144) (d:= .u) S rfl rfl
          refine h_skip S CL rfl rfl rfl (ne_bool rfl) rfl fun a S CL=>h_pick S CL hw le (subR rfl) (b:=false) (hc_of rfl rfl) rfl rfl rfl tv fun a S CL=>h_mv1 S CL hw le rfl tv fun a S CL=>h_skip S CL rfl rfl rfl (ne_bool rfl) rfl fun a S CL=>h_pick S CL hw le (subR rfl) (b:=false) (hc_of rfl rfl) rfl rfl rfl tv fun a S CL=>h_mv1 S CL hw le rfl tv fun a S CL=>h_skip S CL rfl rfl rfl (ne_bool rfl) rfl fun a S CL=>h_skip S CL rfl rfl rfl (ne_bool rfl) rfl fun a S CL=>h_skipRt S rfl rfl rfl (ne_bool rfl) rfl fun a S=>?_
          refine h_back ⟨fun h=>(nomatch h),?_⟩
          refine h_run' S rfl tv (s_pick S (b:=false) (hc_of rfl rfl) rfl rfl fun a S=>?_)
          refine h_back ⟨fun h=>(nomatch h),?_⟩
          refine h_run' S rfl tv (s_as1 S rfl fun a S=>?_)
          refine h_back ⟨fun h=>(nomatch h),?_⟩
          refine h_done ?_; clear CL hw le
          refine x_thenN ?_
          exact j6 _ false a w (S.sub ⟨rfl,tv⟩ .nil) h2
         exact h_nil
       refine c_region (s_mv1 S rfl fun a S=>s_not S rfl rfl fun a S=>c_end ?_)
       rcases ite_of h2 with ⟨c8,h3⟩ | ⟨c8,h3⟩
       ·refine c_condT S rfl c8 (c_region' (s_loada S rfl .h11 T31 (s':=[.b20 x2]) rfl rfl fun a S=>s_bldS S (ds:=[(0,(.agg [.b20 x2]))]) (zs:=[.b20 z20, .w 0, .w4 [0,0,0,0], .s none 0 0, .s none 0 0]) (s':=[.b20 x2, .w 0, .w4 [0,0,0,0], .s none 0 0, .s none 0 0]) rfl underlying39 P39 Z39 ⟨rfl,rfl,rfl,rfl,rfl,tv⟩ rfl rfl fun a S=>s_store S rfl rfl rfl (s':=[.b20 x2, .w 0, .w4 [0,0,0,0], .s none 0 0, .s none 0 0]) .h T39 rfl rfl fun w S=>c_end' (x_thenN ?_)))
        replace S:=S.cellN 3 yb .h rfl
        replace S:=S.cellN 4 Y82 .h rfl
        exact j5 _ g37 g36 g34 g35 (x2,0,[0,0,0,0],([]:List Int),([]:List ((List Int)×(List Int)))) ((),(),(),(none,0),(none,0)) ch11.1 ch11.2.1 ch11.e3 ch11.t3 a w (S.sb rfl (.c0 (.c0 (.c0 (.c0 (.c0 (.c0 (.c0 (.c0 (.c0 (.c0 (.c0 (.c0 .n))))))))))))) h3
       ·refine c_condF S rfl c8 (wp_skip (x_thenN ?_))
        exact j5 _ g37 g36 g34 g35 t12.1 ((),(),(),(ch12.1,ch12.2.1),ch12.t2) ch11.1 ch11.2.1 ch11.e3 ch11.t3 a w (S.sb rfl (.c0 (.c0 (.c0 (.c0 (.c0 (.c0 (.c0 (.c0 (.c0 (.c0 (.c0 (.c0 .n))))))))))))) h3
      refine c_region (s_mv1 S rfl fun a S=>bindX h0 fun t23 et23 h1=>s_callK S (fc2_.ok k (ch_0:=(ch3.1,ch3.2.1,ch3.e3,ch8.e4,ch8.e5,ch8.e6,ch8.e7,ch8.e8,ch8.e9,ch8.e10,ch8.e11,ch8.e12,ch8.e13,ch8.e14,ch8.e15,ch8.t15)) et23) N18 rfl .pre (fun _=> .c10) rfl fun ch22 m le1 a w S=>s_lenO S rfl .h underlying22 rfl fun a S=>s_mv1 S rfl fun a S=>c_end (wp_block ?_))
      replace S:=S.zjunk .h1
      refine c_loop (fun q1 a w=>∃ m y9 g52 g53,St 156 m b0 [(101,(.i y9)),(100,(.i ((t23).length:Int))),(99,(.s ch22.1 ch22.2.1 ch22.e3)),(10,(.v (.pointer (some ⟨ch3.1,0,none⟩)))),(9,(.rf (.iface 68 (.agg (cellsOf [.q Y39 A3 cp5 t2]).toArray)) (IfR [.q Y39 A3 cp5 t2]))),(7,(.p g52)),(5,(.p g53)),(0,(.q Y39 ch_0_0 ch_0_1 x1)),(2,(.q yb ch_2_0 ch_2_1 x3))] ([Res.row (Ty.atZ ch22.t3 Y39) 39 ch22.1 ch22.2.1 ch22.e3 t23,Res.junk ch22.t3]++MS1 (t3.1,t8.e3,t3.e3,t8.e5,t8.e6,t8.t6) (ch3.1,ch3.2.1,ch3.e3,ch8.e4,ch8.e5,ch8.e6,ch8.e7,ch8.e8,ch8.e9,ch8.e10,ch8.e11,ch8.e12,ch8.e13,ch8.e14,ch8.e15,ch8.t15)++[Res.cells g52 51 (Y51.segs x4 ((),(ch_3_0,ch_3_1),(ch_3_2,ch_3_3))),Res.cells g53 31 [.b20 x2]]) a w∧fb5_.l1 k x1 x2 x3 x4 t2 t3 t8 t23 q1 y9=some r) ?_ ?_ (k:=k) ⟨_,0,g22,g23,(S.sb rfl (.c0 (.c0 (.c0 (.c0 (.c0 (.c0 (.c0 (.c0 (.c0 (.c0 (.c0 (.c0 .n))))))))))))),h1⟩
      ·rintro a w ⟨m,y9,g52,g53,S,h0⟩
       exact (nomatch (show (none:Option Bool)=some r from h0))
      ·clear S h1
       rintro q1 a w ⟨m,y9,g52,g53,S,h0⟩
       replace h0:fb5_.b1 k x1 x2 x3 x4 t2 t3 t8 t23 (fb5_.l1 k x1 x2 x3 x4 t2 t3 t8 t23 q1) y9=some r:=h0
       delta fb5_.b1 at h0
       refine c_region (s_bi S rfl fun a S=>c_end (wp_seq ?_))
       rcases ite_of h0 with ⟨c9,h1⟩ | ⟨c9,h1⟩
       ·refine c_condT S rfl c9 (wp_skip (x_thenN (wp_seq (wp_block (c_region ?_)))))
        obtain ⟨c10,h2⟩:=chk_of h1; clear h1
        refine s_iaddrO S (ty':=(Ty.atZ ch22.t3 Y39)) rfl .h rfl underlying22 T39 c10.1 c10.2 rfl fun g54 a hA1 S=>s_ldRA S (ty':=(Ty.atZ ch22.t3 Y39)) (i:=y9) (off:=0) (fun c=>((Ty.atZ ch22.t3 Y39).segs (gt t23 y9) c)) rfl hA1 .h T39 c10.1 c10.2 rfl (fun _=>rfl) rfl fun ch25 a S=>?_
        refine s_alloc S Z39 rfl ⟨rfl,rfl,rfl,rfl,rfl,tv⟩ rfl fun g55 a w S=>s_store S rfl rfl rfl (s':=((Ty.atZ ch22.t3 Y39).segs (gt t23 y9) ch25)) .h T39 rfl rfl fun w S=>c_end (c_region (s_fieldAddr S rfl I39_3 T36 (by decide) rfl rfl fun a S=>s_loadSl S rfl .h T36 (A:=ch25.e4.1) (len:=((gt t23 y9).e4).length) (cap:=ch25.e4.2) rfl rfl fun a S=>s_clearZn S rfl rfl .h2 underlying36 Z5 rfl rfl (by decide) fun w S=>c_end (c_region' (s_fieldAddr S rfl I39_4 T37 (by decide) rfl rfl fun a S=>s_loadSl S rfl .h T37 (A:=ch25.e5) (len:=((gt t23 y9).t4).length) (cap:=ch25.t5) rfl rfl fun a S=>s_clearZn S rfl rfl .h2 underlying37 Z82 rfl rfl (by decide) fun w S=>c_end' (x_blockN (x_thenN (c_region' (s_bi S rfl fun a S=>s_mv1 S rfl fun a S=>c_end' (x_thenN ?_)))))))))
        exact ⟨_,(wr .i64 (y9+1)),g52,g53,(S.sb rfl (.c1 (.c1 (.c1 (.c1 (.c1 (.c1 (.c1 (.c1 (.c1 (.c1 (.c1 (.c1 .n))))))))))))),h2⟩
       ·refine c_condF S rfl c9 (wp_exit (x_thenX (x_thenX (x_blockX (x_thenN ?_)))))
        exact j4 _ g52 g53 a w (S.sb rfl (.c2 (.c2 (.c2 (.c2 (.c2 (.c2 (.c2 (.c2 (.c2 (.c2 .n))))))))))) h1
     refine c_region (s_mv1 S rfl fun a S=>bindX h4 fun t24 et24 h5=>s_callK S (fd4_.ok k (ch_0:=(ch3.1,ch3.2.1,ch3.e3,ch8.e4,ch8.e5,ch8.e6,ch8.e7,ch8.e8,ch8.e9,ch8.e10,ch8.e11,ch8.e12,ch8.e13,ch8.e14,ch8.e15,ch8.t15)) et24) N17 rfl (.sk .pre) (fun _=> .c10) rfl fun ch26 m le1 a w S=>s_lenO S rfl .h underlying56 rfl fun a S=>s_mv1 S rfl fun a S=>c_end (wp_block ?_))
     replace S:=S.zjunk .h1
     refine c_loop (fun q2 a w=>∃ m y11 g64 g65,St 156 m b0 [(89,(.i y11)),(88,(.i ((t24).length:Int))),(87,(.s ch26.1 ch26.2.1 ch26.e3)),(10,(.v (.pointer (some ⟨ch3.1,0,none⟩)))),(9,(.rf (.iface 68 (.agg (cellsOf [.q Y39 A3 cp5 t2]).toArray)) (IfR [.q Y39 A3 cp5 t2]))),(7,(.p g64)),(5,(.p g65)),(0,(.q Y39 ch_0_0 ch_0_1 x1)),(2,(.q yb ch_2_0 ch_2_1 x3))] ([Res.row (Ty.atZ ch26.t3 Y51) 51 ch26.1 ch26.2.1 ch26.e3 t24,Res.junk ch26.t3]++MS1 (t3.1,t8.e3,t3.e3,t8.e5,t8.e6,t8.t6) (ch3.1,ch3.2.1,ch3.e3,ch8.e4,ch8.e5,ch8.e6,ch8.e7,ch8.e8,ch8.e9,ch8.e10,ch8.e11,ch8.e12,ch8.e13,ch8.e14,ch8.e15,ch8.t15)++[Res.cells g64 51 (Y51.segs x4 ((),(ch_3_0,ch_3_1),(ch_3_2,ch_3_3))),Res.cells g65 31 [.b20 x2]]) a w∧fb5_.l2 k x1 x2 x3 x4 t2 t3 t8 t24 q2 y11=some r) ?_ ?_ (k:=k) ⟨_,0,g10,g11,(S.sb rfl (.c0 (.c0 (.c0 (.c0 (.c0 (.c0 (.c0 (.c0 (.c0 (.c0 (.c5 (.c5 .n))))))))))))),h5⟩
     ·rintro a w ⟨m,y11,g64,g65,S,h0⟩
      exact (nomatch (show (none:Option Bool)=some r from h0))
     ·clear S h5
      rintro q2 a w ⟨m,y11,g64,g65,S,h0⟩
      replace h0:fb5_.b2 k x1 x2 x3 x4 t2 t3 t8 t24 (fb5_.l2 k x1 x2 x3 x4 t2 t3 t8 t24 q2) y11=some r:=h0
      delta fb5_.b2 at h0
      refine c_region (s_bi S rfl fun a S=>c_end (wp_seq ?_))
      rcases ite_of h0 with ⟨c11,h1⟩ | ⟨c11,h1⟩
      ·refine c_condT S rfl c11 (wp_skip (x_thenN (wp_seq (wp_block (c_region ?_)))))
       obtain ⟨c12,h2⟩:=chk_of h1; clear h1
       refine s_iaddrO S (ty':=(Ty.atZ ch26.t3 Y51)) rfl .h rfl underlying56 T51 c12.1 c12.2 rfl fun g66 a hA2 S=>s_ldRA S (ty':=(Ty.atZ ch26.t3 Y51)) (i:=y11) (off:=0) (fun c=>((Ty.atZ ch26.t3 Y51).segs (gt t24 y11) c)) rfl hA2 .h T51 c12.1 c12.2 rfl (fun _=>rfl) rfl fun ch29 a S=>?_
       refine s_alloc S Z51 rfl ⟨rfl,rfl,rfl,tv⟩ rfl fun g67 a w S=>s_store S rfl rfl rfl (s':=((Ty.atZ ch26.t3 Y51).segs (gt t24 y11) ch29)) .h T51 rfl rfl fun w S=>c_end (c_region (s_fieldAddr S rfl I51_1 T49 (by decide) rfl rfl fun a S=>s_loadSl S rfl .h T49 (A:=ch29.2.1.1) (len:=((gt t24 y11).2.1).length) (cap:=ch29.2.1.2) rfl rfl fun a S=>s_clearZn S rfl rfl .h2 underlying49 Z35 rfl rfl (by decide) fun w S=>c_end (c_region' (s_fieldAddr S rfl I51_2 T36 (by decide) rfl rfl fun a S=>s_loadSl S rfl .h T36 (A:=ch29.e3) (len:=((gt t24 y11).t2).length) (cap:=ch29.t3) rfl rfl fun a S=>s_clearZn S rfl rfl .h2 underlying36 Z5 rfl rfl (by decide) fun w S=>c_end' (x_blockN (x_thenN (c_region' (s_bi S rfl fun a S=>s_mv1 S rfl fun a S=>c_end' (x_thenN ?_)))))))))
       exact ⟨_,(wr .i64 (y11+1)),g64,g65,(S.sb rfl (.c1 (.c1 (.c1 (.c1 (.c1 (.c1 (.c1 (.c1 (.c1 (.c1 (.c1 (.c1 .n))))))))))))),h2⟩
      ·refine c_condF S rfl c11 (wp_exit (x_thenX (x_thenX (x_blockX (x_thenN ?_)))))
       exact j3 _ g64 g65 a w (S.sb rfl (.c2 (.c2 (.c2 (.c2 (.c2 (.c2 (.c2 (.c2 (.c2 (.c2 .n))))))))))) h1
    refine c_heldS S (.take 0 (.take 1 (.take 3 (.take 4 (.take 7 (.take 8 (.alts (.run 2 true (.alts (.run 5 true (.alts (.run 6 true (.alts (.run 9 true (.take 10 (.alts (.run 11 true (.alts (.run 12 false .done .nil)) .nil))) (.run 11 true (.alts (.run 9 true (.take 10 (.alts (.run 12 false .done .nil))) .nil)) .nil))) (.run 11 true (.alts (.run 6 true (.alts (.run 9 true (.take 10 (.alts (.run 12 false .done .nil))) .nil)) .nil)) .nil))) (.run 6 true (.alts (.run 5 true (.alts (.run 9 true (.take 10 (.alts (.run 11 true (.alts (.run 12 false .done .nil)) .nil))) (.run 11 true (.alts (.run 9 true (.take 10 (.alts (.run 12 false .done .nil))) .nil)) .nil))) (.run 11 true (.alts (.run 5 true (.alts (.run 9 true (.take 10 (.alts (.run 12 false .done .nil))) .nil)) .nil)) .nil))) (.run 11 true (.alts (.run 5 true (.alts (.run 6 true (.alts (.run 9 true (.take 10 (.alts (.run 12 false .done .nil))) .nil)) .nil)) (.run 6 true (.alts (.run 5 true (.alts (.run 9 true (.take 10 (.alts (.run 12 false .done .nil))) .nil)) .nil)) .nil))) .nil)))) (.run 6 true (.alts (.run 2 true (.alts (.run 5 true (.alts (.run 9 true (.take 10 (.alts (.run 11 true (.alts (.run 12 false .done .nil)) .nil))) (.run 11 true (.alts (.run 9 true (.take 10 (.alts (.run 12 false .done .nil))) .nil)) .nil))) (.run 11 true (.alts (.run 5 true (.alts (.run 9 true (.take 10 (.alts (.run 12 false .done .nil))) .nil)) .nil)) .nil))) (.run 11 true (.alts (.run 2 true (.alts (.run 5 true (.alts (.run 9 true (.take 10 (.alts (.run 12 false .done .nil))) .nil)) .nil)) .nil)) .nil))) (.run 11 true (.alts (.run 2 true (.alts (.run 5 true (.alts (.run 6 true (.alts (.run 9 true (.take 10 (.alts (.run 12 false .done .nil))) .nil)) .nil)) (.run 6 true (.alts (.run 5 true (.alts (.run 9 true (.take 10 (.alts (.run 12 false .done .nil))) .nil)) .nil)) .nil))) (.run 6 true (.alts (.run 2 true (.alts (.run 5 true (.alts (.run 9 true (.take 10 (.alts (.run 12 false .done .nil))) .nil)) .nil)) .nil)) .nil))) .nil)))))))))) 12 [Res.cells g3 51 (Y51.segs x4 ((),(ch_3_0,ch_3_1),(ch_3_2,ch_3_3)))] (.c9 .n) ⟨Res.stay_cells,tv⟩ [(7,(.p g3))] ⟨rfl,tv⟩ (by kernel_rfl) (by kernel_rfl) fun w S CL hw le=>?_
    refine h_fieldAddr S CL hw le ⟨rfl,tv⟩ rfl I51_0 T31 (by decide) rfl rfl rfl tv fun a S CL=>h_loada S CL hw le (subR rfl) rfl .h T31 (s':=[.b20 x4.1]) rfl rfl rfl tv fun a S CL=>h_fieldAddr S CL hw le (subR rfl) rfl I51_1 T49 (by decide) rfl rfl rfl tv fun a S CL=>h_loadSl S CL hw le (subR rfl) rfl .h T49 (A:=ch_3_0) (len:=(x4.2.1).length) (cap:=ch_3_1) rfl rfl rfl tv fun a S CL=>h_fieldAddr S CL hw le (subR rfl) rfl I51_2 T36 (by decide) rfl rfl rfl tv fun a S CL=>h_loadSl S CL hw le (subR rfl) rfl .h T36 (A:=ch_3_2) (len:=(x4.t2).length) (cap:=ch_3_3) rfl rfl rfl tv fun a S CL=>?_
    obtain ⟨c13,h7⟩:=chk_of h6; clear h6
    obtain ⟨c14,h8⟩:=chk_of h7; clear h7
    refine h_alts ?_
    refine h_runO S rfl tv ?_ ?_
    ·refine s_bldSl S (ty':=(Ty.arr .u64 4)) (ds:=[]) (z:=[0,0,0,0]) (c0:=()) (ys:=([]:List (List Int))) (cs:=[]) rfl underlying49 J35 Z35 rfl ⟨rfl,tv⟩ rfl rfl rfl rfl rfl rfl fun g68 a w S=>CL.bk hw S (.c10 .n) le fun hw=>h_alts ?_
     refine h_runO S rfl tv ?_ ?_
     ·refine s_app S (k2:=((x4.2.1).length)) (ys:=x4.2.1) rfl (fun _ _=> .h) rfl rfl rfl (RdS.src (S.get 59 (.q (Ty.arr .u64 4) ch_3_0 ch_3_1 x4.2.1) rfl).2.2.2.1 (by decide) S.frz) underlying49 J35 c13 rfl fun A8 cp10 a w S=>CL.bk hw S (.c10 .n) le fun hw=>?_
      replace CL:=CL.add (t:=60) (d:=(.s A8 (0+((x4.2.1).length)) cp10)) S rfl rfl
      refine h_alts ?_
      refine h_runO S rfl tv ?_ ?_
      ·refine s_bldSl S (ty':=yb) (ds:=[]) (z:=0) (c0:=()) (ys:=([]:List Int)) (cs:=[]) rfl underlying36 J5 Z5 rfl ⟨rfl,tv⟩ rfl rfl rfl rfl rfl rfl fun g69 a w S=>CL.bk hw S (.c11 .n) le fun hw=>h_alts ?_
       refine h_runO S rfl tv ?_ ?_
       ·refine s_app S (k2:=((x4.t2).length)) (ys:=x4.t2) rfl (fun _ _=> .h) rfl rfl rfl (RdS.src (S.get 63 (.q yb ch_3_2 ch_3_3 x4.t2) rfl).2.2.2.1 (by decide) S.frz) underlying36 J5 c14 rfl fun A9 cp11 a w S=>CL.bk hw S (.c11 .n) le fun hw=>?_
        replace CL:=CL.add (t:=64) (d:=(.s A9 (0+((x4.t2).length)) cp11)) S rfl rfl
        refine h_bldS S CL hw le (subR rfl) (ds:=[(0,(.agg [.b20 x4.1])),(1,(.s A8 (0+((x4.2.1).length)) cp10)),(2,(.s A9 (0+((x4.t2).length)) cp11))]) (zs:=[.b20 z20, .s none 0 0, .s none 0 0]) (s':=[.b20 x4.1, .s A8 (0+((x4.2.1).length)) cp10, .s A9 (0+((x4.t2).length)) cp11]) rfl underlying51 P51 Z51 ⟨rfl,rfl,rfl,tv⟩ rfl rfl rfl tv fun a S CL=>h_run' S rfl tv (s_alloc S Z51 rfl ⟨rfl,rfl,rfl,tv⟩ rfl fun g70 a w S=>CL.bk hw S (.c12 .n) le fun hw=>h_run' S rfl tv (s_store S rfl rfl rfl (s':=[.b20 x4.1, .s A8 (0+((x4.2.1).length)) cp10, .s A9 (0+((x4.t2).length)) cp11]) .h T51 rfl rfl fun w S=>?_))
        refine h_back ⟨fun h=>(nomatch h),?_⟩
        refine h_done ?_; clear CL hw le
        refine x_thenN ?_
        exact j2 _ g70 A1 cp1 ch2.1 ch2.2 g3 g4 A8 cp10 A9 cp11 a w (S.sb rfl (.c0 (.c0 (.c0 (.c0 (.c0 (.c0 (.c0 (.c0 (.c0 (.c0 (.c0 (.c0 (.c0 (.c0 .n))))))))))))))) h8
       refine h_runO S rfl tv ?_ ?_
       ·refine s_alloc S Z51 rfl ⟨rfl,rfl,rfl,tv⟩ rfl fun g70 a w S=>CL.bk hw S (.c12 .n) le fun hw=>h_run' S rfl tv (s_app S (k2:=((x4.t2).length)) (ys:=x4.t2) rfl (fun _ _=> .h1) rfl rfl rfl (RdS.src (S.get 63 (.q yb ch_3_2 ch_3_3 x4.t2) rfl).2.2.2.1 (by decide) S.frz) underlying36 J5 c14 rfl fun A9 cp11 a w S=>CL.bk hw S (.c12 .n) le fun hw=>?_)
        replace CL:=CL.add (t:=64) (d:=(.s A9 (0+((x4.t2).length)) cp11)) S rfl rfl
        refine h_bldS S CL hw le (subR rfl) (ds:=[(0,(.agg [.b20 x4.1])),(1,(.s A8 (0+((x4.2.1).length)) cp10)),(2,(.s A9 (0+((x4.t2).length)) cp11))]) (zs:=[.b20 z20, .s none 0 0, .s none 0 0]) (s':=[.b20 x4.1, .s A8 (0+((x4.2.1).length)) cp10, .s A9 (0+((x4.t2).length)) cp11]) rfl underlying51 P51 Z51 ⟨rfl,rfl,rfl,tv⟩ rfl rfl rfl tv fun a S CL=>h_run' S rfl tv (s_store S rfl rfl rfl (s':=[.b20 x4.1, .s A8 (0+((x4.2.1).length)) cp10, .s A9 (0+((x4.t2).length)) cp11]) .h T51 rfl rfl fun w S=>?_)
        refine h_back ⟨fun h=>(nomatch h),?_⟩
        refine h_done ?_; clear CL hw le
        refine x_thenN ?_
        exact j2 _ g70 A1 cp1 ch2.1 ch2.2 g3 g4 A8 cp10 A9 cp11 a w (S.sb rfl (.c0 (.c0 (.c0 (.c0 (.c0 (.c0 (.c0 (.c0 (.c0 (.c0 (.c0 (.c0 (.c0 (.c0 .n))))))))))))))) h8
       exact h_nil
      refine h_runO S rfl tv ?_ ?_
      ·refine s_alloc S Z51 rfl ⟨rfl,rfl,rfl,tv⟩ rfl fun g69 a w S=>CL.bk hw S (.c11 .n) le fun hw=>h_run' S rfl tv (s_bldSl S (ty':=yb) (ds:=[]) (z:=0) (c0:=()) (ys:=([]:List Int)) (cs:=[]) rfl underlying36 J5 Z5 rfl ⟨rfl,tv⟩ rfl rfl rfl rfl rfl rfl fun g70 a w S=>CL.bk hw S (.c12 .n) le fun hw=>h_run' S rfl tv (s_app S (k2:=((x4.t2).length)) (ys:=x4.t2) rfl (fun _ _=> .h) rfl rfl rfl (RdS.src (S.get 63 (.q yb ch_3_2 ch_3_3 x4.t2) rfl).2.2.2.1 (by decide) S.frz) underlying36 J5 c14 rfl fun A9 cp11 a w S=>CL.bk hw S (.c12 .n) le fun hw=>?_))
       replace CL:=CL.add (t:=64) (d:=(.s A9 (0+((x4.t2).length)) cp11)) S rfl rfl
       refine h_bldS S CL hw le (subR rfl) (ds:=[(0,(.agg [.b20 x4.1])),(1,(.s A8 (0+((x4.2.1).length)) cp10)),(2,(.s A9 (0+((x4.t2).length)) cp11))]) (zs:=[.b20 z20, .s none 0 0, .s none 0 0]) (s':=[.b20 x4.1, .s A8 (0+((x4.2.1).length)) cp10, .s A9 (0+((x4.t2).length)) cp11]) rfl underlying51 P51 Z51 ⟨rfl,rfl,rfl,tv⟩ rfl rfl rfl tv fun a S CL=>h_run' S rfl tv (s_store S rfl rfl rfl (s':=[.b20 x4.1, .s A8 (0+((x4.2.1).length)) cp10, .s A9 (0+((x4.t2).length)) cp11]) .h1 T51 rfl rfl fun w S=>?_)
       refine h_back ⟨fun h=>(nomatch h),?_⟩
       refine h_done ?_; clear CL hw le
       refine x_thenN ?_
       exact j2 _ g69 A1 cp1 ch2.1 ch2.2 g3 g4 A8 cp10 A9 cp11 a w (S.sb rfl (.c1 (.c0 (.c0 (.c0 (.c0 (.c0 (.c0 (.c0 (.c0 (.c0 (.c0 (.c0 (.c0 (.c0 .n))))))))))))))) h8
      exact h_nil
     refine h_runO S rfl tv ?_ ?_
     ·refine s_bldSl S (ty':=yb) (ds:=[]) (z:=0) (c0:=()) (ys:=([]:List Int)) (cs:=[]) rfl underlying36 J5 Z5 rfl ⟨rfl,tv⟩ rfl rfl rfl rfl rfl rfl fun g69 a w S=>CL.bk hw S (.c11 .n) le fun hw=>h_alts ?_
      refine h_runO S rfl tv ?_ ?_
      ·refine s_app S (k2:=((x4.2.1).length)) (ys:=x4.2.1) rfl (fun _ _=> .h1) rfl rfl rfl (RdS.src (S.get 59 (.q (Ty.arr .u64 4) ch_3_0 ch_3_1 x4.2.1) rfl).2.2.2.1 (by decide) S.frz) underlying49 J35 c13 rfl fun A8 cp10 a w S=>CL.bk hw S (.c11 .n) le fun hw=>?_
       replace CL:=CL.add (t:=60) (d:=(.s A8 (0+((x4.2.1).length)) cp10)) S rfl rfl
       refine h_alts ?_
       refine h_runO S rfl tv ?_ ?_
       ·refine s_app S (k2:=((x4.t2).length)) (ys:=x4.t2) rfl (fun _ _=> .h) rfl rfl rfl (RdS.src (S.get 63 (.q yb ch_3_2 ch_3_3 x4.t2) rfl).2.2.2.1 (by decide) S.frz) underlying36 J5 c14 rfl fun A9 cp11 a w S=>CL.bk hw S (.c11 .n) le fun hw=>?_
        replace CL:=CL.add (t:=64) (d:=(.s A9 (0+((x4.t2).length)) cp11)) S rfl rfl
        refine h_bldS S CL hw le (subR rfl) (ds:=[(0,(.agg [.b20 x4.1])),(1,(.s A8 (0+((x4.2.1).length)) cp10)),(2,(.s A9 (0+((x4.t2).length)) cp11))]) (zs:=[.b20 z20, .s none 0 0, .s none 0 0]) (s':=[.b20 x4.1, .s A8 (0+((x4.2.1).length)) cp10, .s A9 (0+((x4.t2).length)) cp11]) rfl underlying51 P51 Z51 ⟨rfl,rfl,rfl,tv⟩ rfl rfl rfl tv fun a S CL=>h_run' S rfl tv (s_alloc S Z51 rfl ⟨rfl,rfl,rfl,tv⟩ rfl fun g70 a w S=>CL.bk hw S (.c12 .n) le fun hw=>h_run' S rfl tv (s_store S rfl rfl rfl (s':=[.b20 x4.1, .s A8 (0+((x4.2.1).length)) cp10, .s A9 (0+((x4.t2).length)) cp11]) .h T51 rfl rfl fun w S=>?_))
        refine h_back ⟨fun h=>(nomatch h),?_⟩
        refine h_done ?_; clear CL hw le
        refine x_thenN ?_
        exact j2 _ g70 A1 cp1 ch2.1 ch2.2 g3 g4 A8 cp10 A9 cp11 a w (S.sb rfl (.c0 (.c0 (.c0 (.c0 (.c0 (.c0 (.c0 (.c0 (.c0 (.c0 (.c0 (.c0 (.c0 (.c0 .n))))))))))))))) h8
       refine h_runO S rfl tv ?_ ?_
       ·refine s_alloc S Z51 rfl ⟨rfl,rfl,rfl,tv⟩ rfl fun g70 a w S=>CL.bk hw S (.c12 .n) le fun hw=>h_run' S rfl tv (s_app S (k2:=((x4.t2).length)) (ys:=x4.t2) rfl (fun _ _=> .h1) rfl rfl rfl (RdS.src (S.get 63 (.q yb ch_3_2 ch_3_3 x4.t2) rfl).2.2.2.1 (by decide) S.frz) underlying36 J5 c14 rfl fun A9 cp11 a w S=>CL.bk hw S (.c12 .n) le fun hw=>?_)
        replace CL:=CL.add (t:=64) (d:=(.s A9 (0+((x4.t2).length)) cp11)) S rfl rfl
        refine h_bldS S CL hw le (subR rfl) (ds:=[(0,(.agg [.b20 x4.1])),(1,(.s A8 (0+((x4.2.1).length)) cp10)),(2,(.s A9 (0+((x4.t2).length)) cp11))]) (zs:=[.b20 z20, .s none 0 0, .s none 0 0]) (s':=[.b20 x4.1, .s A8 (0+((x4.2.1).length)) cp10, .s A9 (0+((x4.t2).length)) cp11]) rfl underlying51 P51 Z51 ⟨rfl,rfl,rfl,tv⟩ rfl rfl rfl tv fun a S CL=>h_run' S rfl tv (s_store S rfl rfl rfl (s':=[.b20 x4.1, .s A8 (0+((x4.2.1).length)) cp10, .s A9 (0+((x4.t2).length)) cp11]) .h T51 rfl rfl fun w S=>?_)
        refine h_back ⟨fun h=>(nomatch h),?_⟩
        refine h_done ?_; clear CL hw le
        refine x_thenN ?_
        exact j2 _ g70 A1 cp1 ch2.1 ch2.2 g3 g4 A8 cp10 A9 cp11 a w (S.sb rfl (.c0 (.c0 (.c0 (.c0 (.c0 (.c0 (.c0 (.c0 (.c0 (.c0 (.c0 (.c0 (.c0 (.c0 .n))))))))))))))) h8
       exact h_nil
      refine h_runO S rfl tv ?_ ?_
      ·refine s_alloc S Z51 rfl ⟨rfl,rfl,rfl,tv⟩ rfl fun g70 a w S=>CL.bk hw S (.c12 .n) le fun hw=>h_run' S rfl tv (s_app S (k2:=((x4.2.1).length)) (ys:=x4.2.1) rfl (fun _ _=> .h2) rfl rfl rfl (RdS.src (S.get 59 (.q (Ty.arr .u64 4) ch_3_0 ch_3_1 x4.2.1) rfl).2.2.2.1 (by decide) S.frz) underlying49 J35 c13 rfl fun A8 cp10 a w S=>CL.bk hw S (.c12 .n) le fun hw=>?_)
       replace CL:=CL.add (t:=60) (d:=(.s A8 (0+((x4.2.1).length)) cp10)) S rfl rfl
       refine h_run' S rfl tv (s_app S (k2:=((x4.t2).length)) (ys:=x4.t2) rfl (fun _ _=> .h1) rfl rfl rfl (RdS.src (S.get 63 (.q yb ch_3_2 ch_3_3 x4.t2) rfl).2.2.2.1 (by decide) S.frz) underlying36 J5 c14 rfl fun A9 cp11 a w S=>CL.bk hw S (.c12 .n) le fun hw=>?_)
       replace CL:=CL.add (t:=64) (d:=(.s A9 (0+((x4.t2).length)) cp11)) S rfl rfl
       refine h_bldS S CL hw le (subR rfl) (ds:=[(0,(.agg [.b20 x4.1])),(1,(.s A8 (0+((x4.2.1).length)) cp10)),(2,(.s A9 (0+((x4.t2).length)) cp11))]) (zs:=[.b20 z20, .s none 0 0, .s none 0 0]) (s':=[.b20 x4.1, .s A8 (0+((x4.2.1).length)) cp10, .s A9 (0+((x4.t2).length)) cp11]) rfl underlying51 P51 Z51 ⟨rfl,rfl,rfl,tv⟩ rfl rfl rfl tv fun a S CL=>h_run' S rfl tv (s_store S rfl rfl rfl (s':=[.b20 x4.1, .s A8 (0+((x4.2.1).length)) cp10, .s A9 (0+((x4.t2).length)) cp11]) .h T51 rfl rfl fun w S=>?_)
       refine h_back ⟨fun h=>(nomatch h),?_⟩
       refine h_done ?_; clear CL hw le
       refine x_thenN ?_
       exact j2 _ g70 A1 cp1 ch2.1 ch2.2 g3 g4 A8 cp10 A9 cp11 a w (S.sb rfl (.c0 (.c0 (.c0 (.c0 (.c0 (.c0 (.c0 (.c0 (.c0 (.c0 (.c0 (.c0 (.c0 (.c0 .n))))))))))))))) h8
      exact h_nil
     refine h_runO S rfl tv ?_ ?_
     ·refine s_alloc S Z51 rfl ⟨rfl,rfl,rfl,tv⟩ rfl fun g69 a w S=>CL.bk hw S (.c11 .n) le fun hw=>h_alts ?_
      refine h_runO S rfl tv ?_ ?_
      ·refine s_app S (k2:=((x4.2.1).length)) (ys:=x4.2.1) rfl (fun _ _=> .h1) rfl rfl rfl (RdS.src (S.get 59 (.q (Ty.arr .u64 4) ch_3_0 ch_3_1 x4.2.1) rfl).2.2.2.1 (by decide) S.frz) underlying49 J35 c13 rfl fun A8 cp10 a w S=>CL.bk hw S (.c11 .n) le fun hw=>?_
       replace CL:=CL.add (t:=60) (d:=(.s A8 (0+((x4.2.1).length)) cp10)) S rfl rfl
       refine h_run' S rfl tv (s_bldSl S (ty':=yb) (ds:=[]) (z:=0) (c0:=()) (ys:=([]:List Int)) (cs:=[]) rfl underlying36 J5 Z5 rfl ⟨rfl,tv⟩ rfl rfl rfl rfl rfl rfl fun g70 a w S=>CL.bk hw S (.c12 .n) le fun hw=>h_run' S rfl tv (s_app S (k2:=((x4.t2).length)) (ys:=x4.t2) rfl (fun _ _=> .h) rfl rfl rfl (RdS.src (S.get 63 (.q yb ch_3_2 ch_3_3 x4.t2) rfl).2.2.2.1 (by decide) S.frz) underlying36 J5 c14 rfl fun A9 cp11 a w S=>CL.bk hw S (.c12 .n) le fun hw=>?_))
       replace CL:=CL.add (t:=64) (d:=(.s A9 (0+((x4.t2).length)) cp11)) S rfl rfl
       refine h_bldS S CL hw le (subR rfl) (ds:=[(0,(.agg [.b20 x4.1])),(1,(.s A8 (0+((x4.2.1).length)) cp10)),(2,(.s A9 (0+((x4.t2).length)) cp11))]) (zs:=[.b20 z20, .s none 0 0, .s none 0 0]) (s':=[.b20 x4.1, .s A8 (0+((x4.2.1).length)) cp10, .s A9 (0+((x4.t2).length)) cp11]) rfl underlying51 P51 Z51 ⟨rfl,rfl,rfl,tv⟩ rfl rfl rfl tv fun a S CL=>h_run' S rfl tv (s_store S rfl rfl rfl (s':=[.b20 x4.1, .s A8 (0+((x4.2.1).length)) cp10, .s A9 (0+((x4.t2).length)) cp11]) .h1 T51 rfl rfl fun w S=>?_)
       refine h_back ⟨fun h=>(nomatch h),?_⟩
       refine h_done ?_; clear CL hw le
       refine x_thenN ?_
       exact j2 _ g69 A1 cp1 ch2.1 ch2.2 g3 g4 A8 cp10 A9 cp11 a w (S.sb rfl (.c1 (.c0 (.c0 (.c0 (.c0 (.c0 (.c0 (.c0 (.c0 (.c0 (.c0 (.c0 (.c0 (.c0 .n))))))))))))))) h8
      refine h_runO S rfl tv ?_ ?_
      ·refine s_bldSl S (ty':=yb) (ds:=[]) (z:=0) (c0:=()) (ys:=([]:List Int)) (cs:=[]) rfl underlying36 J5 Z5 rfl ⟨rfl,tv⟩ rfl rfl rfl rfl rfl rfl fun g70 a w S=>CL.bk hw S (.c12 .n) le fun hw=>h_run' S rfl tv (s_app S (k2:=((x4.2.1).length)) (ys:=x4.2.1) rfl (fun _ _=> .h2) rfl rfl rfl (RdS.src (S.get 59 (.q (Ty.arr .u64 4) ch_3_0 ch_3_1 x4.2.1) rfl).2.2.2.1 (by decide) S.frz) underlying49 J35 c13 rfl fun A8 cp10 a w S=>CL.bk hw S (.c12 .n) le fun hw=>?_)
       replace CL:=CL.add (t:=60) (d:=(.s A8 (0+((x4.2.1).length)) cp10)) S rfl rfl
       refine h_run' S rfl tv (s_app S (k2:=((x4.t2).length)) (ys:=x4.t2) rfl (fun _ _=> .h) rfl rfl rfl (RdS.src (S.get 63 (.q yb ch_3_2 ch_3_3 x4.t2) rfl).2.2.2.1 (by decide) S.frz) underlying36 J5 c14 rfl fun A9 cp11 a w S=>CL.bk hw S (.c12 .n) le fun hw=>?_)
       replace CL:=CL.add (t:=64) (d:=(.s A9 (0+((x4.t2).length)) cp11)) S rfl rfl
       refine h_bldS S CL hw le (subR rfl) (ds:=[(0,(.agg [.b20 x4.1])),(1,(.s A8 (0+((x4.2.1).length)) cp10)),(2,(.s A9 (0+((x4.t2).length)) cp11))]) (zs:=[.b20 z20, .s none 0 0, .s none 0 0]) (s':=[.b20 x4.1, .s A8 (0+((x4.2.1).length)) cp10, .s A9 (0+((x4.t2).length)) cp11]) rfl underlying51 P51 Z51 ⟨rfl,rfl,rfl,tv⟩ rfl rfl rfl tv fun a S CL=>h_run' S rfl tv (s_store S rfl rfl rfl (s':=[.b20 x4.1, .s A8 (0+((x4.2.1).length)) cp10, .s A9 (0+((x4.t2).length)) cp11]) .h1 T51 rfl rfl fun w S=>?_)
       refine h_back ⟨fun h=>(nomatch h),?_⟩
       refine h_done ?_; clear CL hw le
       refine x_thenN ?_
       exact j2 _ g69 A1 cp1 ch2.1 ch2.2 g3 g4 A8 cp10 A9 cp11 a w (S.sb rfl (.c1 (.c0 (.c0 (.c0 (.c0 (.c0 (.c0 (.c0 (.c0 (.c0 (.c0 (.c0 (.c0 (.c0 .n))))))))))))))) h8
      exact h_nil
     exact h_nil
    refine h_runO S rfl tv ?_ ?_
    ·refine s_bldSl S (ty':=yb) (ds:=[]) (z:=0) (c0:=()) (ys:=([]:List Int)) (cs:=[]) rfl underlying36 J5 Z5 rfl ⟨rfl,tv⟩ rfl rfl rfl rfl rfl rfl fun g68 a w S=>CL.bk hw S (.c10 .n) le fun hw=>h_alts ?_
     refine h_runO S rfl tv ?_ ?_
     ·refine s_bldSl S (ty':=(Ty.arr .u64 4)) (ds:=[]) (z:=[0,0,0,0]) (c0:=()) (ys:=([]:List (List Int))) (cs:=[]) rfl underlying49 J35 Z35 rfl ⟨rfl,tv⟩ rfl rfl rfl rfl rfl rfl fun g69 a w S=>CL.bk hw S (.c11 .n) le fun hw=>h_alts ?_
      refine h_runO S rfl tv ?_ ?_
      ·refine s_app S (k2:=((x4.2.1).length)) (ys:=x4.2.1) rfl (fun _ _=> .h) rfl rfl rfl (RdS.src (S.get 59 (.q (Ty.arr .u64 4) ch_3_0 ch_3_1 x4.2.1) rfl).2.2.2.1 (by decide) S.frz) underlying49 J35 c13 rfl fun A8 cp10 a w S=>CL.bk hw S (.c11 .n) le fun hw=>?_
       replace CL:=CL.add (t:=60) (d:=(.s A8 (0+((x4.2.1).length)) cp10)) S rfl rfl
       refine h_alts ?_
       refine h_runO S rfl tv ?_ ?_
       ·refine s_app S (k2:=((x4.t2).length)) (ys:=x4.t2) rfl (fun _ _=> .h1) rfl rfl rfl (RdS.src (S.get 63 (.q yb ch_3_2 ch_3_3 x4.t2) rfl).2.2.2.1 (by decide) S.frz) underlying36 J5 c14 rfl fun A9 cp11 a w S=>CL.bk hw S (.c11 .n) le fun hw=>?_
        replace CL:=CL.add (t:=64) (d:=(.s A9 (0+((x4.t2).length)) cp11)) S rfl rfl
        refine h_bldS S CL hw le (subR rfl) (ds:=[(0,(.agg [.b20 x4.1])),(1,(.s A8 (0+((x4.2.1).length)) cp10)),(2,(.s A9 (0+((x4.t2).length)) cp11))]) (zs:=[.b20 z20, .s none 0 0, .s none 0 0]) (s':=[.b20 x4.1, .s A8 (0+((x4.2.1).length)) cp10, .s A9 (0+((x4.t2).length)) cp11]) rfl underlying51 P51 Z51 ⟨rfl,rfl,rfl,tv⟩ rfl rfl rfl tv fun a S CL=>h_run' S rfl tv (s_alloc S Z51 rfl ⟨rfl,rfl,rfl,tv⟩ rfl fun g70 a w S=>CL.bk hw S (.c12 .n) le fun hw=>h_run' S rfl tv (s_store S rfl rfl rfl (s':=[.b20 x4.1, .s A8 (0+((x4.2.1).length)) cp10, .s A9 (0+((x4.t2).length)) cp11]) .h T51 rfl rfl fun w S=>?_))
        refine h_back ⟨fun h=>(nomatch h),?_⟩
        refine h_done ?_; clear CL hw le
        refine x_thenN ?_
        exact j2 _ g70 A1 cp1 ch2.1 ch2.2 g3 g4 A8 cp10 A9 cp11 a w (S.sb rfl (.c0 (.c1 (.c0 (.c0 (.c0 (.c0 (.c0 (.c0 (.c0 (.c0 (.c0 (.c0 (.c0 (.c0 .n))))))))))))))) h8
       refine h_runO S rfl tv ?_ ?_
       ·refine s_alloc S Z51 rfl ⟨rfl,rfl,rfl,tv⟩ rfl fun g70 a w S=>CL.bk hw S (.c12 .n) le fun hw=>h_run' S rfl tv (s_app S (k2:=((x4.t2).length)) (ys:=x4.t2) rfl (fun _ _=> .h2) rfl rfl rfl (RdS.src (S.get 63 (.q yb ch_3_2 ch_3_3 x4.t2) rfl).2.2.2.1 (by decide) S.frz) underlying36 J5 c14 rfl fun A9 cp11 a w S=>CL.bk hw S (.c12 .n) le fun hw=>?_)
        replace CL:=CL.add (t:=64) (d:=(.s A9 (0+((x4.t2).length)) cp11)) S rfl rfl
        refine h_bldS S CL hw le (subR rfl) (ds:=[(0,(.agg [.b20 x4.1])),(1,(.s A8 (0+((x4.2.1).length)) cp10)),(2,(.s A9 (0+((x4.t2).length)) cp11))]) (zs:=[.b20 z20, .s none 0 0, .s none 0 0]) (s':=[.b20 x4.1, .s A8 (0+((x4.2.1).length)) cp10, .s A9 (0+((x4.t2).length)) cp11]) rfl underlying51 P51 Z51 ⟨rfl,rfl,rfl,tv⟩ rfl rfl rfl tv fun a S CL=>h_run' S rfl tv (s_store S rfl rfl rfl (s':=[.b20 x4.1, .s A8 (0+((x4.2.1).length)) cp10, .s A9 (0+((x4.t2).length)) cp11]) .h T51 rfl rfl fun w S=>?_)
        refine h_back ⟨fun h=>(nomatch h),?_⟩
        refine h_done ?_; clear CL hw le
        refine x_thenN ?_
        exact j2 _ g70 A1 cp1 ch2.1 ch2.2 g3 g4 A8 cp10 A9 cp11 a w (S.sb rfl (.c0 (.c1 (.c0 (.c0 (.c0 (.c0 (.c0 (.c0 (.c0 (.c0 (.c0 (.c0 (.c0 (.c0 .n))))))))))))))) h8
       exact h_nil
      refine h_runO S rfl tv ?_ ?_
      ·refine s_alloc S Z51 rfl ⟨rfl,rfl,rfl,tv⟩ rfl fun g70 a w S=>CL.bk hw S (.c12 .n) le fun hw=>h_run' S rfl tv (s_app S (k2:=((x4.2.1).length)) (ys:=x4.2.1) rfl (fun _ _=> .h1) rfl rfl rfl (RdS.src (S.get 59 (.q (Ty.arr .u64 4) ch_3_0 ch_3_1 x4.2.1) rfl).2.2.2.1 (by decide) S.frz) underlying49 J35 c13 rfl fun A8 cp10 a w S=>CL.bk hw S (.c12 .n) le fun hw=>?_)
       replace CL:=CL.add (t:=60) (d:=(.s A8 (0+((x4.2.1).length)) cp10)) S rfl rfl
       refine h_run' S rfl tv (s_app S (k2:=((x4.t2).length)) (ys:=x4.t2) rfl (fun _ _=> .h2) rfl rfl rfl (RdS.src (S.get 63 (.q yb ch_3_2 ch_3_3 x4.t2) rfl).2.2.2.1 (by decide) S.frz) underlying36 J5 c14 rfl fun A9 cp11 a w S=>CL.bk hw S (.c12 .n) le fun hw=>?_)
       replace CL:=CL.add (t:=64) (d:=(.s A9 (0+((x4.t2).length)) cp11)) S rfl rfl
       refine h_bldS S CL hw le (subR rfl) (ds:=[(0,(.agg [.b20 x4.1])),(1,(.s A8 (0+((x4.2.1).length)) cp10)),(2,(.s A9 (0+((x4.t2).length)) cp11))]) (zs:=[.b20 z20, .s none 0 0, .s none 0 0]) (s':=[.b20 x4.1, .s A8 (0+((x4.2.1).length)) cp10, .s A9 (0+((x4.t2).length)) cp11]) rfl underlying51 P51 Z51 ⟨rfl,rfl,rfl,tv⟩ rfl rfl rfl tv fun a S CL=>h_run' S rfl tv (s_store S rfl rfl rfl (s':=[.b20 x4.1, .s A8 (0+((x4.2.1).length)) cp10, .s A9 (0+((x4.t2).length)) cp11]) .h T51 rfl rfl fun w S=>?_)
       refine h_back ⟨fun h=>(nomatch h),?_⟩
       refine h_done ?_; clear CL hw le
       refine x_thenN ?_
       exact j2 _ g70 A1 cp1 ch2.1 ch2.2 g3 g4 A8 cp10 A9 cp11 a w (S.sb rfl (.c0 (.c1 (.c0 (.c0 (.c0 (.c0 (.c0 (.c0 (.c0 (.c0 (.c0 (.c0 (.c0 (.c0 .n))))))))))))))) h8
      exact h_nil
     refine h_runO S rfl tv ?_ ?_
     ·refine s_alloc S Z51 rfl ⟨rfl,rfl,rfl,tv⟩ rfl fun g69 a w S=>CL.bk hw S (.c11 .n) le fun hw=>h_run' S rfl tv (s_bldSl S (ty':=(Ty.arr .u64 4)) (ds:=[]) (z:=[0,0,0,0]) (c0:=()) (ys:=([]:List (List Int))) (cs:=[]) rfl underlying49 J35 Z35 rfl ⟨rfl,tv⟩ rfl rfl rfl rfl rfl rfl fun g70 a w S=>CL.bk hw S (.c12 .n) le fun hw=>h_run' S rfl tv (s_app S (k2:=((x4.2.1).length)) (ys:=x4.2.1) rfl (fun _ _=> .h) rfl rfl rfl (RdS.src (S.get 59 (.q (Ty.arr .u64 4) ch_3_0 ch_3_1 x4.2.1) rfl).2.2.2.1 (by decide) S.frz) underlying49 J35 c13 rfl fun A8 cp10 a w S=>CL.bk hw S (.c12 .n) le fun hw=>?_))
      replace CL:=CL.add (t:=60) (d:=(.s A8 (0+((x4.2.1).length)) cp10)) S rfl rfl
      refine h_run' S rfl tv (s_app S (k2:=((x4.t2).length)) (ys:=x4.t2) rfl (fun _ _=> .h2) rfl rfl rfl (RdS.src (S.get 63 (.q yb ch_3_2 ch_3_3 x4.t2) rfl).2.2.2.1 (by decide) S.frz) underlying36 J5 c14 rfl fun A9 cp11 a w S=>CL.bk hw S (.c12 .n) le fun hw=>?_)
      replace CL:=CL.add (t:=64) (d:=(.s A9 (0+((x4.t2).length)) cp11)) S rfl rfl
      refine h_bldS S CL hw le (subR rfl) (ds:=[(0,(.agg [.b20 x4.1])),(1,(.s A8 (0+((x4.2.1).length)) cp10)),(2,(.s A9 (0+((x4.t2).length)) cp11))]) (zs:=[.b20 z20, .s none 0 0, .s none 0 0]) (s':=[.b20 x4.1, .s A8 (0+((x4.2.1).length)) cp10, .s A9 (0+((x4.t2).length)) cp11]) rfl underlying51 P51 Z51 ⟨rfl,rfl,rfl,tv⟩ rfl rfl rfl tv fun a S CL=>h_run' S rfl tv (s_store S rfl rfl rfl (s':=[.b20 x4.1, .s A8 (0+((x4.2.1).length)) cp10, .s A9 (0+((x4.t2).length)) cp11]) .h1 T51 rfl rfl fun w S=>?_)
      refine h_back ⟨fun h=>(nomatch h),?_⟩
      refine h_done ?_; clear CL hw le
      refine x_thenN ?_
      exact j2 _ g69 A1 cp1 ch2.1 ch2.2 g3 g4 A8 cp10 A9 cp11 a w (S.sb rfl (.c1 (.c1 (.c0 (.c0 (.c0 (.c0 (.c0 (.c0 (.c0 (.c0 (.c0 (.c0 (.c0 (.c0 .n))))))))))))))) h8
     exact h_nil
    refine h_runO S rfl tv ?_ ?_
    ·refine s_alloc S Z51 rfl ⟨rfl,rfl,rfl,tv⟩ rfl fun g68 a w S=>CL.bk hw S (.c10 .n) le fun hw=>h_alts ?_
     refine h_runO S rfl tv ?_ ?_
     ·refine s_bldSl S (ty':=(Ty.arr .u64 4)) (ds:=[]) (z:=[0,0,0,0]) (c0:=()) (ys:=([]:List (List Int))) (cs:=[]) rfl underlying49 J35 Z35 rfl ⟨rfl,tv⟩ rfl rfl rfl rfl rfl rfl fun g69 a w S=>CL.bk hw S (.c11 .n) le fun hw=>h_alts ?_
      refine h_runO S rfl tv ?_ ?_
      ·refine s_app S (k2:=((x4.2.1).length)) (ys:=x4.2.1) rfl (fun _ _=> .h) rfl rfl rfl (RdS.src (S.get 59 (.q (Ty.arr .u64 4) ch_3_0 ch_3_1 x4.2.1) rfl).2.2.2.1 (by decide) S.frz) underlying49 J35 c13 rfl fun A8 cp10 a w S=>CL.bk hw S (.c11 .n) le fun hw=>?_
       replace CL:=CL.add (t:=60) (d:=(.s A8 (0+((x4.2.1).length)) cp10)) S rfl rfl
       refine h_run' S rfl tv (s_bldSl S (ty':=yb) (ds:=[]) (z:=0) (c0:=()) (ys:=([]:List Int)) (cs:=[]) rfl underlying36 J5 Z5 rfl ⟨rfl,tv⟩ rfl rfl rfl rfl rfl rfl fun g70 a w S=>CL.bk hw S (.c12 .n) le fun hw=>h_run' S rfl tv (s_app S (k2:=((x4.t2).length)) (ys:=x4.t2) rfl (fun _ _=> .h) rfl rfl rfl (RdS.src (S.get 63 (.q yb ch_3_2 ch_3_3 x4.t2) rfl).2.2.2.1 (by decide) S.frz) underlying36 J5 c14 rfl fun A9 cp11 a w S=>CL.bk hw S (.c12 .n) le fun hw=>?_))
       replace CL:=CL.add (t:=64) (d:=(.s A9 (0+((x4.t2).length)) cp11)) S rfl rfl
       refine h_bldS S CL hw le (subR rfl) (ds:=[(0,(.agg [.b20 x4.1])),(1,(.s A8 (0+((x4.2.1).length)) cp10)),(2,(.s A9 (0+((x4.t2).length)) cp11))]) (zs:=[.b20 z20, .s none 0 0, .s none 0 0]) (s':=[.b20 x4.1, .s A8 (0+((x4.2.1).length)) cp10, .s A9 (0+((x4.t2).length)) cp11]) rfl underlying51 P51 Z51 ⟨rfl,rfl,rfl,tv⟩ rfl rfl rfl tv fun a S CL=>h_run' S rfl tv (s_store S rfl rfl rfl (s':=[.b20 x4.1, .s A8 (0+((x4.2.1).length)) cp10, .s A9 (0+((x4.t2).length)) cp11]) .h2 T51 rfl rfl fun w S=>?_)
       refine h_back ⟨fun h=>(nomatch h),?_⟩
       refine h_done ?_; clear CL hw le
       refine x_thenN ?_
       exact j2 _ g68 A1 cp1 ch2.1 ch2.2 g3 g4 A8 cp10 A9 cp11 a w (S.sb rfl (.c2 (.c0 (.c0 (.c0 (.c0 (.c0 (.c0 (.c0 (.c0 (.c0 (.c0 (.c0 (.c0 (.c0 .n))))))))))))))) h8
      refine h_runO S rfl tv ?_ ?_
      ·refine s_bldSl S (ty':=yb) (ds:=[]) (z:=0) (c0:=()) (ys:=([]:List Int)) (cs:=[]) rfl underlying36 J5 Z5 rfl ⟨rfl,tv⟩ rfl rfl rfl rfl rfl rfl fun g70 a w S=>CL.bk hw S (.c12 .n) le fun hw=>h_run' S rfl tv (s_app S (k2:=((x4.2.1).length)) (ys:=x4.2.1) rfl (fun _ _=> .h1) rfl rfl rfl (RdS.src (S.get 59 (.q (Ty.arr .u64 4) ch_3_0 ch_3_1 x4.2.1) rfl).2.2.2.1 (by decide) S.frz) underlying49 J35 c13 rfl fun A8 cp10 a w S=>CL.bk hw S (.c12 .n) le fun hw=>?_)
       replace CL:=CL.add (t:=60) (d:=(.s A8 (0+((x4.2.1).length)) cp10)) S rfl rfl
       refine h_run' S rfl tv (s_app S (k2:=((x4.t2).length)) (ys:=x4.t2) rfl (fun _ _=> .h) rfl rfl rfl (RdS.src (S.get 63 (.q yb ch_3_2 ch_3_3 x4.t2) rfl).2.2.2.1 (by decide) S.frz) underlying36 J5 c14 rfl fun A9 cp11 a w S=>CL.bk hw S (.c12 .n) le fun hw=>?_)
       replace CL:=CL.add (t:=64) (d:=(.s A9 (0+((x4.t2).length)) cp11)) S rfl rfl
       refine h_bldS S CL hw le (subR rfl) (ds:=[(0,(.agg [.b20 x4.1])),(1,(.s A8 (0+((x4.2.1).length)) cp10)),(2,(.s A9 (0+((x4.t2).length)) cp11))]) (zs:=[.b20 z20, .s none 0 0, .s none 0 0]) (s':=[.b20 x4.1, .s A8 (0+((x4.2.1).length)) cp10, .s A9 (0+((x4.t2).length)) cp11]) rfl underlying51 P51 Z51 ⟨rfl,rfl,rfl,tv⟩ rfl rfl rfl tv fun a S CL=>h_run' S rfl tv (s_store S rfl rfl rfl (s':=[.b20 x4.1, .s A8 (0+((x4.2.1).length)) cp10, .s A9 (0+((x4.t2).length)) cp11]) .h2 T51 rfl rfl fun w S=>?_)
       refine h_back ⟨fun h=>(nomatch h),?_⟩
       refine h_done ?_; clear CL hw le
       refine x_thenN ?_
       exact j2 _ g68 A1 cp1 ch2.1 ch2.2 g3 g4 A8 cp10 A9 cp11 a w (S.sb rfl (.c2 (.c0 (.c0 (.c0 (.c0 (.c0 (.c0 (.c0 (.c0 (.c0 (.c0 (.c0 (.c0 (.c0 .n))))))))))))))) h8
      exact h_nil
     refine h_runO S rfl tv ?_ ?_
     ·refine s_bldSl S (ty':=yb) (ds:=[]) (z:=0) (c0:=()) (ys:=([]:List Int)) (cs:=[]) rfl underlying36 J5 Z5 rfl ⟨rfl,tv⟩ rfl rfl rfl rfl rfl rfl fun g69 a w S=>CL.bk hw S (.c11 .n) le fun hw=>h_run' S rfl tv (s_bldSl S (ty':=(Ty.arr .u64 4)) (ds:=[]) (z:=[0,0,0,0]) (c0:=()) (ys:=([]:List (List Int))) (cs:=[]) rfl underlying49 J35 Z35 rfl ⟨rfl,tv⟩ rfl rfl rfl rfl rfl rfl fun g70 a w S=>CL.bk hw S (.c12 .n) le fun hw=>h_run' S rfl tv (s_app S (k2:=((x4.2.1).length)) (ys:=x4.2.1) rfl (fun _ _=> .h) rfl rfl rfl (RdS.src (S.get 59 (.q (Ty.arr .u64 4) ch_3_0 ch_3_1 x4.2.1) rfl).2.2.2.1 (by decide) S.frz) underlying49 J35 c13 rfl fun A8 cp10 a w S=>CL.bk hw S (.c12 .n) le fun hw=>?_))
      replace CL:=CL.add (t:=60) (d:=(.s A8 (0+((x4.2.1).length)) cp10)) S rfl rfl
      refine h_run' S rfl tv (s_app S (k2:=((x4.t2).length)) (ys:=x4.t2) rfl (fun _ _=> .h1) rfl rfl rfl (RdS.src (S.get 63 (.q yb ch_3_2 ch_3_3 x4.t2) rfl).2.2.2.1 (by decide) S.frz) underlying36 J5 c14 rfl fun A9 cp11 a w S=>CL.bk hw S (.c12 .n) le fun hw=>?_)
      replace CL:=CL.add (t:=64) (d:=(.s A9 (0+((x4.t2).length)) cp11)) S rfl rfl
      refine h_bldS S CL hw le (subR rfl) (ds:=[(0,(.agg [.b20 x4.1])),(1,(.s A8 (0+((x4.2.1).length)) cp10)),(2,(.s A9 (0+((x4.t2).length)) cp11))]) (zs:=[.b20 z20, .s none 0 0, .s none 0 0]) (s':=[.b20 x4.1, .s A8 (0+((x4.2.1).length)) cp10, .s A9 (0+((x4.t2).length)) cp11]) rfl underlying51 P51 Z51 ⟨rfl,rfl,rfl,tv⟩ rfl rfl rfl tv fun a S CL=>h_run' S rfl tv (s_store S rfl rfl rfl (s':=[.b20 x4.1, .s A8 (0+((x4.2.1).length)) cp10, .s A9 (0+((x4.t2).length)) cp11]) .h2 T51 rfl rfl fun w S=>?_)
      refine h_back ⟨fun h=>(nomatch h),?_⟩
      refine h_done ?_; clear CL hw le
      refine x_thenN ?_
      exact j2 _ g68 A1 cp1 ch2.1 ch2.2 g3 g4 A8 cp10 A9 cp11 a w (S.sb rfl (.c2 (.c1 (.c0 (.c0 (.c0 (.c0 (.c0 (.c0 (.c0 (.c0 (.c0 (.c0 (.c0 (.c0 .n))))))))))))))) h8
     exact h_nil
    exact h_nil
 refine c_region' (s_mv1 S rfl fun a S=>bindX h0 fun t25 et25 h1=>s_callK S (fd1_.ok k et25) N5 rfl .pre (fun _=> .n) rfl fun ch30 m le1 a w S=>s_not S rfl rfl fun a S=>s_mv1 S rfl fun a S=>?_)
 rcases ite_of h1 with ⟨c15,h2⟩ | ⟨c15,h2⟩
 ·refine s_gF S (b:=(!t25)) rfl rfl c15 rfl fun a S=>s_gF S (b:=(!t25)) rfl rfl c15 rfl fun a S=>s_gF S (b:=(!t25)) rfl rfl c15 rfl fun a S=>s_pick S (b:=true) (hc_of rfl c15) rfl rfl fun a S=>s_mv1 S rfl fun a S=>s_gF S (b:=true) rfl rfl rfl rfl fun a S=>s_gF S (b:=true) rfl rfl rfl rfl fun a S=>s_gF S (b:=true) rfl rfl rfl rfl fun a S=>s_gF S (b:=true) rfl rfl rfl rfl fun a S=>s_pick S (b:=true) (hc_of rfl rfl) rfl rfl fun a S=>s_mv1 S rfl fun a S=>s_gF S (b:=true) rfl rfl rfl rfl fun a S=>s_gF S (b:=true) rfl rfl rfl rfl fun a S=>s_gF S (b:=true) rfl rfl rfl rfl fun a S=>s_gF S (b:=true) rfl rfl rfl rfl fun a S=>s_pick S (b:=true) (hc_of rfl rfl) rfl rfl fun a S=>c_end' (x_thenN ?_)
  exact j1 _ true g2 g1 a w (S.sb rfl (.c0 (.c0 .n))) h2
 ·refine s_gT S (b:=(!t25)) rfl rfl c15 (s_mv1 S rfl fun a S=>s_gT S (b:=(!t25)) rfl rfl c15 (s_lenS S rfl underlying36 rfl fun a S=>s_gT S (b:=(!t25)) rfl rfl c15 (s_bi S rfl fun a S=>s_pick S (b:=false) (hc_of rfl c15) rfl rfl fun a S=>s_mv1 S rfl fun a S=>?_)))
  rcases ite_of h2 with ⟨c16,h3⟩ | ⟨c16,h3⟩
  ·refine s_gF S (b:=(decide (300<((x3).length:Int)))) rfl rfl c16 rfl fun a S=>s_gF S (b:=(decide (300<((x3).length:Int)))) rfl rfl c16 rfl fun a S=>s_gF S (b:=(decide (300<((x3).length:Int)))) rfl rfl c16 rfl fun a S=>s_gF S (b:=(decide (300<((x3).length:Int)))) rfl rfl c16 rfl fun a S=>s_pick S (b:=true) (hc_of rfl c16) rfl rfl fun a S=>s_mv1 S rfl fun a S=>s_gF S (b:=true) rfl rfl rfl rfl fun a S=>s_gF S (b:=true) rfl rfl rfl rfl fun a S=>s_gF S (b:=true) rfl rfl rfl rfl fun a S=>s_gF S (b:=true) rfl rfl rfl rfl fun a S=>s_pick S (b:=true) (hc_of rfl rfl) rfl rfl fun a S=>c_end' (x_thenN ?_)
   exact j1 _ true g2 g1 a w (S.sb rfl (.c0 (.c0 .n))) h3
  ·refine s_gT S (b:=(decide (300<((x3).length:Int)))) rfl rfl c16 (s_fieldAddr S rfl I51_2 T36 (by decide) rfl rfl fun a S=>s_gT S (b:=(decide (300<((x3).length:Int)))) rfl rfl c16 (s_loadSl S rfl .h T36 (A:=ch_3_2) (len:=(x4.t2).length) (cap:=ch_3_3) rfl rfl fun a S=>s_gT S (b:=(decide (300<((x3).length:Int)))) rfl rfl c16 (s_lenS S rfl underlying36 rfl fun a S=>s_gT S (b:=(decide (300<((x3).length:Int)))) rfl rfl c16 (s_bi S rfl fun a S=>s_pick S (b:=false) (hc_of rfl c16) rfl rfl fun a S=>s_mv1 S rfl fun a S=>?_))))
   rcases ite_of h3 with ⟨c17,h4⟩ | ⟨c17,h4⟩
   ·refine s_gF S (b:=(decide (300<((x4.t2).length:Int)))) rfl rfl c17 rfl fun a S=>s_gF S (b:=(decide (300<((x4.t2).length:Int)))) rfl rfl c17 rfl fun a S=>s_gF S (b:=(decide (300<((x4.t2).length:Int)))) rfl rfl c17 rfl fun a S=>s_gF S (b:=(decide (300<((x4.t2).length:Int)))) rfl rfl c17 rfl fun a S=>s_pick S (b:=true) (hc_of rfl c17) rfl rfl fun a S=>c_end' (x_thenN ?_)
    exact j1 _ true g2 g1 a w (S.sb rfl (.c0 (.c0 .n))) h4
   ·refine s_gT S (b:=(decide (300<((x4.t2).length:Int)))) rfl rfl c17 (s_fieldAddr S rfl I51_1 T49 (by decide) rfl rfl fun a S=>s_gT S (b:=(decide (300<((x4.t2).length:Int)))) rfl rfl c17 (s_loadSl S rfl .h T49 (A:=ch_3_0) (len:=(x4.2.1).length) (cap:=ch_3_1) rfl rfl fun a S=>s_gT S (b:=(decide (300<((x4.t2).length:Int)))) rfl rfl c17 (s_lenS S rfl underlying49 rfl fun a S=>s_gT S (b:=(decide (300<((x4.t2).length:Int)))) rfl rfl c17 (s_bi S rfl fun a S=>s_pick S (b:=false) (hc_of rfl c17) rfl rfl fun a S=>c_end' (x_thenN ?_)))))
    exact j1 _ (decide (20<((x4.2.1).length:Int))) g2 g1 a w (S.sb rfl (.c0 (.c0 .n))) h4
end
end GW
