import Derived.Test.YtdajnflppnlhiaaGreatProg
import Derived.Test.YtdajnflppnlhiaaGreatGB
set_option linter.unusedVariables false
set_option linter.unusedSimpArgs false
set_option maxRecDepth 10000
set_option maxHeartbeats 4000000
namespace GW
open Go Go.RowKit Go.Proofs Go.Proofs.Tryz
noncomputable section
abbrev fd2_.Ty:Type:=ST37→(List Int)→(List Int)→(List Int)→Option ST37
def fd2_.Ctr (s:fd2_.Ty):Prop:=∀ {x1:ST37} {x2:List Int} {x3:List Int} {x4:List Int} {ch_0_0:(Option Addr×Nat)×(Option Addr×Nat)×(Option Addr×Nat)×(Option Addr×Nat)×Unit×(Option Addr×Nat)×Unit×(Option Addr×Nat)} {r:ST37} (h0:s x1 x2 x3 x4=some r) {mi:Mem} {w0:World},CtrB Tryz.prog 43 [(.agg (SY37.segs x1 ch_0_0)),(.agg [.b20 x2]),(.a4 x3),(.a4 x4)] [] (fun (ch:W21)=>((.agg (SY37.segs r ch)):D)) (fun (ch:W21)=>[]) mi w0
def fd2_.j2 (k:Nat)(x1:ST37)(t1:W20)(y4:W18):Option ST37:=(fb6_.f k x1 ((t1.1.1,t1.1.2.1,t1.1.2.2.1,t1.1.2.2.2.1,y4),t1.2.1,t1.2.2)).bind fun t2=>(some t2)
def fd2_.j3 (k:Nat)(x1:ST37)(x3:List Int)(x4:List Int)(t1:W20)(y2:W18)(y5:Bool):Option ST37:=if y5=true then (if ((y2).length+([(x3,x4)]).length)*64≤140737488355328 then (fd2_.j2 k x1 t1 (y2++[(x3,x4)])) else none) else (fd2_.j2 k x1 t1 y2)
def fd2_.j1 (k:Nat)(x1:ST37)(x3:List Int)(x4:List Int)(t1:W20)(y1:Bool)(y2:W18):Option ST37:=if (!y1)=true then (fd2_.j3 k x1 x3 x4 t1 y2 (!(decide (x4=[0,0,0,0])))) else (fd2_.j3 k x1 x3 x4 t1 y2 false)
def fd2_.j4 (y26:Int)(rec1:Int→Bool→W18→Option ST37)(y32:W18)(y33:Bool):Option ST37:=rec1 (wr .i64 (y26+1)) y33 y32
def fd2_.j5 (x3:List Int)(t1:W20)(y26:Int)(rec1:Int→Bool→W18→Option ST37)(y35:W18)(y36:Bool):Option ST37:=if (!(decide ((gt t1.1.2.2.2.2 y26).1=x3)))=true then (if ((y35).length+([gt t1.1.2.2.2.2 y26]).length)*64≤140737488355328 then (fd2_.j4 y26 rec1 (y35++[gt t1.1.2.2.2.2 y26]) y36) else none) else (fd2_.j4 y26 rec1 y35 y36)
def fd2_.j6 (x3:List Int)(x4:List Int)(t1:W20)(y26:Int)(y27:Bool)(y28:W18)(rec1:Int→Bool→W18→Option ST37)(y37:Bool):Option ST37:=if y37=true then (if (!(decide (x4=[0,0,0,0])))=true then (if ((y28).length+([(x3,x4)]).length)*64≤140737488355328 then (fd2_.j5 x3 t1 y26 rec1 (y28++[(x3,x4)]) true) else none) else (fd2_.j5 x3 t1 y26 rec1 y28 true)) else (fd2_.j5 x3 t1 y26 rec1 y28 y27)
def fd2_.b1 (k:Nat)(x1:ST37)(x3:List Int)(x4:List Int)(t1:W20)(rec1:Int→Bool→W18→Option ST37)(y26:Int)(y27:Bool)(y28:W18):Option ST37:=if (decide (y26<((t1.1.2.2.2.2).length:Int)))=true then (if (0:Int)≤y26∧y26<((t1.1.2.2.2.2).length:Int) then (if (!y27)=true then ((fh8_.f k x3).bind fun t6=>((fh8_.f k ((gt t1.1.2.2.2.2 y26).1)).bind fun t7=>((fd9_.f k t6 t7).bind fun t8=>(fd2_.j6 x3 x4 t1 y26 y27 y28 rec1 (decide (t8≤0)))))) else (fd2_.j6 x3 x4 t1 y26 y27 y28 rec1 false)) else none) else (fd2_.j1 k x1 x3 x4 t1 y27 y28)
def fd2_.l1 (k:Nat)(x1:ST37)(x3:List Int)(x4:List Int)(t1:W20):Nat→Int→Bool→W18→Option ST37
  | 0,_,_,_=>none
  | q+1,y26,y27,y28=>fd2_.b1 k x1 x3 x4 t1 (fd2_.l1 k x1 x3 x4 t1 q) y26 y27 y28
def fd2_.f (k:Nat)(x1:ST37)(x2:List Int)(x3:List Int)(x4:List Int):Option ST37:=(fd4_.f k x1 x2).bind fun t1=>(fd2_.l1 k x1 x3 x4 t1 k 0 false ([]:List ((List Int)×(List Int))))
theorem fd2_.ok (k:Nat):fd2_.Ctr (fd2_.f k):=by
 intro x1 x2 x3 x4 ch_0_0 r h0 mi w0 ok hm
 delta fd2_.f at h0
 refine c_enterZ (n:=79) ok hm func43 rfl rfl rfl fun b0 hb a S=>c_region (s_box S rfl rfl rfl fun g1 a w S=>s_box S rfl rfl rfl fun g2 a w S=>s_box S rfl rfl rfl fun g3 a w S=>s_box S rfl rfl rfl fun g4 a w S=>s_alloc S Z37 rfl ⟨rfl,rfl,rfl,rfl,rfl,rfl,rfl,rfl,tv⟩ rfl fun g5 a w S=>c_end (c_region (s_loada S rfl .h4 T37 (s':=(SY37.segs x1 ch_0_0)) rfl rfl fun a S=>s_loada S rfl .h3 T40 (s':=[.b20 x2]) rfl rfl fun a S=>bindX h0 fun t1 et1 h1=>s_callK S (fd4_.ok k (ch_0_0:=ch_0_0) et1) N64 rfl .pre (fun _=> .n) rfl fun ch1 m le1 a w S=>s_alloc S Z122 rfl ⟨rfl,rfl,rfl,rfl,rfl,rfl,rfl,tv⟩ rfl fun g6 a w S=>s_store S rfl rfl rfl (s':=(Y122.segs t1 (((),(),(),(ch1.1,ch1.2.1),ch1.t2),(),()))) .h T122 rfl rfl fun w S=>c_end (c_region (s_bldSl S (ty':=Y83) (ds:=[]) (z:=([0,0,0,0],[0,0,0,0])) (c0:=((),())) (ys:=([]:List ((List Int)×(List Int)))) (cs:=[]) rfl underlying69 J83 Z83 rfl ⟨rfl,rfl,tv⟩ rfl rfl rfl rfl rfl rfl fun g7 a w S=>s_as1 S rfl fun a S=>c_end (c_region (s_as1 S rfl fun a S=>c_end (wp_seq_k fun K1 hK1=>?_))))))))
 have j1:∀ m y1 A1 nn1 cp1 y2 g58 g59 g60 g61 g62 A2 cp2 A3 cp3 a w,St 79 m b0 [(11,(.b y1)),(10,(.s A1 nn1 cp1)),(9,(.p g58)),(8,(.p g59)),(7,(.p g60)),(6,(.p g61)),(4,(.p g62))] [Res.row Y83 83 A1 nn1 cp1 y2,Res.cells g58 122 (Y122.segs t1 (((),(),(),(A2,cp2),(A3,cp3)),(),())),Res.cells g59 37 [.s none 0 0, .s none 0 0, .s none 0 0, .s none 0 0, .i 0, .s none 0 0, .b false, .s none 0 0],Res.cells g60 43 [.w4 x4],Res.cells g61 43 [.w4 x3],Res.cells g62 37 (SY37.segs x1 ch_0_0)] a w→fd2_.j1 k x1 x3 x4 t1 y1 y2=some r→K1 a w:=by
  intro m y1 A1 nn1 cp1 y2 g58 g59 g60 g61 g62 A2 cp2 A3 cp3 a w S h0
  delta fd2_.j1 at h0
  refine hK1 a w (wp_seq_k fun K2 hK2=>?_)
  have j2:∀ m A4 nn2 cp5 y4 g69 g70 g71 a w,St 79 m b0 [(10,(.s A4 nn2 cp5)),(9,(.p g69)),(8,(.p g70)),(4,(.p g71))] [Res.row Y83 83 A4 nn2 cp5 y4,Res.cells g69 122 (Y122.segs t1 (((),(),(),(A2,cp2),(A3,cp3)),(),())),Res.cells g70 37 [.s none 0 0, .s none 0 0, .s none 0 0, .s none 0 0, .i 0, .s none 0 0, .b false, .s none 0 0],Res.cells g71 37 (SY37.segs x1 ch_0_0)] a w→fd2_.j2 k x1 t1 y4=some r→K2 a w:=by
   intro m A4 nn2 cp5 y4 g69 g70 g71 a w S h0
   delta fd2_.j2 at h0
   refine hK2 a w (c_region (s_mv1 S rfl fun a S=>s_fieldAddr S rfl I122_0 T71 (by decide) rfl rfl fun a S=>s_fieldAddr S rfl I71_4 T69 (by decide) rfl rfl fun a S=>s_storeJ S 4 rfl rfl rfl rfl .h1 T69 rfl rfl fun w S=>c_end (c_region (s_loada S rfl .h3 T37 (s':=(SY37.segs x1 ch_0_0)) rfl rfl fun a S=>s_loada S rfl .h1 T122 (s':=[.b20 t1.1.1, .w t1.1.2.1, .w4 t1.1.e3, .q yb A2 cp2 t1.1.e4, .s A4 nn2 cp5, .b t1.2.1, .b t1.t2]) rfl rfl fun a S=>?_))))
   replace S:=S.rowfro .h
   obtain ⟨m,le1,S,hro⟩:=S
   replace S:=S.slotF 77 4 rfl rfl hro
   replace S:=S.slotro (u:=73) rfl hro
   replace S:=S.slotro (u:=10) rfl hro
   replace S:=S.cellF 4 .h rfl hro
   refine bindX h0 fun t2 et2 h1=>s_callK S (fb6_.ok k (ch_0_0:=ch_0_0) et2) N74 rfl .pre (fun _=> .n) rfl fun ch2 m le1 a w S=>s_store S rfl rfl rfl (s':=(SY37.segs t2 ch2)) .h1 T37 rfl rfl fun w S=>c_end (wp_ret ?_)
   obtain rfl:=sI h1
   exact b_ret1 (d:=(.agg (SY37.segs t2 ch2))) S rfl (resD_cell rfl .h1 T37 rfl rfl) fun ok=>S.retX (Hx:=[]) hb _ _ (ch2:W21) .nil ok
  refine wp_seq_k fun K3 hK3=>?_
  have j3:∀ m y5 g72 g73 g74 g75 g76 a w,St 79 m b0 [(66,(.b y5)),(10,(.s A1 nn1 cp1)),(9,(.p g72)),(8,(.p g73)),(7,(.p g74)),(6,(.p g75)),(4,(.p g76))] [Res.row Y83 83 A1 nn1 cp1 y2,Res.cells g72 122 (Y122.segs t1 (((),(),(),(A2,cp2),(A3,cp3)),(),())),Res.cells g73 37 [.s none 0 0, .s none 0 0, .s none 0 0, .s none 0 0, .i 0, .s none 0 0, .b false, .s none 0 0],Res.cells g74 43 [.w4 x4],Res.cells g75 43 [.w4 x3],Res.cells g76 37 (SY37.segs x1 ch_0_0)] a w→fd2_.j3 k x1 x3 x4 t1 y2 y5=some r→K3 a w:=by
   intro m y5 g72 g73 g74 g75 g76 a w S h0
   delta fd2_.j3 at h0
   refine hK3 a w ?_
   rcases ite_of h0 with ⟨c1,h1⟩ | ⟨c1,h1⟩
   ·refine c_condT S rfl c1 (c_region' (s_mv1 S rfl fun a S=>s_loada S rfl .h4 T43 (s':=[.w4 x3]) rfl rfl fun a S=>s_loada S rfl .h3 T43 (s':=[.w4 x4]) rfl rfl fun a S=>s_bldS S (ds:=[(0,(.a4 x3)),(1,(.a4 x4))]) (zs:=[.w4 [0,0,0,0], .w4 [0,0,0,0]]) (s':=[.w4 x3, .w4 x4]) rfl underlying83 P83 Z83 ⟨rfl,rfl,tv⟩ rfl rfl fun a S=>s_bldSl S (ty':=Y83) (ds:=[(0,(.agg [.w4 x3, .w4 x4]))]) (z:=([0,0,0,0],[0,0,0,0])) (c0:=((),())) (ys:=[(x3,x4)]) (cs:=[((),())]) rfl underlying69 J83 Z83 rfl ⟨rfl,rfl,tv⟩ rfl rfl rfl rfl rfl rfl fun g77 a w S=>?_))
    obtain ⟨c2,h2⟩:=chk_of h1; clear h1
    refine s_app S (k2:=1) (ys:=[(x3,x4)]) rfl (fun _ _=> .h1) rfl rfl (S.holds _ (Pull.mem .h).1).1 (Res.row.src (S.holds _ (Pull.mem .h).1)) underlying69 J83 c2 rfl fun A5 cp6 a w S=>s_as1 S rfl fun a S=>c_end' (x_thenN ?_)
    exact j2 _ A5 (nn1+1) cp6 (y2++[(x3,x4)]) g72 g73 g76 a w (S.sb rfl (.c1 (.c1 (.c1 (.c3 .n))))) h2
   ·refine c_condF S rfl c1 (wp_skip (x_thenN ?_))
    exact j2 _ A1 nn1 cp1 y2 g72 g73 g76 a w (S.sb rfl (.c0 (.c0 (.c0 (.c2 .n))))) h1
  refine c_region' (s_mv1 S rfl fun a S=>s_not S rfl rfl fun a S=>s_mv1 S rfl fun a S=>?_)
  rcases ite_of h0 with ⟨c3,h1⟩ | ⟨c3,h1⟩
  ·refine s_gT S (b:=(!y1)) rfl rfl c3 (s_loada S rfl .h3 T43 (s':=[.w4 x4]) rfl rfl fun a S=>s_gT S (b:=(!y1)) rfl rfl c3 (s_build S (ds:=[]) (dv:=(.a4 [0,0,0,0])) rfl (fun _=>by kernel_rfl) ⟨rfl,tv⟩ rfl fun a S=>s_gT S (b:=(!y1)) rfl rfl c3 (s_nea S rfl rfl underlying43 underlying41 T41 Q43 rfl fun a S=>s_pick S (b:=true) (hc_of rfl c3) rfl rfl fun a S=>c_end' (x_thenN ?_))))
   exact j3 _ (!(decide (x4=[0,0,0,0]))) g58 g59 g60 g61 g62 a w (S.sb rfl (.c0 (.c0 (.c0 (.c0 (.c0 (.c0 .n))))))) h1
  ·refine s_gF S (b:=(!y1)) rfl rfl c3 rfl fun a S=>s_gF S (b:=(!y1)) rfl rfl c3 rfl fun a S=>s_gF S (b:=(!y1)) rfl rfl c3 rfl fun a S=>s_pick S (b:=false) (hc_of rfl c3) rfl rfl fun a S=>c_end' (x_thenN ?_)
   exact j3 _ false g58 g59 g60 g61 g62 a w (S.sb rfl (.c0 (.c0 (.c0 (.c0 (.c0 (.c0 .n))))))) h1
 refine c_region (s_fieldAddr S rfl I122_0 T71 (by decide) rfl rfl fun a S=>s_fieldAddr S rfl I71_4 T69 (by decide) rfl rfl fun a S=>s_loadSl S rfl .h1 T69 (A:=ch1.e3) (len:=(t1.1.t4).length) (cap:=ch1.t3) rfl rfl fun a S=>s_lenS S rfl underlying69 rfl fun a S=>s_mv1 S rfl fun a S=>c_end (wp_block ?_))
 refine c_loop (fun q1 a w=>∃ m y26 y27 A6 nn8 cp20 y28 g123 g124 g125 g126 g127 A7 cp21 A8 cp22,St 79 m b0 [(22,(.i y26)),(21,(.i ((t1.1.t4).length:Int))),(11,(.b y27)),(10,(.s A6 nn8 cp20)),(9,(.p g123)),(8,(.p g124)),(7,(.p g125)),(6,(.p g126)),(4,(.p g127))] [Res.row Y83 83 A6 nn8 cp20 y28,Res.cells g123 122 (Y122.segs t1 (((),(),(),(A7,cp21),(A8,cp22)),(),())),Res.cells g124 37 [.s none 0 0, .s none 0 0, .s none 0 0, .s none 0 0, .i 0, .s none 0 0, .b false, .s none 0 0],Res.cells g125 43 [.w4 x4],Res.cells g126 43 [.w4 x3],Res.cells g127 37 (SY37.segs x1 ch_0_0)] a w∧fd2_.l1 k x1 x3 x4 t1 q1 y26 y27 y28=some r) ?_ ?_ (k:=k) ⟨_,0,false,(ad g7),0,0,([]:List ((List Int)×(List Int))),g6,g5,g4,g3,g1,ch1.1,ch1.2.1,ch1.e3,ch1.t3,(S.sb rfl (.c0 (.c0 (.c0 (.c0 (.c0 (.c1 .n))))))),h1⟩
 ·rintro a w ⟨m,y26,y27,A6,nn8,cp20,y28,g123,g124,g125,g126,g127,A7,cp21,A8,cp22,S,h0⟩
  exact (nomatch (show (none:Option ST37)=some r from h0))
 ·clear S h1
  rintro q1 a w ⟨m,y26,y27,A6,nn8,cp20,y28,g123,g124,g125,g126,g127,A7,cp21,A8,cp22,S,h0⟩
  replace h0:fd2_.b1 k x1 x3 x4 t1 (fd2_.l1 k x1 x3 x4 t1 q1) y26 y27 y28=some r:=h0
  delta fd2_.b1 at h0
  refine c_region (s_bi S rfl fun a S=>c_end (wp_seq ?_))
  rcases ite_of h0 with ⟨c4,h1⟩ | ⟨c4,h1⟩
  ·refine c_condT S rfl c4 (wp_skip (x_thenN (wp_seq_k fun K4 hK4=>?_)))
   have j4:∀ m A9 nn10 cp26 y32 y33 g143 g144 g145 g146 g147 a w,St 79 m b0 [(10,(.s A9 nn10 cp26)),(11,(.b y33)),(22,(.i y26)),(21,(.i ((t1.1.t4).length:Int))),(9,(.p g143)),(8,(.p g144)),(7,(.p g145)),(6,(.p g146)),(4,(.p g147))] [Res.row Y83 83 A9 nn10 cp26 y32,Res.cells g143 122 (Y122.segs t1 (((),(),(),(A7,cp21),(A8,cp22)),(),())),Res.cells g144 37 [.s none 0 0, .s none 0 0, .s none 0 0, .s none 0 0, .i 0, .s none 0 0, .b false, .s none 0 0],Res.cells g145 43 [.w4 x4],Res.cells g146 43 [.w4 x3],Res.cells g147 37 (SY37.segs x1 ch_0_0)] a w→fd2_.j4 y26 (fd2_.l1 k x1 x3 x4 t1 q1) y32 y33=some r→K4 a w:=by
    intro m A9 nn10 cp26 y32 y33 g143 g144 g145 g146 g147 a w S h0
    delta fd2_.j4 at h0
    refine hK4 a w (c_region' (s_bi S rfl fun a S=>s_mv1 S rfl fun a S=>c_end' (x_thenN ?_)))
    exact ⟨_,(wr .i64 (y26+1)),y33,A9,nn10,cp26,y32,g143,g144,g145,g146,g147,A7,cp21,A8,cp22,(S.sb rfl (.c0 (.c0 (.c0 (.c0 (.c0 (.c0 .n))))))),h0⟩
   refine wp_block (c_region (s_mv1 S rfl fun a S=>s_as1 S rfl fun a S=>c_end (c_region (s_fieldAddr S rfl I122_0 T71 (by decide) rfl rfl fun a S=>s_fieldAddr S rfl I71_4 T69 (by decide) rfl rfl fun a S=>s_loadSl S rfl .h1 T69 (A:=A8) (len:=(t1.1.t4).length) (cap:=cp22) rfl rfl fun a S=>s_mv1 S rfl fun a S=>?_))))
   obtain ⟨c5,h2⟩:=chk_of h1; clear h1
   refine s_iaddrS S rfl rfl rfl underlying69 T83 c5.1 c5.2 rfl fun p1 a S=>s_ldA S (fun (c:Unit×Unit)=>[.w4 ((gt t1.1.t4 y26).1), .w4 ((gt t1.1.t4 y26).2)]) rfl T83 (fun _=>rfl) rfl fun ch3 a S=>?_
   refine s_alloc S Z83 rfl ⟨rfl,rfl,tv⟩ rfl fun g148 a w S=>s_store S rfl rfl rfl (s':=[.w4 ((gt t1.1.t4 y26).1), .w4 ((gt t1.1.t4 y26).2)]) .h T83 rfl rfl fun w S=>c_end (wp_seq_k fun K5 hK5=>?_)
   have j5:∀ m A10 nn11 cp28 y35 y36 g156 g157 g158 g159 g160 g161 a w,St 79 m b0 [(10,(.s A10 nn11 cp28)),(11,(.b y36)),(13,(.p g156)),(22,(.i y26)),(21,(.i ((t1.1.t4).length:Int))),(9,(.p g157)),(8,(.p g158)),(7,(.p g159)),(6,(.p g160)),(4,(.p g161))] [Res.cells g156 83 [.w4 ((gt t1.1.t4 y26).1), .w4 ((gt t1.1.t4 y26).2)],Res.row Y83 83 A10 nn11 cp28 y35,Res.cells g157 122 (Y122.segs t1 (((),(),(),(A7,cp21),(A8,cp22)),(),())),Res.cells g158 37 [.s none 0 0, .s none 0 0, .s none 0 0, .s none 0 0, .i 0, .s none 0 0, .b false, .s none 0 0],Res.cells g159 43 [.w4 x4],Res.cells g160 43 [.w4 x3],Res.cells g161 37 (SY37.segs x1 ch_0_0)] a w→fd2_.j5 x3 t1 y26 (fd2_.l1 k x1 x3 x4 t1 q1) y35 y36=some r→K5 a w:=by
    intro m A10 nn11 cp28 y35 y36 g156 g157 g158 g159 g160 g161 a w S h0
    delta fd2_.j5 at h0
    refine hK5 a w (c_region (s_fieldAddr S rfl I83_0 T43 (by decide) rfl rfl fun a S=>s_loada S rfl .h T43 (s':=[.w4 ((gt t1.1.t4 y26).1)]) rfl rfl fun a S=>s_loada S rfl .h5 T43 (s':=[.w4 x3]) rfl rfl fun a S=>s_nea S rfl rfl underlying43 underlying41 T41 Q43 rfl fun a S=>c_end ?_))
    rcases ite_of h0 with ⟨c6,h1⟩ | ⟨c6,h1⟩
    ·refine c_condT S rfl c6 (c_region' (s_mv1 S rfl fun a S=>s_loada S rfl .h T83 (s':=[.w4 ((gt t1.1.t4 y26).1), .w4 ((gt t1.1.t4 y26).2)]) rfl rfl fun a S=>s_bldSl S (ty':=Y83) (ds:=[(0,(.agg [.w4 ((gt t1.1.t4 y26).1), .w4 ((gt t1.1.t4 y26).2)]))]) (z:=([0,0,0,0],[0,0,0,0])) (c0:=((),())) (ys:=[gt t1.1.t4 y26]) (cs:=[((),())]) rfl underlying69 J83 Z83 rfl ⟨rfl,rfl,tv⟩ rfl rfl rfl rfl rfl rfl fun g162 a w S=>?_))
     obtain ⟨c7,h2⟩:=chk_of h1; clear h1
     refine s_app S (k2:=1) (ys:=[gt t1.1.t4 y26]) rfl (fun _ _=> .h2) rfl rfl (S.holds _ (Pull.mem .h).1).1 (Res.row.src (S.holds _ (Pull.mem .h).1)) underlying69 J83 c7 rfl fun A11 cp29 a w S=>s_as1 S rfl fun a S=>c_end' (x_blockN (x_thenN ?_))
     exact j4 _ A11 (nn11+1) cp29 (y35++[gt t1.1.t4 y26]) y36 g157 g158 g159 g160 g161 a w (S.sb rfl (.c2 (.c2 (.c2 (.c2 (.c2 (.c2 .n))))))) h2
    ·refine c_condF S rfl c6 (wp_skip (x_blockN (x_thenN ?_)))
     exact j4 _ A10 nn11 cp28 y35 y36 g157 g158 g159 g160 g161 a w (S.sb rfl (.c1 (.c1 (.c1 (.c1 (.c1 (.c1 .n))))))) h1
   refine wp_seq_k fun K6 hK6=>?_
   have j6:∀ m y37 g163 g164 g165 g166 g167 g168 a w,St 79 m b0 [(41,(.b y37)),(13,(.p g163)),(22,(.i y26)),(21,(.i ((t1.1.t4).length:Int))),(11,(.b y27)),(10,(.s A6 nn8 cp20)),(9,(.p g164)),(8,(.p g165)),(7,(.p g166)),(6,(.p g167)),(4,(.p g168))] [Res.cells g163 83 [.w4 ((gt t1.1.t4 y26).1), .w4 ((gt t1.1.t4 y26).2)],Res.row Y83 83 A6 nn8 cp20 y28,Res.cells g164 122 (Y122.segs t1 (((),(),(),(A7,cp21),(A8,cp22)),(),())),Res.cells g165 37 [.s none 0 0, .s none 0 0, .s none 0 0, .s none 0 0, .i 0, .s none 0 0, .b false, .s none 0 0],Res.cells g166 43 [.w4 x4],Res.cells g167 43 [.w4 x3],Res.cells g168 37 (SY37.segs x1 ch_0_0)] a w→fd2_.j6 x3 x4 t1 y26 y27 y28 (fd2_.l1 k x1 x3 x4 t1 q1) y37=some r→K6 a w:=by
    intro m y37 g163 g164 g165 g166 g167 g168 a w S h0
    delta fd2_.j6 at h0
    refine hK6 a w ?_
    rcases ite_of h0 with ⟨c8,h1⟩ | ⟨c8,h1⟩
    ·refine c_condT S rfl c8 (c_region (s_as1 S rfl fun a S=>c_end (c_region (s_loada S rfl .h4 T43 (s':=[.w4 x4]) rfl rfl fun a S=>s_build S (ds:=[]) (dv:=(.a4 [0,0,0,0])) rfl (fun _=>by kernel_rfl) ⟨rfl,tv⟩ rfl fun a S=>s_nea S rfl rfl underlying43 underlying41 T41 Q43 rfl fun a S=>c_end ?_))))
     rcases ite_of h1 with ⟨c9,h2⟩ | ⟨c9,h2⟩
     ·refine c_condT S rfl c9 (c_region' (s_mv1 S rfl fun a S=>s_loada S rfl .h5 T43 (s':=[.w4 x3]) rfl rfl fun a S=>s_loada S rfl .h4 T43 (s':=[.w4 x4]) rfl rfl fun a S=>s_bldS S (ds:=[(0,(.a4 x3)),(1,(.a4 x4))]) (zs:=[.w4 [0,0,0,0], .w4 [0,0,0,0]]) (s':=[.w4 x3, .w4 x4]) rfl underlying83 P83 Z83 ⟨rfl,rfl,tv⟩ rfl rfl fun a S=>s_bldSl S (ty':=Y83) (ds:=[(0,(.agg [.w4 x3, .w4 x4]))]) (z:=([0,0,0,0],[0,0,0,0])) (c0:=((),())) (ys:=[(x3,x4)]) (cs:=[((),())]) rfl underlying69 J83 Z83 rfl ⟨rfl,rfl,tv⟩ rfl rfl rfl rfl rfl rfl fun g169 a w S=>?_))
      obtain ⟨c10,h3⟩:=chk_of h2; clear h2
      refine s_app S (k2:=1) (ys:=[(x3,x4)]) rfl (fun _ _=> .h2) rfl rfl (S.holds _ (Pull.mem .h).1).1 (Res.row.src (S.holds _ (Pull.mem .h).1)) underlying69 J83 c10 rfl fun A12 cp30 a w S=>s_as1 S rfl fun a S=>c_end' (x_thenN ?_)
      exact j5 _ A12 (nn8+1) cp30 (y28++[(x3,x4)]) true g163 g164 g165 g166 g167 g168 a w (S.sb rfl (.c1 (.c1 (.c1 (.c1 (.c1 (.c1 (.c1 .n)))))))) h3
     ·refine c_condF S rfl c9 (wp_skip (x_thenN ?_))
      exact j5 _ A6 nn8 cp20 y28 true g163 g164 g165 g166 g167 g168 a w (S.sb rfl (.c0 (.c0 (.c0 (.c0 (.c0 (.c0 (.c0 .n)))))))) h2
    ·refine c_condF S rfl c8 (wp_skip (x_thenN ?_))
     exact j5 _ A6 nn8 cp20 y28 y27 g163 g164 g165 g166 g167 g168 a w (S.sb rfl (.c0 (.c0 (.c0 (.c0 (.c0 (.c0 (.c0 .n)))))))) h1
   refine c_hS S (.tk 0 4 (.take 5 (.take 6 (.alts (.run 4 true (.alts (.run 7 true (.alts (.run 8 true (.take 9 (.take 10 .done)) .nil)) .nil)) .nil))))) 11 (.c0 (.c4 .n)) ⟨Res.stay_cells,Res.stay_cells,tv⟩ [(13,(.p g148)),(11,(.b y27)),(6,(.p g126))] rfl (by kernel_rfl) fun w S CL hw le=>?_
   refine h_mv1 S CL hw le rfl tv fun a S CL=>h_not S CL hw le (subR rfl) rfl rfl rfl tv fun a S CL=>h_mv1 S CL hw le rfl tv fun a S CL=>?_
   rcases ite_of h2 with ⟨c11,h3⟩ | ⟨c11,h3⟩
   ·refine h_loada S CL hw le (subR rfl) rfl .h1 T43 (s':=[.w4 x3]) rfl rfl rfl ⟨_,_,rfl,rfl,c11⟩ fun a S CL=>h_fieldAddr S CL hw le (subR rfl) rfl I83_0 T43 (by decide) rfl rfl rfl ⟨_,_,rfl,rfl,c11⟩ fun a S CL=>h_loada S CL hw le (subR rfl) rfl .h T43 (s':=[.w4 ((gt t1.1.t4 y26).1)]) rfl rfl rfl ⟨_,_,rfl,rfl,c11⟩ fun a S CL=>h_run' S rfl ⟨_,_,rfl,rfl,c11⟩ (bindX h3 fun t6 et6 h4=>s_callK S (fh8_.ok k et6) N79 rfl .pre (fun _=> .n) rfl fun ch4 m le1 a w S=>?_)
    replace le:=le.trans le1
    refine CL.bk hw S (.c0 (.c4 .n)) le fun hw=>h_run' S rfl ⟨_,_,rfl,rfl,c11⟩ (bindX h4 fun t7 et7 h5=>s_callK S (fh8_.ok k et7) N79 rfl .pre (fun _=> .n) rfl fun ch5 m le1 a w S=>?_)
    replace le:=le.trans le1
    refine CL.bk hw S (.c0 (.c4 .n)) le fun hw=>h_run' S rfl ⟨_,_,rfl,rfl,c11⟩ (bindX h5 fun t8 et8 h6=>s_callK S (fd9_.ok k et8) N78 rfl .pre (fun _=> .n) rfl fun ch6 m le1 a w S=>?_)
    replace le:=le.trans le1
    refine CL.bk hw S (.c0 (.c4 .n)) le fun hw=>?_
    replace CL:=CL.add (t:=39) (d:=(.i t8)) S rfl rfl
    refine h_bin S CL hw le (subR rfl) rfl rfl rfl rfl rfl ⟨_,_,rfl,rfl,c11⟩ fun a S CL=>h_pick S CL hw le (subR rfl) (b:=true) (hc_of rfl c11) rfl rfl rfl tv fun a S CL=>?_
    refine h_done ?_; clear CL hw le
    refine x_thenN ?_
    exact j6 _ (decide (t8≤0)) g148 g123 g124 g125 g126 g127 a w (S.sb rfl (.c0 (.c0 (.c0 (.c0 (.c0 (.c0 (.c0 .n)))))))) h6
   ·refine h_sk2 S CL rfl (ne_bool c11) fun a S CL=>h_sk1 S CL rfl (ne_bool c11) fun a S CL=>h_skipRt S rfl rfl rfl (ne_bool c11) rfl fun a S=>CL.bk hw S (.c0 (.c4 .n)) le fun hw=>h_skipRt S rfl rfl rfl (ne_bool c11) rfl fun a S=>CL.bk hw S (.c0 (.c4 .n)) le fun hw=>h_skipRt S rfl rfl rfl (ne_bool c11) rfl fun a S=>CL.bk hw S (.c0 (.c4 .n)) le fun hw=>?_
    replace CL:=CL.add (t:=39) (d:= .u) S rfl rfl
    refine h_sk1 S CL rfl (ne_bool c11) fun a S CL=>h_pick S CL hw le (subR rfl) (b:=false) (hc_of rfl c11) rfl rfl rfl tv fun a S CL=>?_
    refine h_done ?_; clear CL hw le
    refine x_thenN ?_
    exact j6 _ false g148 g123 g124 g125 g126 g127 a w (S.sb rfl (.c0 (.c0 (.c0 (.c0 (.c0 (.c0 (.c0 .n)))))))) h3
  ·refine c_condF S rfl c4 (wp_exit (x_thenX (x_thenX (x_blockX (x_thenN ?_)))))
   exact j1 _ y27 A6 nn8 cp20 y28 g123 g124 g125 g126 g127 A7 cp21 A8 cp22 a w (S.sb rfl (.c0 (.c0 (.c0 (.c0 (.c0 (.c0 .n))))))) h1
abbrev fb8_.Ty:Type:=ST37→(List Int)→Option Bool
def fb8_.Ctr (s:fb8_.Ty):Prop:=∀ {x1:ST37} {x2:List Int} {ch_0_0:(Option Addr×Nat)×(Option Addr×Nat)×(Option Addr×Nat)×(Option Addr×Nat)×Unit×(Option Addr×Nat)×Unit×(Option Addr×Nat)} {r:Bool} (h0:s x1 x2=some r) {mi:Mem} {w0:World},CtrB Tryz.prog 80 [(.agg (SY37.segs x1 ch_0_0)),(.agg [.b20 x2])] [] (fun (ch:Unit)=>((.b r):D)) (fun (ch:Unit)=>[]) mi w0
def fb8_.j1:Option Bool:=some true
def fb8_.b1 (x1:ST37)(x2:List Int)(rec1:Int→Option Bool)(y1:Int):Option Bool:=if (decide (y1<(((ST37.un x1).2.2.1).length:Int)))=true then (if (0:Int)≤y1∧y1<(((ST37.un x1).2.2.1).length:Int) then (if (decide (gt ((ST37.un x1).2.2.1) y1=x2))=true then (some false) else (rec1 (wr .i64 (y1+1)))) else none) else fb8_.j1
def fb8_.l1 (x1:ST37)(x2:List Int):Nat→Int→Option Bool
  | 0,_=>none
  | q+1,y1=>fb8_.b1 x1 x2 (fb8_.l1 x1 x2 q) y1
def fb8_.f (k:Nat)(x1:ST37)(x2:List Int):Option Bool:=fb8_.l1 x1 x2 k 0
theorem fb8_.ok (k:Nat):fb8_.Ctr (fb8_.f k):=by
 intro x1 x2 ch_0_0 r h0 mi w0 ok hm
 delta fb8_.f at h0
 refine c_enterZ (n:=20) ok hm func80 rfl rfl rfl fun b0 hb a S=>c_region (s_box S rfl rfl rfl fun g1 a w S=>s_box S rfl rfl rfl fun g2 a w S=>s_as1 S rfl fun a S=>c_end (wp_seq_k fun K1 hK1=>?_))
 have j1:∀ m a w,St 20 m b0 [] [] a w→fb8_.j1=some r→K1 a w:=by
  intro m a w S h0
  delta fb8_.j1 at h0
  refine hK1 a w (c_region (s_as1 S rfl fun a S=>c_end (wp_ret ?_)))
  obtain rfl:=sI h0
  exact b_ret1 (d:=(.b true)) S rfl rfl (S.rt hb)
 refine c_region (s_fieldAddr S rfl I37_2 T32 (by decide) rfl rfl fun a S=>s_loadSl S rfl .h1 T32 (A:=ch_0_0.e3.1) (len:=((ST37.un x1).e3).length) (cap:=ch_0_0.e3.2) rfl rfl fun a S=>s_lenS S rfl underlying32 rfl fun a S=>s_mv1 S rfl fun a S=>c_end (wp_block ?_))
 refine c_loop (fun q1 a w=>∃ m y1 g13 g14,St 20 m b0 [(9,(.i y1)),(8,(.i (((ST37.un x1).e3).length:Int))),(3,(.p g13)),(2,(.p g14))] [Res.cells g13 40 [.b20 x2],Res.cells g14 37 (SY37.segs x1 ch_0_0)] a w∧fb8_.l1 x1 x2 q1 y1=some r) ?_ ?_ (k:=k) ⟨_,0,g2,g1,(S.sb rfl (.c0 (.c0 .n))),h0⟩
 ·rintro a w ⟨m,y1,g13,g14,S,h0⟩
  exact (nomatch (show (none:Option Bool)=some r from h0))
 ·clear S h0
  rintro q1 a w ⟨m,y1,g13,g14,S,h0⟩
  replace h0:fb8_.b1 x1 x2 (fb8_.l1 x1 x2 q1) y1=some r:=h0
  delta fb8_.b1 at h0
  refine c_region (s_bi S rfl fun a S=>c_end (wp_seq ?_))
  rcases ite_of h0 with ⟨c1,h1⟩ | ⟨c1,h1⟩
  ·refine c_condT S rfl c1 (wp_skip (x_thenN (wp_seq (wp_block (c_region (s_mv1 S rfl fun a S=>s_as1 S rfl fun a S=>c_end ?_))))))
   refine wp_seq (c_hS S (.tk 0 7 .done) 7 (.c0 (.c0 .n)) ⟨Res.stay_cells,Res.stay_cells,tv⟩ [(5,(.i y1)),(3,(.p g13)),(2,(.p g14))] rfl (by kernel_rfl) ?_); clear S; intro w S CL hw le
   refine h_fieldAddr S CL hw le (subR rfl) rfl I37_2 T32 (by decide) rfl rfl rfl tv fun a S CL=>h_loadSl S CL hw le (subR rfl) rfl .h1 T32 (A:=ch_0_0.e3.1) (len:=((ST37.un x1).e3).length) (cap:=ch_0_0.e3.2) rfl rfl rfl tv fun a S CL=>h_mv1 S CL hw le rfl tv fun a S CL=>?_
   obtain ⟨c2,h2⟩:=chk_of h1; clear h1
   refine h_iaddrS S CL hw le (subR rfl) rfl rfl rfl underlying32 T40 c2.1 c2.2 rfl rfl tv fun p1 a S CL=>h_ldA S CL hw le (subR rfl) (fun (c:Unit)=>[.b20 (gt ((ST37.un x1).e3) y1)]) rfl T40 (fun _=>rfl) rfl rfl tv fun ch1 a S CL=>?_
   refine h_loada S CL hw le (subR rfl) rfl .h T40 (s':=[.b20 x2]) rfl rfl rfl tv fun a S CL=>h_eqa S CL hw le (subR rfl) rfl rfl underlying40 underlying5 T5 Q40 rfl rfl tv fun a S CL=>?_
   refine h_done ?_; clear CL hw le
   refine x_thenN ?_
   rcases ite_of h2 with ⟨c3,h3⟩ | ⟨c3,h3⟩
   ·refine c_condT S rfl c3 (c_region (s_as1 S rfl fun a S=>c_end (wp_ret (x_blockR (x_thenR (x_thenR (x_blockR (x_thenR ?_))))))))
    obtain rfl:=sI h3
    exact b_ret1 (d:=(.b false)) S rfl rfl (S.rt hb)
   ·refine c_condF S rfl c3 (wp_skip (x_blockN (x_thenN (c_region' (s_bi S rfl fun a S=>s_mv1 S rfl fun a S=>c_end' (x_thenN ?_))))))
    exact ⟨_,(wr .i64 (y1+1)),g13,g14,(S.sb rfl (.c0 (.c0 .n))),h3⟩
  ·refine c_condF S rfl c1 (wp_exit (x_thenX (x_thenX (x_blockX (x_thenN ?_)))))
   exact j1 _ a w (S.sub tv .nil) h1
abbrev fb3_.Ty:Type:=ST37→(List Int)→Option (Bool×ST37)
def fb3_.Ctr (s:fb3_.Ty):Prop:=∀ {x1:ST37} {x2:List Int} {ch_0_0:(Option Addr×Nat)×(Option Addr×Nat)×(Option Addr×Nat)×(Option Addr×Nat)×Unit×(Option Addr×Nat)×Unit×(Option Addr×Nat)} {r:Bool×ST37} (h0:s x1 x2=some r) {mi:Mem} {w0:World},CtrB Tryz.prog 44 [(.agg (SY37.segs x1 ch_0_0)),(.agg [.b20 x2])] [] (fun (ch:W21)=>((.tup [(false,[.b r.1]),(true,(SY37.segs r.2 ch))]):D)) (fun (ch:W21)=>[]) mi w0
def fb3_.f (k:Nat)(x1:ST37)(x2:List Int):Option (Bool×ST37):=(fb8_.f k x1 x2).bind fun t1=>(if (!t1)=true then (some (false,x1)) else ((fb7_.f x1).bind fun t2=>(if ((([]:List (List Int))).length+((ST37.un t2).2.2.1).length)*20≤140737488355328 then (if ((([]:List (List Int))++((ST37.un t2).2.2.1)).length+([x2]).length)*20≤140737488355328 then (some (true,(ST37.mk ((ST37.un t2).1,(ST37.un t2).2.1,(([]:List (List Int))++((ST37.un t2).2.2.1))++[x2],(ST37.un t2).2.2.2.1,(ST37.un t2).2.2.2.2.1,(ST37.un t2).2.2.2.2.2.1,(ST37.un t2).2.2.2.2.2.2.1,(ST37.un t2).2.2.2.2.2.2.2)))) else none) else none)))
theorem fb3_.ok (k:Nat):fb3_.Ctr (fb3_.f k):=by
 intro x1 x2 ch_0_0 r h0 mi w0 ok hm
 delta fb3_.f at h0
 refine c_enterZ (n:=26) ok hm func44 rfl rfl rfl fun b0 hb a S=>c_region (s_box S rfl rfl rfl fun g1 a w S=>s_box S rfl rfl rfl fun g2 a w S=>s_as1 S rfl fun a S=>s_alloc S Z37 rfl ⟨rfl,rfl,rfl,rfl,rfl,rfl,rfl,rfl,tv⟩ rfl fun g3 a w S=>c_end (wp_seq (c_region (s_loada S rfl .h2 T37 (s':=(SY37.segs x1 ch_0_0)) rfl rfl fun a S=>s_loada S rfl .h1 T40 (s':=[.b20 x2]) rfl rfl fun a S=>bindX h0 fun t1 et1 h1=>s_callK S (fb8_.ok k (ch_0_0:=ch_0_0) et1) N80 rfl .pre (fun _=> .n) rfl fun ch1 m le1 a w S=>s_not S rfl rfl fun a S=>c_end ?_))))
 rcases ite_of h1 with ⟨c1,h2⟩ | ⟨c1,h2⟩
 ·refine c_condT S rfl c1 ?_
  refine wp_seq (c_heldS S (.take 0 (.take 1 (.alts (.run 2 false .done .nil)))) 2 [Res.cells g1 37 (SY37.segs x1 ch_0_0)] (.c2 .n) ⟨Res.stay_cells,tv⟩ [(2,(.p g1))] ⟨rfl,tv⟩ (by kernel_rfl) (by kernel_rfl) ?_); clear S; intro w S CL hw le
  refine h_loada S CL hw le ⟨rfl,tv⟩ rfl .h T37 (s':=(SY37.segs x1 ch_0_0)) rfl rfl rfl tv fun a S CL=>h_assign S CL hw le (subR rfl) rfl rfl rfl tv fun a S CL=>h_run' S rfl tv (s_store S rfl rfl rfl (s':=(SY37.segs x1 ch_0_0)) .h T37 rfl rfl fun w S=>?_)
  refine h_back ⟨fun h=>(nomatch h),?_⟩
  refine h_done ?_; clear CL hw le
  refine x_thenN (wp_ret (x_thenR ?_))
  obtain rfl:=sI h2
  exact b_ret2 (d1:=(.b false)) (d2:=(.agg (SY37.segs x1 ch_0_0))) S rfl rfl (resD_cell rfl .h T37 rfl rfl) fun ok1 ok2=>S.retX (Hx:=[]) hb _ _ (ch_0_0:W21) .nil ⟨⟨ok1,tv⟩,ok2,tv⟩
 ·refine c_condF S rfl c1 (wp_skip (x_thenN (c_region (s_loada S rfl .h2 T37 (s':=(SY37.segs x1 ch_0_0)) rfl rfl fun a S=>bindX h2 fun t2 et2 h3=>s_callK S (fb7_.ok (ch_0_0:=ch_0_0) et2) N81 rfl .pre (fun _=> .n) rfl fun ch2 m le1 a w S=>s_store S rfl rfl rfl (s':=(SY37.segs t2 ch2)) .h2 T37 rfl rfl fun w S=>c_end (c_region (s_bldSl S (ty':=(Ty.arr .u8 20)) (ds:=[]) (z:=z20) (c0:=()) (ys:=([]:List (List Int))) (cs:=[]) rfl underlying32 J40 Z40 rfl ⟨rfl,tv⟩ rfl rfl rfl rfl rfl rfl fun g4 a w S=>s_as1 S rfl fun a S=>c_end (c_region (s_mv1 S rfl fun a S=>s_fieldAddr S rfl I37_2 T32 (by decide) rfl rfl fun a S=>s_loadSl S rfl .h3 T32 (A:=ch2.e3.1) (len:=((ST37.un t2).e3).length) (cap:=ch2.e3.2) rfl rfl fun a S=>?_))))))))
  obtain ⟨c2,h4⟩:=chk_of h3; clear h3
  refine s_app S (k2:=(((ST37.un t2).e3).length)) (ys:=((ST37.un t2).e3)) rfl (fun _ _=> .h) rfl rfl rfl (RdS.src (S.get 17 (.q (Ty.arr .u8 20) ch2.e3.1 ch2.e3.2 ((ST37.un t2).e3)) rfl).2.2.2.1 (by decide) S.frz) underlying32 J40 c2 rfl fun A1 cp1 a w S=>s_as1 S rfl fun a S=>c_end (c_region (s_mv1 S rfl fun a S=>s_loada S rfl .h2 T40 (s':=[.b20 x2]) rfl rfl fun a S=>s_bldSl S (ty':=(Ty.arr .u8 20)) (ds:=[(0,(.agg [.b20 x2]))]) (z:=z20) (c0:=()) (ys:=[x2]) (cs:=[()]) rfl underlying32 J40 Z40 rfl ⟨rfl,tv⟩ rfl rfl rfl rfl rfl rfl fun g5 a w S=>?_))
  obtain ⟨c3,h5⟩:=chk_of h4; clear h4
  refine s_app S (k2:=1) (ys:=[x2]) rfl (fun _ _=> .h1) rfl rfl (S.holds _ (Pull.mem .h).1).1 (Res.row.src (S.holds _ (Pull.mem .h).1)) underlying32 J40 c3 rfl fun A2 cp2 a w S=>s_as1 S rfl fun a S=>c_end (c_region (s_mv1 S rfl fun a S=>s_fieldAddr S rfl I37_2 T32 (by decide) rfl rfl fun a S=>s_storeJ S 2 rfl rfl rfl rfl .h4 T32 rfl rfl fun w S=>c_end ?_))
  refine wp_seq (c_heldS S (.take 0 (.take 1 (.alts (.run 2 false .done .nil)))) 2 [Res.cells g1 37 [.q Y71 ch2.1.1 ch2.1.2 ((ST37.un t2).1), .q Y122 ch2.2.1.1 ch2.2.1.2 ((ST37.un t2).2.1), .s A2 ((0+(((ST37.un t2).e3).length))+1) cp2, .q Y133 ch2.e4.1 ch2.e4.2 ((ST37.un t2).e4), .i ((ST37.un t2).e5), .q Y100 ch2.e6.1 ch2.e6.2 ((ST37.un t2).e6), .b ((ST37.un t2).e7), .sl ch2.e8 ((ST37.un t2).t7).length ch2.t8 (SR37 ch2.e8 ((ST37.un t2).t7))]] (.c4 .n) ⟨Res.stay_cells,tv⟩ [(2,(.p g1))] ⟨rfl,tv⟩ (by kernel_rfl) (by kernel_rfl) ?_); clear S; intro w S CL hw le
  refine h_loada S CL hw le ⟨rfl,tv⟩ rfl .h T37 (s':=[.q Y71 ch2.1.1 ch2.1.2 ((ST37.un t2).1), .q Y122 ch2.2.1.1 ch2.2.1.2 ((ST37.un t2).2.1), .s A2 ((0+(((ST37.un t2).e3).length))+1) cp2, .q Y133 ch2.e4.1 ch2.e4.2 ((ST37.un t2).e4), .i ((ST37.un t2).e5), .q Y100 ch2.e6.1 ch2.e6.2 ((ST37.un t2).e6), .b ((ST37.un t2).e7), .sl ch2.e8 ((ST37.un t2).t7).length ch2.t8 (SR37 ch2.e8 ((ST37.un t2).t7))]) rfl rfl rfl tv fun a S CL=>h_assign S CL hw le (subR rfl) rfl rfl rfl tv fun a S CL=>h_run' S rfl tv (s_store S rfl rfl rfl (s':=[.q Y71 ch2.1.1 ch2.1.2 ((ST37.un t2).1), .q Y122 ch2.2.1.1 ch2.2.1.2 ((ST37.un t2).2.1), .s A2 ((0+(((ST37.un t2).e3).length))+1) cp2, .q Y133 ch2.e4.1 ch2.e4.2 ((ST37.un t2).e4), .i ((ST37.un t2).e5), .q Y100 ch2.e6.1 ch2.e6.2 ((ST37.un t2).e6), .b ((ST37.un t2).e7), .sl ch2.e8 ((ST37.un t2).t7).length ch2.t8 (SR37 ch2.e8 ((ST37.un t2).t7))]) .h2 T37 rfl rfl fun w S=>?_)
  refine h_back ⟨fun h=>(nomatch h),?_⟩
  refine h_done ?_; clear CL hw le
  refine x_thenN (wp_ret ?_)
  replace S:=S.rowfro .h1
  obtain ⟨m,le1,S,hro⟩:=S
  replace S:=S.slotF 25 2 rfl rfl hro
  replace S:=S.slotro (u:=23) rfl hro
  replace S:=S.slotro (u:=6) rfl hro
  replace S:=S.slotro (u:=22) rfl hro
  replace S:=S.cellF 2 .h1 rfl hro
  replace S:=S.cellF 2 .h3 rfl hro
  obtain rfl:=sI h5
  exact b_ret2 (d1:=(.b true)) (d2:=(.agg (SY37.segs (ST37.mk ((ST37.un t2).1,(ST37.un t2).2.1,(([]:List (List Int))++((ST37.un t2).e3))++[x2],(ST37.un t2).e4,(ST37.un t2).e5,(ST37.un t2).e6,(ST37.un t2).e7,(ST37.un t2).t7)) (ch2.1,ch2.2.1,(A2,cp2),ch2.e4,(),ch2.e6,(),ch2.t7)))) S rfl rfl (resD_cell rfl .h1 T37 rfl rfl) fun ok1 ok2=>S.retX (Hx:=[]) hb _ _ ((ch2.1,ch2.2.1,(A2,cp2),ch2.e4,(),ch2.e6,(),ch2.t7):W21) .nil ⟨⟨ok1,tv⟩,ok2,tv⟩
abbrev ff6_.Ty:Type:=W2→(List Int)→Option W22
def ff6_.Ctr (s:ff6_.Ty):Prop:=∀ {x1:W2} {x2:List Int} {ch_0:W3} {r:W22} (h0:s x1 x2=some r) {mi:Mem} {w0:World},CtrB Tryz.prog 28 [(.v (.pointer (some ⟨ch_0.1,0,none⟩))),(.agg [.b20 x2])] (MS1 x1 ch_0) (fun (ch:W7)=>((.b r.1):D)) (fun (ch:W7)=>(MS1 (x1.1,r.e3,x1.e3,r.e5,r.e6,r.t6) (ch_0.1,ch_0.2.1,ch_0.e3,ch.1,ch.2.1,ch.e3,ch.e4,ch.e5,ch.e6,ch.e7,ch.e8,ch.e9,ch.e10,ch.e11,ch.e12,ch.t12))) mi w0
def ff6_.f (k:Nat)(x1:W2)(x2:List Int):Option W22:=(fh6_.f k x1 x2).bind fun t1=>(if t1.1.isSome=true then (if ((atE t1.2.2.1.2.1 (t1.1.getD 0)).2.2.2.2.2.1)=true then (some (false,((),t1.2.2.1,(),t1.2.2.2.2.1,t1.2.2.2.2.2.1,t1.2.2.2.2.2.2))) else ((fd1_.f (x1.1,t1.2.2.1,x1.2.2.1,t1.2.2.2.2.1,t1.2.2.2.2.2.1,t1.2.2.2.2.2.2) (Clo.c69 t1.1)).bind fun t2=>(some (true,((),(t1.2.2.1.1,t1.2.2.1.2.1.set (t1.1.getD 0) ((atE t1.2.2.1.2.1 (t1.1.getD 0)).1,(atE t1.2.2.1.2.1 (t1.1.getD 0)).2.1,(atE t1.2.2.1.2.1 (t1.1.getD 0)).2.2.1,(atE t1.2.2.1.2.1 (t1.1.getD 0)).2.2.2.1,(atE t1.2.2.1.2.1 (t1.1.getD 0)).2.2.2.2.1,true,(atE t1.2.2.1.2.1 (t1.1.getD 0)).2.2.2.2.2.2),t1.2.2.1.2.2.1,t1.2.2.1.2.2.2),(),t1.2.2.2.2.1,t2.2.2.2.2.1,t1.2.2.2.2.2.2))))) else none)
theorem ff6_.ok (k:Nat):ff6_.Ctr (ff6_.f k):=by
 intro x1 x2 ch_0 r h0 mi w0 ok hm
 delta ff6_.f at h0
 refine c_enterZ (n:=21) ok hm func28 rfl rfl rfl fun b0 hb a S=>c_region (s_box S rfl rfl rfl fun g1 a w S=>s_as1 S rfl fun a S=>c_end (wp_seq (c_region (s_mv1 S rfl fun a S=>s_eqp S (b:=false) rfl rfl underlying26 rfl rfl fun a S=>c_end (c_condF S rfl rfl (wp_skip (x_thenN (c_region (s_mv1 S rfl fun a S=>s_loada S rfl .h T40 (s':=[.b20 x2]) rfl rfl fun a S=>bindX h0 fun t1 et1 h1=>s_callK S (fh6_.ok k (ch_0:=ch_0) et1) N56 rfl (.sk .pre) (fun _=> .c8) rfl fun ch1 m le1 a w S=>s_alloc S Z111 rfl rfl rfl fun g2 a w S=>s_storeJ S 0 rfl rfl rfl rfl .h T111 rfl rfl fun w S=>c_end (wp_seq (c_region (s_loadM S rfl .h T111 (v:=(ptrV ch1.2.1 t1.1)) rfl rfl fun a S=>?_))))))))))))
 obtain ⟨c1,h2⟩:=chk_of h1; clear h1
 have hl1:=S.slotPlt (u:=11) c1 rfl
 replace S:=S.slotP (u:=11) c1 rfl
 refine s_nilchk S rfl rfl fun a S=>s_fieldAddr S rfl I110_5 T4 (by decide) rfl rfl fun a S=>?_
 replace S:=S.famOpen (i:=(t1.1.getD 0)) hl1 .h3
 have hS:=S.structOpen (T:=(YE110 ch1.e3 ch1.e4)) (fun _=> .h) (((),(),(),(none,0),(none,0)),((),(),(),(none,0),(none,0)),(),(),(),(),())
 clear S; obtain ⟨ch2,S⟩:=hS
 refine s_load1 S rfl .h T4 (v:=(.bool ((atE t1.e3.2.1 (t1.1.getD 0)).e6))) rfl rfl fun a S=>?_
 replace S:=S.structClose (T:=(YE110 ch1.e3 ch1.e4)) (e:=atE t1.e3.2.1 (t1.1.getD 0)) (ch2:((YE110 ch1.e3 ch1.e4)).Ch) rfl .h
 replace S:=S.famShut hl1 .h .h3
 refine c_end ?_
 rcases ite_of h2 with ⟨c2,h3⟩ | ⟨c2,h3⟩
 ·refine c_condT S rfl c2 (c_region (s_as1 S rfl fun a S=>c_end (wp_ret (x_thenR ?_))))
  obtain rfl:=sI h3
  exact b_ret1 (d:=(.b false)) S rfl rfl fun ok=>S.retX (Hx:=[]) hb _ _ (ch1:W7) (.c1 (.c1 (.c1 (.c1 (.c1 (.c1 (.c1 (.c1 .n)))))))) ok
 ·refine c_condF S rfl c2 (wp_skip (x_thenN (c_region (s_mv1 S rfl fun a S=>?_))))
  replace S:=S.freeze .h
  obtain ⟨m,le1,S⟩:=S
  replace S:=S.slotAt (u:=5) (g:=g2) (t:=111) (T:=(Ty.pid ch1.2.1)) (x:=t1.1) (c:=(():((Ty.pid ch1.2.1)).Ch)) .h rfl rfl
  refine s_mkFn S (ds:=[(.pt ⟨g2,0,none⟩ (At (Ty.pid ch1.2.1) ⟨g2,0,none⟩ t1.1))]) rfl rfl fun a S=>?_
  replace S:=S.slotFn (u:=16) (V:=cloV) (R:=cloR ch_0.1 ch1.2.1 ch1.e3 ch1.e4) (Clo.c69 t1.1) ([⟨g2,0,none⟩]:List Addr) rfl (fun h=>⟨h.1.1,tv⟩) (cloM _ _ _ _ _ _) rfl
  replace S:=S.slot (u:=5) (d':= .v (.pointer (ad g2))) rfl rfl rfl
  refine bindX h3 fun t2 et2 h4=>s_callK S (fd1_.ok (ch_0:=(ch_0.1,ch_0.2.1,ch_0.e3,ch1.1,ch1.2.1,ch1.e3,ch1.e4,ch1.e5,ch1.e6,ch1.e7,ch1.e8,ch1.e9,ch1.e10,ch1.e11,ch1.e12,ch1.t12)) et2) N68 rfl (.sk .pre) (fun _=> .c8) rfl fun ch3 m le1 a w S=>c_end (c_region (s_loadMF S rfl .h8 T111 (v:=(ptrV ch1.2.1 t1.1)) rfl rfl fun a S=>?_))
  have hl1:=S.slotPlt (u:=18) c1 rfl
  replace S:=S.slotP (u:=18) c1 rfl
  refine s_nilchk S rfl rfl fun a S=>s_fieldAddr S rfl I110_5 T4 (by decide) rfl rfl fun a S=>?_
  replace S:=S.famOpen (i:=(t1.1.getD 0)) hl1 .h2
  have hS:=S.structOpen (T:=(YE110 ch1.e3 ch1.e4)) (fun _=> .h) (((),(),(),(none,0),(none,0)),((),(),(),(none,0),(none,0)),(),(),(),(),())
  clear S; obtain ⟨ch4,S⟩:=hS
  refine s_storeJ S 13 rfl rfl rfl rfl .h T4 rfl rfl fun w S=>?_
  replace S:=S.structClose (T:=(YE110 ch1.e3 ch1.e4)) (e:=((atE t1.e3.2.1 (t1.1.getD 0)).1,(atE t1.e3.2.1 (t1.1.getD 0)).2.1,(atE t1.e3.2.1 (t1.1.getD 0)).e3,(atE t1.e3.2.1 (t1.1.getD 0)).e4,(atE t1.e3.2.1 (t1.1.getD 0)).e5,true,(atE t1.e3.2.1 (t1.1.getD 0)).t6)) (ch4:((YE110 ch1.e3 ch1.e4)).Ch) rfl .h
  replace S:=S.famClose hl1 .h .h2
  refine c_end (c_region (s_as1 S rfl fun a S=>c_end (wp_ret ?_)))
  obtain rfl:=sI h4
  exact b_ret1 (d:=(.b true)) S rfl rfl fun ok=>S.retX (Hx:=[]) hb _ _ ((ch1.1,ch1.2.1,ch1.e3,ch1.e4,ch1.e5,ch1.e6,ch1.e7,ch3.1,ch3.2.1,ch3.t2,ch1.e11,ch1.e12,ch1.t12):W7) (.c0 (.c0 (.c0 (.c0 (.c0 (.c0 (.c0 (.c0 .n)))))))) ok
abbrev fa2_.Ty:Type:=ST37→(List Int)→(List Int)→Option Bool
def fa2_.Ctr (s:fa2_.Ty):Prop:=∀ {x1:ST37} {x2:List Int} {x3:List Int} {ch_0_0:(Option Addr×Nat)×(Option Addr×Nat)×(Option Addr×Nat)×(Option Addr×Nat)×Unit×(Option Addr×Nat)×Unit×(Option Addr×Nat)} {r:Bool} (h0:s x1 x2 x3=some r) {mi:Mem} {w0:World},CtrB Tryz.prog 82 [(.agg (SY37.segs x1 ch_0_0)),(.agg [.b20 x2]),(.a4 x3)] [] (fun (ch:Unit)=>((.b r):D)) (fun (ch:Unit)=>[]) mi w0
def fa2_.j1:Option Bool:=some true
def fa2_.j2 (y1:Int)(rec1:Int→Option Bool)(y2:Bool):Option Bool:=if y2=true then (some false) else (rec1 (wr .i64 (y1+1)))
def fa2_.b1 (x1:ST37)(x2:List Int)(x3:List Int)(rec1:Int→Option Bool)(y1:Int):Option Bool:=if (decide (y1<(((ST37.un x1).2.2.2.1).length:Int)))=true then (if (0:Int)≤y1∧y1<(((ST37.un x1).2.2.2.1).length:Int) then (if (decide ((gt ((ST37.un x1).2.2.2.1) y1).1=x2))=true then (fa2_.j2 y1 rec1 (decide ((gt ((ST37.un x1).2.2.2.1) y1).2=x3))) else (fa2_.j2 y1 rec1 false)) else none) else fa2_.j1
def fa2_.l1 (x1:ST37)(x2:List Int)(x3:List Int):Nat→Int→Option Bool
  | 0,_=>none
  | q+1,y1=>fa2_.b1 x1 x2 x3 (fa2_.l1 x1 x2 x3 q) y1
def fa2_.f (k:Nat)(x1:ST37)(x2:List Int)(x3:List Int):Option Bool:=fa2_.l1 x1 x2 x3 k 0
theorem fa2_.ok (k:Nat):fa2_.Ctr (fa2_.f k):=by
 intro x1 x2 x3 ch_0_0 r h0 mi w0 ok hm
 delta fa2_.f at h0
 refine c_enterZ (n:=33) ok hm func82 rfl rfl rfl fun b0 hb a S=>c_region (s_box S rfl rfl rfl fun g1 a w S=>s_box S rfl rfl rfl fun g2 a w S=>s_box S rfl rfl rfl fun g3 a w S=>s_as1 S rfl fun a S=>c_end (wp_seq_k fun K1 hK1=>?_))
 have j1:∀ m a w,St 33 m b0 [] [] a w→fa2_.j1=some r→K1 a w:=by
  intro m a w S h0
  delta fa2_.j1 at h0
  refine hK1 a w (c_region (s_as1 S rfl fun a S=>c_end (wp_ret ?_)))
  obtain rfl:=sI h0
  exact b_ret1 (d:=(.b true)) S rfl rfl (S.rt hb)
 refine c_region (s_fieldAddr S rfl I37_3 T33 (by decide) rfl rfl fun a S=>s_loadSl S rfl .h2 T33 (A:=ch_0_0.e4.1) (len:=((ST37.un x1).e4).length) (cap:=ch_0_0.e4.2) rfl rfl fun a S=>s_lenS S rfl underlying33 rfl fun a S=>s_mv1 S rfl fun a S=>c_end (wp_block ?_))
 refine c_loop (fun q1 a w=>∃ m y1 g31 g32 g33,St 33 m b0 [(11,(.i y1)),(10,(.i (((ST37.un x1).e4).length:Int))),(5,(.p g31)),(4,(.p g32)),(3,(.p g33))] [Res.cells g31 43 [.w4 x3],Res.cells g32 40 [.b20 x2],Res.cells g33 37 (SY37.segs x1 ch_0_0)] a w∧fa2_.l1 x1 x2 x3 q1 y1=some r) ?_ ?_ (k:=k) ⟨_,0,g3,g2,g1,(S.sb rfl (.c0 (.c0 (.c0 .n)))),h0⟩
 ·rintro a w ⟨m,y1,g31,g32,g33,S,h0⟩
  exact (nomatch (show (none:Option Bool)=some r from h0))
 ·clear S h0
  rintro q1 a w ⟨m,y1,g31,g32,g33,S,h0⟩
  replace h0:fa2_.b1 x1 x2 x3 (fa2_.l1 x1 x2 x3 q1) y1=some r:=h0
  delta fa2_.b1 at h0
  refine c_region (s_bi S rfl fun a S=>c_end (wp_seq ?_))
  rcases ite_of h0 with ⟨c1,h1⟩ | ⟨c1,h1⟩
  ·refine c_condT S rfl c1 (wp_skip (x_thenN (wp_seq (wp_block (c_region (s_mv1 S rfl fun a S=>s_as1 S rfl fun a S=>c_end (wp_seq_k fun K2 hK2=>?_)))))))
   have j2:∀ m y2 g34 g35 g36 a w,St 33 m b0 [(31,(.b y2)),(11,(.i y1)),(10,(.i (((ST37.un x1).e4).length:Int))),(5,(.p g34)),(4,(.p g35)),(3,(.p g36))] [Res.cells g34 43 [.w4 x3],Res.cells g35 40 [.b20 x2],Res.cells g36 37 (SY37.segs x1 ch_0_0)] a w→fa2_.j2 y1 (fa2_.l1 x1 x2 x3 q1) y2=some r→K2 a w:=by
    intro m y2 g34 g35 g36 a w S h0
    delta fa2_.j2 at h0
    refine hK2 a w ?_
    rcases ite_of h0 with ⟨c2,h1⟩ | ⟨c2,h1⟩
    ·refine c_condT S rfl c2 (c_region (s_as1 S rfl fun a S=>c_end (wp_ret (x_blockR (x_thenR (x_thenR (x_blockR (x_thenR ?_))))))))
     obtain rfl:=sI h1
     exact b_ret1 (d:=(.b false)) S rfl rfl (S.rt hb)
    ·refine c_condF S rfl c2 (wp_skip (x_blockN (x_thenN (c_region' (s_bi S rfl fun a S=>s_mv1 S rfl fun a S=>c_end' (x_thenN ?_))))))
     exact ⟨_,(wr .i64 (y1+1)),g34,g35,g36,(S.sb rfl (.c0 (.c0 (.c0 .n)))),h1⟩
   refine c_hS S (.tk 0 18 .done) 18 (.c0 (.c0 (.c0 .n))) ⟨Res.stay_cells,Res.stay_cells,Res.stay_cells,tv⟩ [(7,(.i y1)),(5,(.p g31)),(4,(.p g32)),(3,(.p g33))] rfl (by kernel_rfl) fun w S CL hw le=>?_
   refine h_fieldAddr S CL hw le (subR rfl) rfl I37_3 T33 (by decide) rfl rfl rfl tv fun a S CL=>h_loadSl S CL hw le (subR rfl) rfl .h2 T33 (A:=ch_0_0.e4.1) (len:=((ST37.un x1).e4).length) (cap:=ch_0_0.e4.2) rfl rfl rfl tv fun a S CL=>h_mv1 S CL hw le rfl tv fun a S CL=>?_
   obtain ⟨c3,h2⟩:=chk_of h1; clear h1
   refine h_iaddrS S CL hw le (subR rfl) rfl rfl rfl underlying33 T133 c3.1 c3.2 rfl rfl tv fun p1 a S CL=>h_faddrP S CL hw le (subR rfl) (tF:=(Ty.arr .u8 20)) (y:=(gt ((ST37.un x1).e4) y1).1) rfl I133_0 T40 (by decide) (fun m h=>(at_fst (at_0 h))) rfl rfl tv fun a S CL=>h_ldA S CL hw le (subR rfl) (fun (c:Unit)=>[.b20 ((gt ((ST37.un x1).e4) y1).1)]) rfl T40 (fun _=>rfl) rfl rfl tv fun ch1 a S CL=>?_
   refine h_loada S CL hw le (subR rfl) rfl .h1 T40 (s':=[.b20 x2]) rfl rfl rfl tv fun a S CL=>h_eqa S CL hw le (subR rfl) rfl rfl underlying40 underlying5 T5 Q40 rfl rfl tv fun a S CL=>h_mv1 S CL hw le rfl tv fun a S CL=>?_
   rcases ite_of h2 with ⟨c4,h3⟩ | ⟨c4,h3⟩
   ·refine h_fieldAddr S CL hw le (subR rfl) rfl I37_3 T33 (by decide) rfl rfl rfl ⟨_,_,rfl,rfl,c4⟩ fun a S CL=>h_loadSl S CL hw le (subR rfl) rfl .h2 T33 (A:=ch_0_0.e4.1) (len:=((ST37.un x1).e4).length) (cap:=ch_0_0.e4.2) rfl rfl rfl ⟨_,_,rfl,rfl,c4⟩ fun a S CL=>h_mv1 S CL hw le rfl ⟨_,_,rfl,rfl,c4⟩ fun a S CL=>h_iaddrS S CL hw le (subR rfl) rfl rfl rfl underlying33 T133 c3.1 c3.2 rfl rfl ⟨_,_,rfl,rfl,c4⟩ fun p2 a S CL=>h_faddrP S CL hw le (subR rfl) (tF:=(Ty.arr .u64 4)) (y:=(gt ((ST37.un x1).e4) y1).2) rfl I133_1 T43 (by decide) (fun m h=>(at_snd (at_0 h))) rfl rfl ⟨_,_,rfl,rfl,c4⟩ fun a S CL=>h_ldA S CL hw le (subR rfl) (fun (c:Unit)=>[.w4 ((gt ((ST37.un x1).e4) y1).2)]) rfl T43 (fun _=>rfl) rfl rfl ⟨_,_,rfl,rfl,c4⟩ fun ch2 a S CL=>?_
    refine h_loada S CL hw le (subR rfl) rfl .h T43 (s':=[.w4 x3]) rfl rfl rfl ⟨_,_,rfl,rfl,c4⟩ fun a S CL=>h_eqa S CL hw le (subR rfl) rfl rfl underlying43 underlying41 T41 Q43 rfl rfl ⟨_,_,rfl,rfl,c4⟩ fun a S CL=>h_pick S CL hw le (subR rfl) (b:=true) (hc_of rfl c4) rfl rfl rfl tv fun a S CL=>?_
    refine h_done ?_; clear CL hw le
    refine x_thenN ?_
    exact j2 _ (decide ((gt ((ST37.un x1).e4) y1).2=x3)) g31 g32 g33 a w (S.sb rfl (.c0 (.c0 (.c0 .n)))) h3
   ·refine h_sk8 S CL rfl (ne_bool c4) fun a S CL=>h_pick S CL hw le (subR rfl) (b:=false) (hc_of rfl c4) rfl rfl rfl tv fun a S CL=>?_
    refine h_done ?_; clear CL hw le
    refine x_thenN ?_
    exact j2 _ false g31 g32 g33 a w (S.sb rfl (.c0 (.c0 (.c0 .n)))) h3
  ·refine c_condF S rfl c1 (wp_exit (x_thenX (x_thenX (x_blockX (x_thenN ?_)))))
   exact j1 _ a w (S.sub tv .nil) h1
abbrev fa1_.Ty:Type:=ST37→(List Int)→(List Int)→Option (Bool×ST37)
def fa1_.Ctr (s:fa1_.Ty):Prop:=∀ {x1:ST37} {x2:List Int} {x3:List Int} {ch_0_0:(Option Addr×Nat)×(Option Addr×Nat)×(Option Addr×Nat)×(Option Addr×Nat)×Unit×(Option Addr×Nat)×Unit×(Option Addr×Nat)} {r:Bool×ST37} (h0:s x1 x2 x3=some r) {mi:Mem} {w0:World},CtrB Tryz.prog 45 [(.agg (SY37.segs x1 ch_0_0)),(.agg [.b20 x2]),(.a4 x3)] [] (fun (ch:W21)=>((.tup [(false,[.b r.1]),(true,(SY37.segs r.2 ch))]):D)) (fun (ch:W21)=>[]) mi w0
def fa1_.f (k:Nat)(x1:ST37)(x2:List Int)(x3:List Int):Option (Bool×ST37):=(fa2_.f k x1 x2 x3).bind fun t1=>(if (!t1)=true then (some (false,x1)) else ((fb7_.f x1).bind fun t2=>(if ((([]:List ((List Int)×(List Int)))).length+((ST37.un t2).2.2.2.1).length)*56≤140737488355328 then (if ((([]:List ((List Int)×(List Int)))++((ST37.un t2).2.2.2.1)).length+([(x2,x3)]).length)*56≤140737488355328 then (some (true,(ST37.mk ((ST37.un t2).1,(ST37.un t2).2.1,(ST37.un t2).2.2.1,(([]:List ((List Int)×(List Int)))++((ST37.un t2).2.2.2.1))++[(x2,x3)],(ST37.un t2).2.2.2.2.1,(ST37.un t2).2.2.2.2.2.1,(ST37.un t2).2.2.2.2.2.2.1,(ST37.un t2).2.2.2.2.2.2.2)))) else none) else none)))
theorem fa1_.ok (k:Nat):fa1_.Ctr (fa1_.f k):=by
 intro x1 x2 x3 ch_0_0 r h0 mi w0 ok hm
 delta fa1_.f at h0
 refine c_enterZ (n:=31) ok hm func45 rfl rfl rfl fun b0 hb a S=>c_region (s_box S rfl rfl rfl fun g1 a w S=>s_box S rfl rfl rfl fun g2 a w S=>s_box S rfl rfl rfl fun g3 a w S=>s_as1 S rfl fun a S=>s_alloc S Z37 rfl ⟨rfl,rfl,rfl,rfl,rfl,rfl,rfl,rfl,tv⟩ rfl fun g4 a w S=>c_end (wp_seq (c_region (s_loada S rfl .h3 T37 (s':=(SY37.segs x1 ch_0_0)) rfl rfl fun a S=>s_loada S rfl .h2 T40 (s':=[.b20 x2]) rfl rfl fun a S=>s_loada S rfl .h1 T43 (s':=[.w4 x3]) rfl rfl fun a S=>bindX h0 fun t1 et1 h1=>s_callK S (fa2_.ok k (ch_0_0:=ch_0_0) et1) N82 rfl .pre (fun _=> .n) rfl fun ch1 m le1 a w S=>s_not S rfl rfl fun a S=>c_end ?_))))
 rcases ite_of h1 with ⟨c1,h2⟩ | ⟨c1,h2⟩
 ·refine c_condT S rfl c1 ?_
  refine wp_seq (c_heldS S (.take 0 (.take 1 (.alts (.run 2 false .done .nil)))) 2 [Res.cells g1 37 (SY37.segs x1 ch_0_0)] (.c3 .n) ⟨Res.stay_cells,tv⟩ [(3,(.p g1))] ⟨rfl,tv⟩ (by kernel_rfl) (by kernel_rfl) ?_); clear S; intro w S CL hw le
  refine h_loada S CL hw le ⟨rfl,tv⟩ rfl .h T37 (s':=(SY37.segs x1 ch_0_0)) rfl rfl rfl tv fun a S CL=>h_assign S CL hw le (subR rfl) rfl rfl rfl tv fun a S CL=>h_run' S rfl tv (s_store S rfl rfl rfl (s':=(SY37.segs x1 ch_0_0)) .h T37 rfl rfl fun w S=>?_)
  refine h_back ⟨fun h=>(nomatch h),?_⟩
  refine h_done ?_; clear CL hw le
  refine x_thenN (wp_ret (x_thenR ?_))
  obtain rfl:=sI h2
  exact b_ret2 (d1:=(.b false)) (d2:=(.agg (SY37.segs x1 ch_0_0))) S rfl rfl (resD_cell rfl .h T37 rfl rfl) fun ok1 ok2=>S.retX (Hx:=[]) hb _ _ (ch_0_0:W21) .nil ⟨⟨ok1,tv⟩,ok2,tv⟩
 ·refine c_condF S rfl c1 (wp_skip (x_thenN (c_region (s_loada S rfl .h3 T37 (s':=(SY37.segs x1 ch_0_0)) rfl rfl fun a S=>bindX h2 fun t2 et2 h3=>s_callK S (fb7_.ok (ch_0_0:=ch_0_0) et2) N81 rfl .pre (fun _=> .n) rfl fun ch2 m le1 a w S=>s_store S rfl rfl rfl (s':=(SY37.segs t2 ch2)) .h3 T37 rfl rfl fun w S=>c_end (c_region (s_bldSl S (ty':=Y133) (ds:=[]) (z:=(z20,[0,0,0,0])) (c0:=((),())) (ys:=([]:List ((List Int)×(List Int)))) (cs:=[]) rfl underlying33 J133 Z133 rfl ⟨rfl,rfl,tv⟩ rfl rfl rfl rfl rfl rfl fun g5 a w S=>s_as1 S rfl fun a S=>c_end (c_region (s_mv1 S rfl fun a S=>s_fieldAddr S rfl I37_3 T33 (by decide) rfl rfl fun a S=>s_loadSl S rfl .h4 T33 (A:=ch2.e4.1) (len:=((ST37.un t2).e4).length) (cap:=ch2.e4.2) rfl rfl fun a S=>?_))))))))
  obtain ⟨c2,h4⟩:=chk_of h3; clear h3
  refine s_app S (k2:=(((ST37.un t2).e4).length)) (ys:=((ST37.un t2).e4)) rfl (fun _ _=> .h) rfl rfl rfl (RdS.src (S.get 20 (.q Y133 ch2.e4.1 ch2.e4.2 ((ST37.un t2).e4)) rfl).2.2.2.1 (by decide) S.frz) underlying33 J133 c2 rfl fun A1 cp1 a w S=>s_as1 S rfl fun a S=>c_end (c_region (s_mv1 S rfl fun a S=>s_loada S rfl .h3 T40 (s':=[.b20 x2]) rfl rfl fun a S=>s_loada S rfl .h2 T43 (s':=[.w4 x3]) rfl rfl fun a S=>s_bldS S (ds:=[(0,(.agg [.b20 x2])),(1,(.a4 x3))]) (zs:=[.b20 z20, .w4 [0,0,0,0]]) (s':=[.b20 x2, .w4 x3]) rfl underlying133 P133 Z133 ⟨rfl,rfl,tv⟩ rfl rfl fun a S=>s_bldSl S (ty':=Y133) (ds:=[(0,(.agg [.b20 x2, .w4 x3]))]) (z:=(z20,[0,0,0,0])) (c0:=((),())) (ys:=[(x2,x3)]) (cs:=[((),())]) rfl underlying33 J133 Z133 rfl ⟨rfl,rfl,tv⟩ rfl rfl rfl rfl rfl rfl fun g6 a w S=>?_))
  obtain ⟨c3,h5⟩:=chk_of h4; clear h4
  refine s_app S (k2:=1) (ys:=[(x2,x3)]) rfl (fun _ _=> .h1) rfl rfl (S.holds _ (Pull.mem .h).1).1 (Res.row.src (S.holds _ (Pull.mem .h).1)) underlying33 J133 c3 rfl fun A2 cp2 a w S=>s_as1 S rfl fun a S=>c_end (c_region (s_mv1 S rfl fun a S=>s_fieldAddr S rfl I37_3 T33 (by decide) rfl rfl fun a S=>s_storeJ S 3 rfl rfl rfl rfl .h5 T33 rfl rfl fun w S=>c_end ?_))
  refine wp_seq (c_heldS S (.take 0 (.take 1 (.alts (.run 2 false .done .nil)))) 2 [Res.cells g1 37 [.q Y71 ch2.1.1 ch2.1.2 ((ST37.un t2).1), .q Y122 ch2.2.1.1 ch2.2.1.2 ((ST37.un t2).2.1), .q (Ty.arr .u8 20) ch2.e3.1 ch2.e3.2 ((ST37.un t2).e3), .s A2 ((0+(((ST37.un t2).e4).length))+1) cp2, .i ((ST37.un t2).e5), .q Y100 ch2.e6.1 ch2.e6.2 ((ST37.un t2).e6), .b ((ST37.un t2).e7), .sl ch2.e8 ((ST37.un t2).t7).length ch2.t8 (SR37 ch2.e8 ((ST37.un t2).t7))]] (.c5 .n) ⟨Res.stay_cells,tv⟩ [(3,(.p g1))] ⟨rfl,tv⟩ (by kernel_rfl) (by kernel_rfl) ?_); clear S; intro w S CL hw le
  refine h_loada S CL hw le ⟨rfl,tv⟩ rfl .h T37 (s':=[.q Y71 ch2.1.1 ch2.1.2 ((ST37.un t2).1), .q Y122 ch2.2.1.1 ch2.2.1.2 ((ST37.un t2).2.1), .q (Ty.arr .u8 20) ch2.e3.1 ch2.e3.2 ((ST37.un t2).e3), .s A2 ((0+(((ST37.un t2).e4).length))+1) cp2, .i ((ST37.un t2).e5), .q Y100 ch2.e6.1 ch2.e6.2 ((ST37.un t2).e6), .b ((ST37.un t2).e7), .sl ch2.e8 ((ST37.un t2).t7).length ch2.t8 (SR37 ch2.e8 ((ST37.un t2).t7))]) rfl rfl rfl tv fun a S CL=>h_assign S CL hw le (subR rfl) rfl rfl rfl tv fun a S CL=>h_run' S rfl tv (s_store S rfl rfl rfl (s':=[.q Y71 ch2.1.1 ch2.1.2 ((ST37.un t2).1), .q Y122 ch2.2.1.1 ch2.2.1.2 ((ST37.un t2).2.1), .q (Ty.arr .u8 20) ch2.e3.1 ch2.e3.2 ((ST37.un t2).e3), .s A2 ((0+(((ST37.un t2).e4).length))+1) cp2, .i ((ST37.un t2).e5), .q Y100 ch2.e6.1 ch2.e6.2 ((ST37.un t2).e6), .b ((ST37.un t2).e7), .sl ch2.e8 ((ST37.un t2).t7).length ch2.t8 (SR37 ch2.e8 ((ST37.un t2).t7))]) .h2 T37 rfl rfl fun w S=>?_)
  refine h_back ⟨fun h=>(nomatch h),?_⟩
  refine h_done ?_; clear CL hw le
  refine x_thenN (wp_ret ?_)
  replace S:=S.rowfro .h1
  obtain ⟨m,le1,S,hro⟩:=S
  replace S:=S.slotF 30 3 rfl rfl hro
  replace S:=S.slotro (u:=28) rfl hro
  replace S:=S.slotro (u:=8) rfl hro
  replace S:=S.slotro (u:=27) rfl hro
  replace S:=S.cellF 3 .h1 rfl hro
  replace S:=S.cellF 3 .h4 rfl hro
  obtain rfl:=sI h5
  exact b_ret2 (d1:=(.b true)) (d2:=(.agg (SY37.segs (ST37.mk ((ST37.un t2).1,(ST37.un t2).2.1,(ST37.un t2).e3,(([]:List ((List Int)×(List Int)))++((ST37.un t2).e4))++[(x2,x3)],(ST37.un t2).e5,(ST37.un t2).e6,(ST37.un t2).e7,(ST37.un t2).t7)) (ch2.1,ch2.2.1,ch2.e3,(A2,cp2),(),ch2.e6,(),ch2.t7)))) S rfl rfl (resD_cell rfl .h1 T37 rfl rfl) fun ok1 ok2=>S.retX (Hx:=[]) hb _ _ ((ch2.1,ch2.2.1,ch2.e3,(A2,cp2),(),ch2.e6,(),ch2.t7):W21) .nil ⟨⟨ok1,tv⟩,ok2,tv⟩
abbrev fc6_.Ty:Type:=W2→(List Int)→(List Int)→Option W22
def fc6_.Ctr (s:fc6_.Ty):Prop:=∀ {x1:W2} {x2:List Int} {x3:List Int} {ch_0:W3} {r:W22} (h0:s x1 x2 x3=some r) {mi:Mem} {w0:World},CtrB Tryz.prog 29 [(.v (.pointer (some ⟨ch_0.1,0,none⟩))),(.agg [.b20 x2]),(.a4 x3)] (MS1 x1 ch_0) (fun (ch:W7)=>((.b r.1):D)) (fun (ch:W7)=>(MS1 (x1.1,r.e3,x1.e3,r.e5,r.e6,r.t6) (ch_0.1,ch_0.2.1,ch_0.e3,ch.1,ch.2.1,ch.e3,ch.e4,ch.e5,ch.e6,ch.e7,ch.e8,ch.e9,ch.e10,ch.e11,ch.e12,ch.t12))) mi w0
def fc6_.f (k:Nat)(x1:W2)(x2:List Int)(x3:List Int):Option W22:=(fh6_.f k x1 x2).bind fun t1=>(if t1.1.isSome=true then (if ((lk (aget (atE t1.2.2.1.2.2.2 ((atE t1.2.2.1.2.1 (t1.1.getD 0)).2.2.2.2.2.2)) x3) false).1)=true then (some (false,((),t1.2.2.1,(),t1.2.2.2.2.1,t1.2.2.2.2.2.1,t1.2.2.2.2.2.2))) else ((fd1_.f (x1.1,t1.2.2.1,x1.2.2.1,t1.2.2.2.2.1,t1.2.2.2.2.2.1,t1.2.2.2.2.2.2) (Clo.c70 t1.1 x3)).bind fun t2=>(some (true,((),(t1.2.2.1.1,t1.2.2.1.2.1,t1.2.2.1.2.2.1,t1.2.2.1.2.2.2.set ((atE t1.2.2.1.2.1 (t1.1.getD 0)).2.2.2.2.2.2) (aput (atE t1.2.2.1.2.2.2 ((atE t1.2.2.1.2.1 (t1.1.getD 0)).2.2.2.2.2.2)) x3 true)),(),t1.2.2.2.2.1,t2.2.2.2.2.1,t1.2.2.2.2.2.2))))) else none)
theorem fc6_.ok (k:Nat):fc6_.Ctr (fc6_.f k):=by
 intro x1 x2 x3 ch_0 r h0 mi w0 ok hm
 delta fc6_.f at h0
 refine c_enterZ (n:=27) ok hm func29 rfl rfl rfl fun b0 hb a S=>c_region (s_box S rfl rfl rfl fun g1 a w S=>s_box S rfl rfl rfl fun g2 a w S=>s_as1 S rfl fun a S=>c_end (wp_seq (c_region (s_mv1 S rfl fun a S=>s_eqp S (b:=false) rfl rfl underlying26 rfl rfl fun a S=>c_end (c_condF S rfl rfl (wp_skip (x_thenN (c_region (s_mv1 S rfl fun a S=>s_loada S rfl .h1 T40 (s':=[.b20 x2]) rfl rfl fun a S=>bindX h0 fun t1 et1 h1=>s_callK S (fh6_.ok k (ch_0:=ch_0) et1) N56 rfl (.sk (.sk .pre)) (fun _=> .c8) rfl fun ch1 m le1 a w S=>s_alloc S Z111 rfl rfl rfl fun g3 a w S=>s_storeJ S 0 rfl rfl rfl rfl .h T111 rfl rfl fun w S=>c_end (wp_seq ?_))))))))))
 refine wp_seq (c_hS S (.take 0 (.take 4 (.alts (.run 1 true (.take 2 (.alts (.run 3 true (.alts (.run 5 true .done .nil)) .nil))) .nil)))) 6 (.c0 (.c8 .n)) ⟨Res.stay_cells,Res.stay_cells,tv⟩ [(7,(.p g3)),(5,(.p g2))] rfl (by kernel_rfl) ?_); clear S; intro w S CL hw le
 refine h_loadM S CL hw le (subR rfl) rfl .h T111 (v:=(ptrV ch1.2.1 t1.1)) rfl rfl rfl tv fun a S CL=>h_loada S CL hw le (subR rfl) rfl .h1 T43 (s':=[.w4 x3]) rfl rfl rfl tv fun a S CL=>h_run' S rfl tv ?_
 obtain ⟨c1,h2⟩:=chk_of h1; clear h1
 have hl1:=S.slotPlt (u:=13) c1 rfl
 replace S:=S.slotP (u:=13) c1 rfl
 replace CL:=CL.drop (lq':=[(17,(.a4 x3)),(7,(.p g3)),(5,(.p g2))]) (subR rfl)
 refine s_nilchk S rfl rfl fun a S=>CL.bk hw S (.c0 (.c8 .n)) le fun hw=>?_
 replace CL:=CL.add (t:=14) (d:=(.v (.pointer (some ⟨(bAt ch1.2.1 (t1.1.getD 0)),0,none⟩)))) S rfl rfl
 refine h_fieldAddr S CL hw le (subR rfl) rfl I110_6 T108 (by decide) rfl rfl rfl tv fun a S CL=>h_run' S rfl tv ?_
 replace S:=S.famOpen (i:=(t1.1.getD 0)) hl1 .h3
 have hS:=S.structOpen (T:=(YE110 ch1.e3 ch1.e4)) (fun _=> .h) (((),(),(),(none,0),(none,0)),((),(),(),(none,0),(none,0)),(),(),(),(),())
 clear S; obtain ⟨ch2,S⟩:=hS
 refine s_loadM S rfl .h T108 (v:=(.map (some (bAt ch1.e4 ((atE t1.e3.2.1 (t1.1.getD 0)).t6))))) rfl rfl fun a S=>?_
 replace S:=S.structClose (T:=(YE110 ch1.e3 ch1.e4)) (e:=atE t1.e3.2.1 (t1.1.getD 0)) (ch2:((YE110 ch1.e3 ch1.e4)).Ch) rfl .h
 replace S:=S.famShut hl1 .h .h3
 refine CL.bk hw S (.c0 (.c8 .n)) le fun hw=>h_run' S rfl tv ?_
 have hm1:=S.slotLt (u:=16) rfl
 replace S:=S.slotMid (u:=16) rfl
 replace S:=S.famOpen (i:=((atE t1.e3.2.1 (t1.1.getD 0)).t6)) hm1 .h5
 refine s_lookO1 S (z:=false) (k:=x3) rfl .h () rfl (fun h=>⟨(),rfl,h⟩) underlying108 KT43 Z4 ⟨rfl,tv⟩ (fun x c h=>⟨rfl,h.1⟩) rfl fun ch3 a S=>?_
 replace S:=S.famShut hm1 .h .h5
 replace S:=S.slotMidB (u:=16) hm1 rfl
 refine CL.bk hw S (.c0 (.c8 .n)) le fun hw=>?_
 refine h_done ?_; clear CL hw le
 refine x_thenN ?_
 rcases ite_of h2 with ⟨c2,h3⟩ | ⟨c2,h3⟩
 ·refine c_condT S rfl c2 (c_region (s_as1 S rfl fun a S=>c_end (wp_ret (x_thenR ?_))))
  obtain rfl:=sI h3
  exact b_ret1 (d:=(.b false)) S rfl rfl fun ok=>S.retX (Hx:=[]) hb _ _ (ch1:W7) (.c1 (.c1 (.c1 (.c1 (.c1 (.c1 (.c1 (.c1 .n)))))))) ok
 ·refine c_condF S rfl c2 (wp_skip (x_thenN (c_region (s_mv1 S rfl fun a S=>?_))))
  replace S:=S.freeze .h
  obtain ⟨m,le1,S⟩:=S
  replace S:=S.freeze .h9
  obtain ⟨m,le1,S⟩:=S
  replace S:=S.slotAt (u:=7) (g:=g3) (t:=111) (T:=(Ty.pid ch1.2.1)) (x:=t1.1) (c:=(():((Ty.pid ch1.2.1)).Ch)) .h rfl rfl
  replace S:=S.slotAt (u:=5) (g:=g2) (t:=43) (T:=(Ty.arr .u64 4)) (x:=x3) (c:=(():((Ty.arr .u64 4)).Ch)) .h9 rfl rfl
  refine s_mkFn S (ds:=[(.pt ⟨g3,0,none⟩ (At (Ty.pid ch1.2.1) ⟨g3,0,none⟩ t1.1)),(.pt ⟨g2,0,none⟩ (At (Ty.arr .u64 4) ⟨g2,0,none⟩ x3))]) rfl rfl fun a S=>?_
  replace S:=S.slotFn (u:=20) (V:=cloV) (R:=cloR ch_0.1 ch1.2.1 ch1.e3 ch1.e4) (Clo.c70 t1.1 x3) ([⟨g3,0,none⟩,⟨g2,0,none⟩]:List Addr) rfl (fun h=>⟨h.1.1,h.2.1.1,tv⟩) (cloM _ _ _ _ _ _) rfl
  replace S:=S.slot (u:=7) (d':= .v (.pointer (ad g3))) rfl rfl rfl
  replace S:=S.slot (u:=5) (d':= .v (.pointer (ad g2))) rfl rfl rfl
  refine bindX h3 fun t2 et2 h4=>s_callK S (fd1_.ok (ch_0:=(ch_0.1,ch_0.2.1,ch_0.e3,ch1.1,ch1.2.1,ch1.e3,ch1.e4,ch1.e5,ch1.e6,ch1.e7,ch1.e8,ch1.e9,ch1.e10,ch1.e11,ch1.e12,ch1.t12)) et2) N68 rfl (.sk .pre) (fun _=> .c8) rfl fun ch4 m le1 a w S=>c_end ?_
  refine wp_seq (c_heldS S (.take 4 (.alts (.run 0 true (.alts (.run 1 true (.take 2 (.alts (.run 3 true (.alts (.run 5 true .done .nil)) .nil))) .nil)) .nil))) 6 [Res.fro g3 111 [.rf (ptrV ch1.2.1 t1.1) (ptrR ch1.2.1 t1.1)],Res.fro g2 43 [.w4 x3]] (.c8 (.c8 .n)) ⟨Res.stay_fro,Res.stay_fro,tv⟩ [(5,(.p g2))] ⟨rfl,tv⟩ (by kernel_rfl) (by kernel_rfl) ?_); clear S; intro w S CL hw le
  refine h_loadaF S CL hw le ⟨rfl,tv⟩ rfl .h1 T43 (s':=[.w4 x3]) rfl rfl rfl tv fun a S CL=>h_run' S rfl tv (s_loadMF S rfl .h8 T111 (v:=(ptrV ch1.2.1 t1.1)) rfl rfl fun a S=>CL.bk hw S (.c8 (.c8 .n)) le fun hw=>h_run' S rfl tv ?_)
  have hl1:=S.slotPlt (u:=22) c1 rfl
  replace S:=S.slotP (u:=22) c1 rfl
  refine s_nilchk S rfl rfl fun a S=>CL.bk hw S (.c8 (.c8 .n)) le fun hw=>?_
  replace CL:=CL.add (t:=23) (d:=(.v (.pointer (some ⟨(bAt ch1.2.1 (t1.1.getD 0)),0,none⟩)))) S rfl rfl
  refine h_fieldAddr S CL hw le (subR rfl) rfl I110_6 T108 (by decide) rfl rfl rfl tv fun a S CL=>h_run' S rfl tv ?_
  replace S:=S.famOpen (i:=(t1.1.getD 0)) hl1 .h2
  have hS:=S.structOpen (T:=(YE110 ch1.e3 ch1.e4)) (fun _=> .h) (((),(),(),(none,0),(none,0)),((),(),(),(none,0),(none,0)),(),(),(),(),())
  clear S; obtain ⟨ch5,S⟩:=hS
  refine s_loadM S rfl .h T108 (v:=(.map (some (bAt ch1.e4 ((atE t1.e3.2.1 (t1.1.getD 0)).t6))))) rfl rfl fun a S=>?_
  replace S:=S.structClose (T:=(YE110 ch1.e3 ch1.e4)) (e:=atE t1.e3.2.1 (t1.1.getD 0)) (ch5:((YE110 ch1.e3 ch1.e4)).Ch) rfl .h
  replace S:=S.famShut hl1 .h .h2
  refine CL.bk hw S (.c8 (.c8 .n)) le fun hw=>h_run' S rfl tv ?_
  have hm2:=S.slotLt (u:=25) rfl
  replace S:=S.slotMid (u:=25) rfl
  replace S:=S.famOpen (i:=((atE t1.e3.2.1 (t1.1.getD 0)).t6)) hm2 .h4
  refine s_mapput S (k:=x3) (y:=true) rfl .h rfl (fun h=>⟨(),rfl,h⟩) rfl (fun h=>⟨(),rfl,h,tv⟩) underlying108 KT43 fun w S=>?_
  replace S:=S.famClose hm2 .h .h4
  replace S:=S.slotMidB (u:=25) hm2 rfl
  refine CL.bk hw S (.c8 (.c8 .n)) le fun hw=>?_
  refine h_done ?_; clear CL hw le
  refine x_thenN (c_region (s_as1 S rfl fun a S=>c_end (wp_ret ?_)))
  obtain rfl:=sI h4
  exact b_ret1 (d:=(.b true)) S rfl rfl fun ok=>S.retX (Hx:=[]) hb _ _ ((ch1.1,ch1.2.1,ch1.e3,ch1.e4,ch1.e5,ch1.e6,ch1.e7,ch4.1,ch4.2.1,ch4.t2,ch1.e11,ch1.e12,ch1.t12):W7) (.c0 (.c0 (.c0 (.c0 (.c0 (.c0 (.c0 (.c0 .n)))))))) ok
abbrev fh_.Ty:Type:=W2→Int→Option W23
def fh_.Ctr (s:fh_.Ty):Prop:=∀ {x1:W2} {x2:Int} {ch_0:W3} {r:W23} (h0:s x1 x2=some r) {mi:Mem} {w0:World},CtrB Tryz.prog 46 [(.v (.pointer (some ⟨ch_0.1,0,none⟩))),(.i x2)] (MS1 x1 ch_0) (fun (ch:(Option Addr)×Nat×Nat)=>((.tup []):D)) (fun (ch:(Option Addr)×Nat×Nat)=>(MS1 (x1.1,x1.2.1,r.e3,x1.e4,r.e5,x1.t5) (ch_0.1,ch_0.2.1,ch_0.e3,ch_0.e4,ch_0.e5,ch_0.e6,ch_0.e7,ch_0.e8,ch_0.e9,ch_0.e10,ch.1,ch.2.1,ch.t2,ch_0.e14,ch_0.e15,ch_0.t15))) mi w0
def fh_.f (x1:W2)(x2:Int):Option W23:=(fd1_.f x1 (Clo.c83 x1.2.2.1 ())).bind fun t1=>(some ((),(),wr .i64 (x1.2.2.1+x2),(),t1.2.2.2.2.1,()))
theorem fh_.ok:fh_.Ctr (fh_.f):=by
 intro x1 x2 ch_0 r h0 mi w0 ok hm
 delta fh_.f at h0
 refine c_enterZ (n:=22) ok hm func46 rfl rfl rfl fun b0 hb a S=>c_region (s_box S rfl rfl rfl fun g1 a w S=>c_end (wp_seq (c_region (s_load1 S rfl .h T26 (v:=(.pointer (some ⟨ch_0.1,0,none⟩))) rfl rfl fun a S=>s_eqp S (b:=false) rfl rfl underlying26 rfl rfl fun a S=>c_end (c_condF S rfl rfl (wp_skip (x_thenN (c_region (s_load1 S rfl .h T26 (v:=(.pointer (some ⟨ch_0.1,0,none⟩))) rfl rfl fun a S=>s_nilchk S rfl rfl fun a S=>s_fieldAddr S rfl I79_2 T2 (by decide) rfl rfl fun a S=>s_load1 S rfl .h1 T2 (v:=(.int .i64 x1.e3)) rfl rfl fun a S=>s_alloc S Z2 rfl rfl rfl fun g2 a w S=>s_storeJ S 0 rfl rfl rfl rfl .h T2 rfl rfl fun w S=>c_end (c_region (s_load1 S rfl .h1 T26 (v:=(.pointer (some ⟨ch_0.1,0,none⟩))) rfl rfl fun a S=>?_)))))))))))
 replace S:=S.freeze .h
 obtain ⟨m,le1,S⟩:=S
 replace S:=S.freeze .h1
 obtain ⟨m,le1,S⟩:=S
 replace S:=S.slotAt (u:=4) (g:=g2) (t:=2) (T:=yi) (x:=x1.e3) (c:=(():(yi).Ch)) .h rfl rfl
 replace S:=S.slotAt (u:=2) (g:=g1) (t:=26) (T:=(Ty.own ch_0.1)) (x:=()) (c:=(():((Ty.own ch_0.1)).Ch)) .h1 rfl rfl
 refine s_mkFn S (ds:=[(.pt ⟨g2,0,none⟩ (At yi ⟨g2,0,none⟩ x1.e3)),(.pt ⟨g1,0,none⟩ (At (Ty.own ch_0.1) ⟨g1,0,none⟩ ()))]) rfl rfl fun a S=>?_
 replace S:=S.slotFn (u:=12) (V:=cloV) (R:=cloR ch_0.1 ch_0.e5 ch_0.e6 ch_0.e7) (Clo.c83 x1.e3 ()) ([⟨g2,0,none⟩,⟨g1,0,none⟩]:List Addr) rfl (fun h=>⟨h.1.1,h.2.1.1,tv⟩) (cloM _ _ _ _ _ _) rfl
 replace S:=S.slot (u:=4) (d':= .v (.pointer (ad g2))) rfl rfl rfl
 replace S:=S.slot (u:=2) (d':= .v (.pointer (ad g1))) rfl rfl rfl
 refine bindX h0 fun t1 et1 h1=>s_callK S (fd1_.ok (ch_0:=ch_0) et1) N68 rfl (.sk (.sk .pre)) (fun _=> .c8) rfl fun ch1 m le1 a w S=>c_end (c_region' (s_load1F S rfl .h9 T26 (v:=(.pointer (some ⟨ch_0.1,0,none⟩))) rfl rfl fun a S=>s_nilchk S rfl rfl fun a S=>s_fieldAddr S rfl I79_2 T2 (by decide) rfl rfl fun a S=>s_load1 S rfl .h T2 (v:=(.int .i64 x1.e3)) rfl rfl fun a S=>s_mv1 S rfl fun a S=>s_bi S rfl fun a S=>s_nilchk S rfl rfl fun a S=>s_fieldAddr S rfl I79_2 T2 (by decide) rfl rfl fun a S=>s_storeJ S 2 rfl rfl rfl rfl .h T2 rfl rfl fun w S=>c_end' (b_end ?_)))
 obtain rfl:=sI h1
 exact b_ret0 S rfl (S.retX (Hx:=[]) hb _ _ (ch1:(Option Addr)×Nat×Nat) (.c0 (.c0 (.c0 (.c0 (.c0 (.c0 (.c0 (.c0 .n)))))))) tv)
abbrev fc7_.Ty:Type:=ST37→Int→Option ST37
def fc7_.Ctr (s:fc7_.Ty):Prop:=∀ {x1:ST37} {x2:Int} {ch_0_0:(Option Addr×Nat)×(Option Addr×Nat)×(Option Addr×Nat)×(Option Addr×Nat)×Unit×(Option Addr×Nat)×Unit×(Option Addr×Nat)} {r:ST37} (h0:s x1 x2=some r) {mi:Mem} {w0:World},CtrB Tryz.prog 47 [(.agg (SY37.segs x1 ch_0_0)),(.i x2)] [] (fun (ch:W21)=>((.agg (SY37.segs r ch)):D)) (fun (ch:W21)=>[]) mi w0
def fc7_.f (x1:ST37)(x2:Int):Option ST37:=(fb7_.f x1).bind fun t1=>(some (ST37.mk ((ST37.un t1).1,(ST37.un t1).2.1,(ST37.un t1).2.2.1,(ST37.un t1).2.2.2.1,wr .i64 (((ST37.un t1).2.2.2.2.1)+x2),(ST37.un t1).2.2.2.2.2.1,(ST37.un t1).2.2.2.2.2.2.1,(ST37.un t1).2.2.2.2.2.2.2)))
theorem fc7_.ok:fc7_.Ctr (fc7_.f):=by
 intro x1 x2 ch_0_0 r h0 mi w0 ok hm
 delta fc7_.f at h0
 refine c_enterZ (n:=13) ok hm func47 rfl rfl rfl fun b0 hb a S=>c_region (s_box S rfl rfl rfl fun g1 a w S=>s_alloc S Z37 rfl ⟨rfl,rfl,rfl,rfl,rfl,rfl,rfl,rfl,tv⟩ rfl fun g2 a w S=>c_end (c_region (s_loada S rfl .h1 T37 (s':=(SY37.segs x1 ch_0_0)) rfl rfl fun a S=>bindX h0 fun t1 et1 h1=>s_callK S (fb7_.ok (ch_0_0:=ch_0_0) et1) N81 rfl .pre (fun _=> .n) rfl fun ch1 m le1 a w S=>s_store S rfl rfl rfl (s':=(SY37.segs t1 ch1)) .h1 T37 rfl rfl fun w S=>c_end (c_region (s_fieldAddr S rfl I37_4 T2 (by decide) rfl rfl fun a S=>s_load1 S rfl .h1 T2 (v:=(.int .i64 ((ST37.un t1).e5))) rfl rfl fun a S=>s_mv1 S rfl fun a S=>s_bi S rfl fun a S=>s_fieldAddr S rfl I37_4 T2 (by decide) rfl rfl fun a S=>s_storeJ S 4 rfl rfl rfl rfl .h1 T2 rfl rfl fun w S=>c_end (c_region (s_loada S rfl .h1 T37 (s':=(SY37.segs (ST37.mk ((ST37.un t1).1,(ST37.un t1).2.1,(ST37.un t1).e3,(ST37.un t1).e4,wr .i64 (((ST37.un t1).e5)+x2),(ST37.un t1).e6,(ST37.un t1).e7,(ST37.un t1).t7)) ch1)) rfl rfl fun a S=>s_store S rfl rfl rfl (s':=(SY37.segs (ST37.mk ((ST37.un t1).1,(ST37.un t1).2.1,(ST37.un t1).e3,(ST37.un t1).e4,wr .i64 (((ST37.un t1).e5)+x2),(ST37.un t1).e6,(ST37.un t1).e7,(ST37.un t1).t7)) ch1)) .h T37 rfl rfl fun w S=>c_end (wp_ret ?_))))))))
 obtain rfl:=sI h1
 exact b_ret1 (d:=(.agg (SY37.segs (ST37.mk ((ST37.un t1).1,(ST37.un t1).2.1,(ST37.un t1).e3,(ST37.un t1).e4,wr .i64 (((ST37.un t1).e5)+x2),(ST37.un t1).e6,(ST37.un t1).e7,(ST37.un t1).t7)) ch1))) S rfl (resD_cell rfl .h T37 rfl rfl) fun ok=>S.retX (Hx:=[]) hb _ _ (ch1:W21) .nil ok
abbrev fi5_.Ty:Type:=(List (List Int))→Option (List (List Int))
def fi5_.Ctr (s:fi5_.Ty):Prop:=∀ {x1:List (List Int)} {ch_0_0:Option Addr} {ch_0_1:Nat} {r:List (List Int)} (h0:s x1=some r) {mi:Mem} {w0:World},CtrB Tryz.prog 92 [(.q (Ty.arr .u64 4) ch_0_0 ch_0_1 x1)] [] (fun (ch:(Option Addr)×Nat×Nat)=>((.s ch.1 ch.2.1 ch.t2):D)) (fun (ch:(Option Addr)×Nat×Nat)=>[Res.row (Ty.arr .u64 4) 43 ch.1 ch.2.1 ch.t2 r]) mi w0
def fi5_.f (x1:List (List Int)):Option (List (List Int)):=if ((([]:List (List Int))).length+(x1).length)*32≤140737488355328 then (some (([]:List (List Int))++x1)) else none
theorem fi5_.ok:fi5_.Ctr (fi5_.f):=by
 intro x1 ch_0_0 ch_0_1 r h0 mi w0 ok hm
 delta fi5_.f at h0
 refine c_enterZ (n:=8) ok hm func92 rfl rfl rfl fun b0 hb a S=>c_region (s_as1 S rfl fun a S=>c_end (wp_seq (c_region (s_mv1 S rfl fun a S=>s_eqnil S (b:=(ch_0_0).isNone) (d:=(.q (Ty.arr .u64 4) ch_0_0 ch_0_1 x1)) rfl rfl underlying98 rfl rfl rfl fun a S=>c_end ?_))))
 cases hc:(ch_0_0).isNone
 ·refine c_condF S rfl hc (wp_skip (x_thenN (c_region (s_bldSl S (ty':=(Ty.arr .u64 4)) (ds:=[]) (z:=[0,0,0,0]) (c0:=()) (ys:=([]:List (List Int))) (cs:=[]) rfl underlying98 J43 Z43 rfl ⟨rfl,tv⟩ rfl rfl rfl rfl rfl rfl fun g1 a w S=>s_mv1 S rfl fun a S=>?_))))
  obtain ⟨c1,h1⟩:=chk_of h0; clear h0
  refine s_app S (k2:=((x1).length)) (ys:=x1) rfl (fun _ _=> .h) rfl rfl rfl (RdS.src (S.get 6 (.q (Ty.arr .u64 4) ch_0_0 ch_0_1 x1) rfl).2.2.2.1 (by decide) S.frz) underlying98 J43 c1 rfl fun A1 cp1 a w S=>s_as1 S rfl fun a S=>c_end (wp_ret ?_)
  obtain rfl:=sI h1
  exact b_ret1 (d:=(.s A1 (0+((x1).length)) cp1)) S rfl rfl fun ok=>S.retX (Hx:=[]) hb _ _ ((A1,0+((x1).length),cp1):(Option Addr)×Nat×Nat) (.c0 .n) ok
 ·have hxs:x1=[]:=rd_nil hc (S.get 3 (.q (Ty.arr .u64 4) ch_0_0 ch_0_1 x1) rfl).2.2.2.1
  have h1:(some ([]:List (List Int)))=some r:=by simpa [hxs] using h0
  clear h0
  refine c_condT S rfl hc (c_region (s_as1 S rfl fun a S=>c_end (wp_ret (x_thenR ?_))))
  replace S:=S.nilrow (Ty.arr .u64 4) 43
  replace S:=S.slot (u:=2) (d':=(.s none 0 0)) rfl rfl (S.get 2 (.s none 0 0) rfl).2
  obtain rfl:=sI h1
  exact b_ret1 (d:=(.s none 0 0)) S rfl rfl fun ok=>S.retX (Hx:=[]) hb _ _ ((none,0,0):(Option Addr)×Nat×Nat) (.c0 .n) ok
abbrev fi9_.Ty:Type:=W24→Option W24
def fi9_.Ctr (s:fi9_.Ty):Prop:=∀ {x1:W24} {ch_0_0:Option Addr} {ch_0_1:Nat} {ch_0_2:Option Addr} {ch_0_3:Nat} {r:W24} (h0:s x1=some r) {mi:Mem} {w0:World},CtrB Tryz.prog 58 [(.agg (Y100.segs x1 ((),(ch_0_0,ch_0_1),(ch_0_2,ch_0_3))))] [] (fun (ch:W25)=>((.agg [.b20 r.1, .s ch.1 ch.2.1 ch.e3, .s ch.e4 ch.e5 ch.t5]):D)) (fun (ch:W25)=>[Res.row (Ty.arr .u64 4) 43 ch.1 ch.2.1 ch.e3 r.2.1,Res.row yb 5 ch.e4 ch.e5 ch.t5 r.t2]) mi w0
def fi9_.f (x1:W24):Option W24:=(fi5_.f x1.2.1).bind fun t1=>((fc_.f x1.2.2).bind fun t2=>(some (x1.1,t1,t2)))
theorem fi9_.ok:fi9_.Ctr (fi9_.f):=by
 intro x1 ch_0_0 ch_0_1 ch_0_2 ch_0_3 r h0 mi w0 ok hm
 delta fi9_.f at h0
 refine c_enterZ (n:=12) ok hm func58 rfl rfl rfl fun b0 hb a S=>c_region (s_box S rfl rfl rfl fun g1 a w S=>s_alloc S Z100 rfl ⟨rfl,rfl,rfl,tv⟩ rfl fun g2 a w S=>c_end (c_region (s_fieldAddr S rfl I100_1 T98 (by decide) rfl rfl fun a S=>s_loadSl S rfl .h1 T98 (A:=ch_0_0) (len:=(x1.2.1).length) (cap:=ch_0_1) rfl rfl fun a S=>bindX h0 fun t1 et1 h1=>s_callK S (fi5_.ok et1) N92 rfl .pre (fun _=> .c1) rfl fun ch1 m le1 a w S=>s_fieldAddr S rfl I100_1 T98 (by decide) rfl rfl fun a S=>s_storeJ S 1 rfl rfl rfl rfl .h2 T98 rfl rfl fun w S=>c_end (c_region (s_fieldAddr S rfl I100_2 T44 (by decide) rfl rfl fun a S=>s_loadSl S rfl .h2 T44 (A:=ch_0_2) (len:=(x1.t2).length) (cap:=ch_0_3) rfl rfl fun a S=>bindX h1 fun t2 et2 h2=>s_callK S (fc_.ok et2) N33 rfl .pre (fun _=> .c1) rfl fun ch2 m le1 a w S=>s_fieldAddr S rfl I100_2 T44 (by decide) rfl rfl fun a S=>s_storeJ S 2 rfl rfl rfl rfl .h3 T44 rfl rfl fun w S=>c_end (c_region (s_loada S rfl .h3 T100 (s':=[.b20 x1.1, .s ch1.1 ch1.2.1 ch1.t2, .s ch2.1 ch2.2.1 ch2.t2]) rfl rfl fun a S=>s_store S rfl rfl rfl (s':=[.b20 x1.1, .s ch1.1 ch1.2.1 ch1.t2, .s ch2.1 ch2.2.1 ch2.t2]) .h2 T100 rfl rfl fun w S=>c_end (wp_ret ?_))))))))
 obtain rfl:=sI h2
 exact b_ret1 (d:=(.agg [.b20 x1.1, .s ch1.1 ch1.2.1 ch1.t2, .s ch2.1 ch2.2.1 ch2.t2])) S rfl (resD_cell rfl .h2 T100 rfl rfl) fun ok=>S.retX (Hx:=[]) hb _ _ ((ch1.1,ch1.2.1,ch1.t2,ch2.1,ch2.2.1,ch2.t2):W25) (.c1 (.c0 .n)) ok
abbrev fh2_.Ty:Type:=W2→W24→Option W26
def fh2_.Ctr (s:fh2_.Ty):Prop:=∀ {x1:W2} {x2:W24} {ch_0:W3} {ch_1_0:Option Addr} {ch_1_1:Nat} {ch_1_2:Option Addr} {ch_1_3:Nat} {r:W26} (h0:s x1 x2=some r) {mi:Mem} {w0:World},CtrB Tryz.prog 48 [(.v (.pointer (some ⟨ch_0.1,0,none⟩))),(.agg (Y100.segs x2 ((),(ch_1_0,ch_1_1),(ch_1_2,ch_1_3))))] (MS1 x1 ch_0) (fun (ch:W25)=>((.tup []):D)) (fun (ch:W25)=>(MS1 (x1.1,x1.2.1,x1.e3,r.e4,r.e5,x1.t5) (ch_0.1,ch_0.2.1,ch_0.e3,ch_0.e4,ch_0.e5,ch_0.e6,ch_0.e7,ch.1,ch.2.1,ch.e3,ch.e4,ch.e5,ch.t5,ch_0.e14,ch_0.e15,ch_0.t15))) mi w0
def fh2_.f (x1:W2)(x2:W24):Option W26:=(fd1_.f x1 (Clo.c84 () ((x1.2.2.2.1).length:Int))).bind fun t1=>((fi9_.f x2).bind fun t2=>(if ((x1.2.2.2.1).length+([t2]).length)*72≤140737488355328 then (some ((),(),(),x1.2.2.2.1++[t2],t1.2.2.2.2.1,())) else none))
theorem fh2_.ok:fh2_.Ctr (fh2_.f):=by
 intro x1 x2 ch_0 ch_1_0 ch_1_1 ch_1_2 ch_1_3 r h0 mi w0 ok hm
 delta fh2_.f at h0
 refine c_enterZ (n:=26) ok hm func48 rfl rfl rfl fun b0 hb a S=>c_region (s_box S rfl rfl rfl fun g1 a w S=>s_box S rfl rfl rfl fun g2 a w S=>c_end (wp_seq (c_region (s_load1 S rfl .h1 T26 (v:=(.pointer (some ⟨ch_0.1,0,none⟩))) rfl rfl fun a S=>s_eqp S (b:=false) rfl rfl underlying26 rfl rfl fun a S=>c_end (c_condF S rfl rfl (wp_skip (x_thenN (c_region (s_load1 S rfl .h1 T26 (v:=(.pointer (some ⟨ch_0.1,0,none⟩))) rfl rfl fun a S=>s_nilchk S rfl rfl fun a S=>s_fieldAddr S rfl I79_3 T34 (by decide) rfl rfl fun a S=>s_load1 S rfl .h2 T34 (v:=(.slice ch_0.e8 ch_0.e9 ch_0.e10)) rfl rfl fun a S=>s_lenO S rfl .h7 underlying34 rfl fun a S=>s_alloc S Z3 rfl rfl rfl fun g3 a w S=>s_storeJ S 0 rfl rfl rfl rfl .h T3 rfl rfl fun w S=>c_end (c_region (s_load1 S rfl .h2 T26 (v:=(.pointer (some ⟨ch_0.1,0,none⟩))) rfl rfl fun a S=>?_)))))))))))
 replace S:=S.freeze .h2
 obtain ⟨m,le1,S⟩:=S
 replace S:=S.freeze .h
 obtain ⟨m,le1,S⟩:=S
 replace S:=S.slotAt (u:=2) (g:=g1) (t:=26) (T:=(Ty.own ch_0.1)) (x:=()) (c:=(():((Ty.own ch_0.1)).Ch)) .h2 rfl rfl
 replace S:=S.slotAt (u:=4) (g:=g3) (t:=3) (T:=yi) (x:=((x1.e4).length:Int)) (c:=(():(yi).Ch)) .h rfl rfl
 refine s_mkFn S (ds:=[(.pt ⟨g1,0,none⟩ (At (Ty.own ch_0.1) ⟨g1,0,none⟩ ())),(.pt ⟨g3,0,none⟩ (At yi ⟨g3,0,none⟩ ((x1.e4).length:Int)))]) rfl rfl fun a S=>?_
 replace S:=S.slotFn (u:=13) (V:=cloV) (R:=cloR ch_0.1 ch_0.e5 ch_0.e6 ch_0.e7) (Clo.c84 () ((x1.e4).length:Int)) ([⟨g1,0,none⟩,⟨g3,0,none⟩]:List Addr) rfl (fun h=>⟨h.1.1,h.2.1.1,tv⟩) (cloM _ _ _ _ _ _) rfl
 replace S:=S.slot (u:=2) (d':= .v (.pointer (ad g1))) rfl rfl rfl
 replace S:=S.slot (u:=4) (d':= .v (.pointer (ad g3))) rfl rfl rfl
 refine bindX h0 fun t1 et1 h1=>s_callK S (fd1_.ok (ch_0:=ch_0) et1) N68 rfl (.sk (.sk (.sk .pre))) (fun _=> .c8) rfl fun ch1 m le1 a w S=>c_end (c_hS S (.tk 0 6 (.alts (.run 6 true (.alts (.run 7 true (.alts (.run 8 true (.take 9 (.take 10 (.alts (.run 11 false .done .nil)))) .nil)) .nil)) .nil))) 11 (.c0 (.c8 (.c8 .n))) ⟨Res.stay_cells,Res.stay_cells,Res.stay_fro,tv⟩ [(3,(.p g2)),(2,(.p g1))] rfl (by kernel_rfl) fun w S CL hw le=>?_)
 refine h_load1F S CL hw le (subR rfl) rfl .h2 T26 (v:=(.pointer (some ⟨ch_0.1,0,none⟩))) rfl rfl rfl tv fun a S CL=>h_load1F S CL hw le (subR rfl) rfl .h2 T26 (v:=(.pointer (some ⟨ch_0.1,0,none⟩))) rfl rfl rfl tv fun a S CL=>h_nilchk S CL hw le (subR rfl) rfl rfl rfl rfl tv fun a S CL=>h_fieldAddr S CL hw le (subR rfl) rfl I79_3 T34 (by decide) rfl rfl rfl tv fun a S CL=>h_load1 S CL hw le (subR rfl) rfl .h T34 (v:=(.slice ch_0.e8 ch_0.e9 ch_0.e10)) rfl rfl rfl tv fun a S CL=>h_loada S CL hw le (subR rfl) rfl .h1 T100 (s':=(Y100.segs x2 ((),(ch_1_0,ch_1_1),(ch_1_2,ch_1_3)))) rfl rfl rfl tv fun a S CL=>h_run' S rfl tv (bindX h1 fun t2 et2 h2=>s_callK S (fi9_.ok et2) N58 rfl .pre (fun _=> .c2) rfl fun ch2 m le1 a w S=>?_)
 replace le:=le.trans le1
 refine CL.bk hw S (.c2 (.c10 (.c10 .n))) le fun hw=>h_run' S rfl tv ?_
 replace S:=S.rowfro .h
 obtain ⟨m,le1,S,hro⟩:=S
 replace le:=le.trans le1
 replace S:=S.slotF 21 1 rfl rfl hro
 replace S:=S.rowfro .h
 obtain ⟨m,le1,S,hro⟩:=S
 replace le:=le.trans le1
 replace S:=S.slotF 21 2 rfl rfl hro
 refine s_bldSl S (ty':=Y100) (ds:=[(0,(.agg (Y100.segs t2 ((),(ch2.1,ch2.e3),(ch2.e4,ch2.t5)))))]) (z:=(z20,([]:List (List Int)),([]:List Int))) (c0:=((),(none,0),(none,0))) (ys:=[t2]) (cs:=[((),(ch2.1,ch2.e3),(ch2.e4,ch2.t5))]) rfl underlying34 J100 Z100 rfl ⟨rfl,⟨Nat.le_refl _,Nat.zero_le _,RdS.nil _ _ _,RdS.mono _ _ _⟩,⟨Nat.le_refl _,Nat.zero_le _,RdS.nil _ _ _,RdS.mono _ _ _⟩,tv⟩ rfl rfl rfl rfl rfl rfl fun g4 a w S=>CL.bk hw S (.c1 (.c9 (.c9 .n))) le fun hw=>h_run' S rfl tv ?_
 obtain ⟨c1,h3⟩:=chk_of h2; clear h2
 refine s_app S (k2:=1) (ys:=[t2]) rfl (fun _ _=> .h6) rfl rfl (S.holds _ (Pull.mem .h).1).1 (Res.row.src (S.holds _ (Pull.mem .h).1)) underlying34 J100 c1 rfl fun A1 cp1 a w S=>CL.bk hw S (.c1 (.c9 (.c9 .n))) le fun hw=>h_nilchk S CL hw le (subR rfl) rfl rfl rfl rfl tv fun a S CL=>h_fieldAddr S CL hw le (subR rfl) rfl I79_3 T34 (by decide) rfl rfl rfl tv fun a S CL=>h_run' S rfl tv (s_storeJ S 3 rfl rfl rfl rfl .h1 T34 rfl rfl fun w S=>?_)
 refine h_back ⟨fun h=>(nomatch h),?_⟩
 refine h_done ?_; clear CL hw le
 refine b_end ?_
 obtain rfl:=sI h3
 exact b_ret0 S rfl (S.retX (Hx:=[]) hb _ _ ((A1,ch_0.e9+1,cp1,ch1.1,ch1.2.1,ch1.t2):W25) (.c1 (.c1 (.c1 (.c1 (.c1 (.c1 (.c1 (.c1 .n)))))))) tv)
abbrev fc9_.Ty:Type:=ST37→W24→Option ST37
def fc9_.Ctr (s:fc9_.Ty):Prop:=∀ {x1:ST37} {x2:W24} {ch_0_0:(Option Addr×Nat)×(Option Addr×Nat)×(Option Addr×Nat)×(Option Addr×Nat)×Unit×(Option Addr×Nat)×Unit×(Option Addr×Nat)} {ch_1_0:Option Addr} {ch_1_1:Nat} {ch_1_2:Option Addr} {ch_1_3:Nat} {r:ST37} (h0:s x1 x2=some r) {mi:Mem} {w0:World},CtrB Tryz.prog 49 [(.agg (SY37.segs x1 ch_0_0)),(.agg (Y100.segs x2 ((),(ch_1_0,ch_1_1),(ch_1_2,ch_1_3))))] [] (fun (ch:W21)=>((.agg (SY37.segs r ch)):D)) (fun (ch:W21)=>[]) mi w0
def fc9_.f (x1:ST37)(x2:W24):Option ST37:=(fb7_.f x1).bind fun t1=>(if ((([]:List L100)).length+((ST37.un t1).2.2.2.2.2.1).length)*72≤140737488355328 then (if ((([]:List L100)++((ST37.un t1).2.2.2.2.2.1)).length+([x2]).length)*72≤140737488355328 then (some (ST37.mk ((ST37.un t1).1,(ST37.un t1).2.1,(ST37.un t1).2.2.1,(ST37.un t1).2.2.2.1,(ST37.un t1).2.2.2.2.1,(([]:List L100)++((ST37.un t1).2.2.2.2.2.1))++[x2],(ST37.un t1).2.2.2.2.2.2.1,(ST37.un t1).2.2.2.2.2.2.2))) else none) else none)
theorem fc9_.ok:fc9_.Ctr (fc9_.f):=by
 intro x1 x2 ch_0_0 ch_1_0 ch_1_1 ch_1_2 ch_1_3 r h0 mi w0 ok hm
 delta fc9_.f at h0
 refine c_enterZ (n:=20) ok hm func49 rfl rfl rfl fun b0 hb a S=>c_region (s_box S rfl rfl rfl fun g1 a w S=>s_box S rfl rfl rfl fun g2 a w S=>s_alloc S Z37 rfl ⟨rfl,rfl,rfl,rfl,rfl,rfl,rfl,rfl,tv⟩ rfl fun g3 a w S=>c_end (c_region (s_loada S rfl .h2 T37 (s':=(SY37.segs x1 ch_0_0)) rfl rfl fun a S=>bindX h0 fun t1 et1 h1=>s_callK S (fb7_.ok (ch_0_0:=ch_0_0) et1) N81 rfl .pre (fun _=> .n) rfl fun ch1 m le1 a w S=>s_store S rfl rfl rfl (s':=(SY37.segs t1 ch1)) .h2 T37 rfl rfl fun w S=>c_end (c_region (s_bldSl S (ty':=Y100) (ds:=[]) (z:=(z20,([]:List (List Int)),([]:List Int))) (c0:=((),(none,0),(none,0))) (ys:=([]:List L100)) (cs:=[]) rfl underlying34 J100 Z100 rfl ⟨rfl,⟨Nat.le_refl _,Nat.zero_le _,RdS.nil _ _ _,RdS.mono _ _ _⟩,⟨Nat.le_refl _,Nat.zero_le _,RdS.nil _ _ _,RdS.mono _ _ _⟩,tv⟩ rfl rfl rfl rfl rfl rfl fun g4 a w S=>s_as1 S rfl fun a S=>c_end (c_region (s_mv1 S rfl fun a S=>s_fieldAddr S rfl I37_5 T34 (by decide) rfl rfl fun a S=>s_loadSl S rfl .h3 T34 (A:=ch1.e6.1) (len:=((ST37.un t1).e6).length) (cap:=ch1.e6.2) rfl rfl fun a S=>?_)))))))
 obtain ⟨c1,h2⟩:=chk_of h1; clear h1
 refine s_app S (k2:=(((ST37.un t1).e6).length)) (ys:=((ST37.un t1).e6)) rfl (fun _ _=> .h) rfl rfl rfl (RdS.src (S.get 11 (.q Y100 ch1.e6.1 ch1.e6.2 ((ST37.un t1).e6)) rfl).2.2.2.1 (by decide) S.frz) underlying34 J100 c1 rfl fun A1 cp1 a w S=>s_as1 S rfl fun a S=>c_end (c_region (s_mv1 S rfl fun a S=>s_loada S rfl .h2 T100 (s':=(Y100.segs x2 ((),(ch_1_0,ch_1_1),(ch_1_2,ch_1_3)))) rfl rfl fun a S=>s_bldSl S (ty':=Y100) (ds:=[(0,(.agg (Y100.segs x2 ((),(ch_1_0,ch_1_1),(ch_1_2,ch_1_3)))))]) (z:=(z20,([]:List (List Int)),([]:List Int))) (c0:=((),(none,0),(none,0))) (ys:=[x2]) (cs:=[((),(ch_1_0,ch_1_1),(ch_1_2,ch_1_3))]) rfl underlying34 J100 Z100 rfl ⟨rfl,⟨Nat.le_refl _,Nat.zero_le _,RdS.nil _ _ _,RdS.mono _ _ _⟩,⟨Nat.le_refl _,Nat.zero_le _,RdS.nil _ _ _,RdS.mono _ _ _⟩,tv⟩ rfl rfl rfl rfl rfl rfl fun g5 a w S=>?_))
 obtain ⟨c2,h3⟩:=chk_of h2; clear h2
 refine s_app S (k2:=1) (ys:=[x2]) rfl (fun _ _=> .h1) rfl rfl (S.holds _ (Pull.mem .h).1).1 (Res.row.src (S.holds _ (Pull.mem .h).1)) underlying34 J100 c2 rfl fun A2 cp2 a w S=>s_as1 S rfl fun a S=>c_end (c_region (s_mv1 S rfl fun a S=>s_fieldAddr S rfl I37_5 T34 (by decide) rfl rfl fun a S=>s_storeJ S 5 rfl rfl rfl rfl .h4 T34 rfl rfl fun w S=>c_end (c_region (s_loada S rfl .h4 T37 (s':=[.q Y71 ch1.1.1 ch1.1.2 ((ST37.un t1).1), .q Y122 ch1.2.1.1 ch1.2.1.2 ((ST37.un t1).2.1), .q (Ty.arr .u8 20) ch1.e3.1 ch1.e3.2 ((ST37.un t1).e3), .q Y133 ch1.e4.1 ch1.e4.2 ((ST37.un t1).e4), .i ((ST37.un t1).e5), .s A2 ((0+(((ST37.un t1).e6).length))+1) cp2, .b ((ST37.un t1).e7), .sl ch1.e8 ((ST37.un t1).t7).length ch1.t8 (SR37 ch1.e8 ((ST37.un t1).t7))]) rfl rfl fun a S=>s_store S rfl rfl rfl (s':=[.q Y71 ch1.1.1 ch1.1.2 ((ST37.un t1).1), .q Y122 ch1.2.1.1 ch1.2.1.2 ((ST37.un t1).2.1), .q (Ty.arr .u8 20) ch1.e3.1 ch1.e3.2 ((ST37.un t1).e3), .q Y133 ch1.e4.1 ch1.e4.2 ((ST37.un t1).e4), .i ((ST37.un t1).e5), .s A2 ((0+(((ST37.un t1).e6).length))+1) cp2, .b ((ST37.un t1).e7), .sl ch1.e8 ((ST37.un t1).t7).length ch1.t8 (SR37 ch1.e8 ((ST37.un t1).t7))]) .h2 T37 rfl rfl fun w S=>c_end (wp_ret ?_)))))
 replace S:=S.rowfro .h1
 obtain ⟨m,le1,S,hro⟩:=S
 replace S:=S.slotF 19 5 rfl rfl hro
 replace S:=S.slotro (u:=17) rfl hro
 replace S:=S.slotro (u:=5) rfl hro
 replace S:=S.slotro (u:=16) rfl hro
 replace S:=S.cellF 5 .h1 rfl hro
 replace S:=S.cellF 5 .h3 rfl hro
 obtain rfl:=sI h3
 exact b_ret1 (d:=(.agg (SY37.segs (ST37.mk ((ST37.un t1).1,(ST37.un t1).2.1,(ST37.un t1).e3,(ST37.un t1).e4,(ST37.un t1).e5,(([]:List L100)++((ST37.un t1).e6))++[x2],(ST37.un t1).e7,(ST37.un t1).t7)) (ch1.1,ch1.2.1,ch1.e3,ch1.e4,(),(A2,cp2),(),ch1.t7)))) S rfl (resD_cell rfl .h1 T37 rfl rfl) fun ok=>S.retX (Hx:=[]) hb _ _ ((ch1.1,ch1.2.1,ch1.e3,ch1.e4,(),(A2,cp2),(),ch1.t7):W21) .nil ok
abbrev fe_.Ty:Type:=W2→(List Int)→Option W9
def fe_.Ctr (s:fe_.Ty):Prop:=∀ {x1:W2} {x2:List Int} {ch_0:W3} {r:W9} (h0:s x1 x2=some r) {mi:Mem} {w0:World},CtrB Tryz.prog 50 [(.v (.pointer (some ⟨ch_0.1,0,none⟩))),(.agg [.b20 x2])] (MS1 x1 ch_0) (fun (ch:W7)=>((.tup []):D)) (fun (ch:W7)=>(MS1 (x1.1,r.2.1,x1.e3,r.e4,r.e5,r.t5) (ch_0.1,ch_0.2.1,ch_0.e3,ch.1,ch.2.1,ch.e3,ch.e4,ch.e5,ch.e6,ch.e7,ch.e8,ch.e9,ch.e10,ch.e11,ch.e12,ch.t12))) mi w0
def fe_.f (k:Nat)(x1:W2)(x2:List Int):Option W9:=(fh6_.f k x1 x2).bind fun t1=>(if t1.1.isSome=true then ((fd1_.f (x1.1,t1.2.2.1,x1.2.2.1,t1.2.2.2.2.1,t1.2.2.2.2.2.1,t1.2.2.2.2.2.2) (Clo.c85 ((atE t1.2.2.1.2.1 (t1.1.getD 0)).2.2.2.2.1) t1.1)).bind fun t2=>(some ((),(t1.2.2.1.1,t1.2.2.1.2.1.set (t1.1.getD 0) ((atE t1.2.2.1.2.1 (t1.1.getD 0)).1,(atE t1.2.2.1.2.1 (t1.1.getD 0)).2.1,(atE t1.2.2.1.2.1 (t1.1.getD 0)).2.2.1,(atE t1.2.2.1.2.1 (t1.1.getD 0)).2.2.2.1,true,(atE t1.2.2.1.2.1 (t1.1.getD 0)).2.2.2.2.2.1,(atE t1.2.2.1.2.1 (t1.1.getD 0)).2.2.2.2.2.2),t1.2.2.1.2.2.1,t1.2.2.1.2.2.2),(),t1.2.2.2.2.1,t2.2.2.2.2.1,t1.2.2.2.2.2.2))) else none)
theorem fe_.ok (k:Nat):fe_.Ctr (fe_.f k):=by
 intro x1 x2 ch_0 r h0 mi w0 ok hm
 delta fe_.f at h0
 refine c_enterZ (n:=21) ok hm func50 rfl rfl rfl fun b0 hb a S=>c_region (s_box S rfl rfl rfl fun g1 a w S=>c_end (wp_seq (c_region (s_mv1 S rfl fun a S=>s_eqp S (b:=false) rfl rfl underlying26 rfl rfl fun a S=>c_end (c_condF S rfl rfl (wp_skip (x_thenN (c_region (s_mv1 S rfl fun a S=>s_loada S rfl .h T40 (s':=[.b20 x2]) rfl rfl fun a S=>bindX h0 fun t1 et1 h1=>s_callK S (fh6_.ok k (ch_0:=ch_0) et1) N56 rfl (.sk .pre) (fun _=> .c8) rfl fun ch1 m le1 a w S=>s_alloc S Z111 rfl rfl rfl fun g2 a w S=>s_storeJ S 0 rfl rfl rfl rfl .h T111 rfl rfl fun w S=>c_end (c_region (s_loadM S rfl .h T111 (v:=(ptrV ch1.2.1 t1.1)) rfl rfl fun a S=>?_)))))))))))
 obtain ⟨c1,h2⟩:=chk_of h1; clear h1
 have hl1:=S.slotPlt (u:=11) c1 rfl
 replace S:=S.slotP (u:=11) c1 rfl
 refine s_nilchk S rfl rfl fun a S=>s_fieldAddr S rfl I110_4 T4 (by decide) rfl rfl fun a S=>?_
 replace S:=S.famOpen (i:=(t1.1.getD 0)) hl1 .h3
 have hS:=S.structOpen (T:=(YE110 ch1.e3 ch1.e4)) (fun _=> .h) (((),(),(),(none,0),(none,0)),((),(),(),(none,0),(none,0)),(),(),(),(),())
 clear S; obtain ⟨ch2,S⟩:=hS
 refine s_load1 S rfl .h T4 (v:=(.bool ((atE t1.e3.2.1 (t1.1.getD 0)).e5))) rfl rfl fun a S=>?_
 replace S:=S.structClose (T:=(YE110 ch1.e3 ch1.e4)) (e:=atE t1.e3.2.1 (t1.1.getD 0)) (ch2:((YE110 ch1.e3 ch1.e4)).Ch) rfl .h
 replace S:=S.famShut hl1 .h .h3
 refine s_alloc S Z4 rfl rfl rfl fun g3 a w S=>s_storeJ S 0 rfl rfl rfl rfl .h T4 rfl rfl fun w S=>c_end (c_region (s_mv1 S rfl fun a S=>?_))
 replace S:=S.freeze .h
 obtain ⟨m,le1,S⟩:=S
 replace S:=S.freeze .h1
 obtain ⟨m,le1,S⟩:=S
 replace S:=S.slotAt (u:=5) (g:=g3) (t:=4) (T:=Ty.bool) (x:=(atE t1.e3.2.1 (t1.1.getD 0)).e5) (c:=(():(Ty.bool).Ch)) .h rfl rfl
 replace S:=S.slotAt (u:=4) (g:=g2) (t:=111) (T:=(Ty.pid ch1.2.1)) (x:=t1.1) (c:=(():((Ty.pid ch1.2.1)).Ch)) .h1 rfl rfl
 refine s_mkFn S (ds:=[(.pt ⟨g3,0,none⟩ (At Ty.bool ⟨g3,0,none⟩ ((atE t1.e3.2.1 (t1.1.getD 0)).e5))),(.pt ⟨g2,0,none⟩ (At (Ty.pid ch1.2.1) ⟨g2,0,none⟩ t1.1))]) rfl rfl fun a S=>?_
 replace S:=S.slotFn (u:=16) (V:=cloV) (R:=cloR ch_0.1 ch1.2.1 ch1.e3 ch1.e4) (Clo.c85 ((atE t1.e3.2.1 (t1.1.getD 0)).e5) t1.1) ([⟨g3,0,none⟩,⟨g2,0,none⟩]:List Addr) rfl (fun h=>⟨h.1.1,h.2.1.1,tv⟩) (cloM _ _ _ _ _ _) rfl
 replace S:=S.slot (u:=5) (d':= .v (.pointer (ad g3))) rfl rfl rfl
 replace S:=S.slot (u:=4) (d':= .v (.pointer (ad g2))) rfl rfl rfl
 refine bindX h2 fun t2 et2 h3=>s_callK S (fd1_.ok (ch_0:=(ch_0.1,ch_0.2.1,ch_0.e3,ch1.1,ch1.2.1,ch1.e3,ch1.e4,ch1.e5,ch1.e6,ch1.e7,ch1.e8,ch1.e9,ch1.e10,ch1.e11,ch1.e12,ch1.t12)) et2) N68 rfl (.sk (.sk .pre)) (fun _=> .c8) rfl fun ch3 m le1 a w S=>c_end (c_region' (s_loadMF S rfl .h9 T111 (v:=(ptrV ch1.2.1 t1.1)) rfl rfl fun a S=>?_))
 have hl1:=S.slotPlt (u:=18) c1 rfl
 replace S:=S.slotP (u:=18) c1 rfl
 refine s_nilchk S rfl rfl fun a S=>s_fieldAddr S rfl I110_4 T4 (by decide) rfl rfl fun a S=>?_
 replace S:=S.famOpen (i:=(t1.1.getD 0)) hl1 .h2
 have hS:=S.structOpen (T:=(YE110 ch1.e3 ch1.e4)) (fun _=> .h) (((),(),(),(none,0),(none,0)),((),(),(),(none,0),(none,0)),(),(),(),(),())
 clear S; obtain ⟨ch4,S⟩:=hS
 refine s_storeJ S 12 rfl rfl rfl rfl .h T4 rfl rfl fun w S=>?_
 replace S:=S.structClose (T:=(YE110 ch1.e3 ch1.e4)) (e:=((atE t1.e3.2.1 (t1.1.getD 0)).1,(atE t1.e3.2.1 (t1.1.getD 0)).2.1,(atE t1.e3.2.1 (t1.1.getD 0)).e3,(atE t1.e3.2.1 (t1.1.getD 0)).e4,true,(atE t1.e3.2.1 (t1.1.getD 0)).e6,(atE t1.e3.2.1 (t1.1.getD 0)).t6)) (ch4:((YE110 ch1.e3 ch1.e4)).Ch) rfl .h
 replace S:=S.famClose hl1 .h .h2
 refine c_end' (b_end ?_)
 obtain rfl:=sI h3
 exact b_ret0 S rfl (S.retX (Hx:=[]) hb _ _ ((ch1.1,ch1.2.1,ch1.e3,ch1.e4,ch1.e5,ch1.e6,ch1.e7,ch3.1,ch3.2.1,ch3.t2,ch1.e11,ch1.e12,ch1.t12):W7) (.c0 (.c0 (.c0 (.c0 (.c0 (.c0 (.c0 (.c0 .n)))))))) tv)
abbrev fa6_.Ty:Type:=ST37→(List Int)→Option ST37
def fa6_.Ctr (s:fa6_.Ty):Prop:=∀ {x1:ST37} {x2:List Int} {ch_0_0:(Option Addr×Nat)×(Option Addr×Nat)×(Option Addr×Nat)×(Option Addr×Nat)×Unit×(Option Addr×Nat)×Unit×(Option Addr×Nat)} {r:ST37} (h0:s x1 x2=some r) {mi:Mem} {w0:World},CtrB Tryz.prog 51 [(.agg (SY37.segs x1 ch_0_0)),(.agg [.b20 x2])] [] (fun (ch:W21)=>((.agg (SY37.segs r ch)):D)) (fun (ch:W21)=>[]) mi w0
def fa6_.f (k:Nat)(x1:ST37)(x2:List Int):Option ST37:=(fd4_.f k x1 x2).bind fun t1=>((fb6_.f k x1 (t1.1,t1.2.1,true)).bind fun t2=>(some t2))
theorem fa6_.ok (k:Nat):fa6_.Ctr (fa6_.f k):=by
 intro x1 x2 ch_0_0 r h0 mi w0 ok hm
 delta fa6_.f at h0
 refine c_enterZ (n:=13) ok hm func51 rfl rfl rfl fun b0 hb a S=>c_region (s_box S rfl rfl rfl fun g1 a w S=>s_box S rfl rfl rfl fun g2 a w S=>s_alloc S Z37 rfl ⟨rfl,rfl,rfl,rfl,rfl,rfl,rfl,rfl,tv⟩ rfl fun g3 a w S=>c_end (c_region (s_loada S rfl .h2 T37 (s':=(SY37.segs x1 ch_0_0)) rfl rfl fun a S=>s_loada S rfl .h1 T40 (s':=[.b20 x2]) rfl rfl fun a S=>bindX h0 fun t1 et1 h1=>s_callK S (fd4_.ok k (ch_0_0:=ch_0_0) et1) N64 rfl .pre (fun _=> .n) rfl fun ch1 m le1 a w S=>s_alloc S Z122 rfl ⟨rfl,rfl,rfl,rfl,rfl,rfl,rfl,tv⟩ rfl fun g4 a w S=>s_store S rfl rfl rfl (s':=(Y122.segs t1 (((),(),(),(ch1.1,ch1.2.1),ch1.t2),(),()))) .h T122 rfl rfl fun w S=>c_end (c_region (s_fieldAddr S rfl I122_2 T4 (by decide) rfl rfl fun a S=>s_storeJ S 6 rfl rfl rfl rfl .h T4 rfl rfl fun w S=>c_end (c_region (s_loada S rfl .h3 T37 (s':=(SY37.segs x1 ch_0_0)) rfl rfl fun a S=>s_loada S rfl .h T122 (s':=(Y122.segs (t1.1,t1.2.1,true) (((),(),(),(ch1.1,ch1.2.1),ch1.t2),(),()))) rfl rfl fun a S=>bindX h1 fun t2 et2 h2=>s_callK S (fb6_.ok k (ch_0_0:=ch_0_0) et2) N74 rfl .pre (fun _=> .n) rfl fun ch2 m le1 a w S=>s_store S rfl rfl rfl (s':=(SY37.segs t2 ch2)) .h1 T37 rfl rfl fun w S=>c_end (wp_ret ?_))))))))
 obtain rfl:=sI h2
 exact b_ret1 (d:=(.agg (SY37.segs t2 ch2))) S rfl (resD_cell rfl .h1 T37 rfl rfl) fun ok=>S.retX (Hx:=[]) hb _ _ (ch2:W21) .nil ok
abbrev fc4_.Ty:Type:=ST37→Int→Option ST37
def fc4_.Ctr (s:fc4_.Ty):Prop:=∀ {x1:ST37} {x2:Int} {ch_0_0:(Option Addr×Nat)×(Option Addr×Nat)×(Option Addr×Nat)×(Option Addr×Nat)×Unit×(Option Addr×Nat)×Unit×(Option Addr×Nat)} {r:ST37} (h0:s x1 x2=some r) {mi:Mem} {w0:World},CtrB Tryz.prog 52 [(.agg (SY37.segs x1 ch_0_0)),(.i x2)] [] (fun (ch:W21)=>((.agg (SY37.segs r ch)):D)) (fun (ch:W21)=>[]) mi w0
def fc4_.j1 (x1:ST37)(x2:Int)(y1:Bool):Option ST37:=if y1=true then (some x1) else (if (0:Int)≤x2∧x2<(((ST37.un x1).2.2.2.2.2.2.2).length:Int) then (if (0:Int)≤0∧(0:Int)≤x2∧x2≤(((ST37.un x1).2.2.2.2.2.2.2).length:Int) then (if ((([]:List ST37)).length+(((ST37.un x1).2.2.2.2.2.2.2).take (Int.toNat x2)).length)*160≤140737488355328 then (some (ST37.mk ((ST37.un (gt ((ST37.un x1).2.2.2.2.2.2.2) x2)).1,(ST37.un (gt ((ST37.un x1).2.2.2.2.2.2.2) x2)).2.1,(ST37.un (gt ((ST37.un x1).2.2.2.2.2.2.2) x2)).2.2.1,(ST37.un (gt ((ST37.un x1).2.2.2.2.2.2.2) x2)).2.2.2.1,(ST37.un (gt ((ST37.un x1).2.2.2.2.2.2.2) x2)).2.2.2.2.1,(ST37.un (gt ((ST37.un x1).2.2.2.2.2.2.2) x2)).2.2.2.2.2.1,(ST37.un (gt ((ST37.un x1).2.2.2.2.2.2.2) x2)).2.2.2.2.2.2.1,([]:List ST37)++(((ST37.un x1).2.2.2.2.2.2.2).take (Int.toNat x2))))) else none) else none) else none)
def fc4_.f (x1:ST37)(x2:Int):Option ST37:=if (decide (x2<0))=true then (fc4_.j1 x1 x2 true) else (fc4_.j1 x1 x2 (decide ((((ST37.un x1).2.2.2.2.2.2.2).length:Int)≤x2)))
theorem fc4_.ok:fc4_.Ctr (fc4_.f):=by
 intro x1 x2 ch_0_0 r h0 mi w0 ok hm
 delta fc4_.f at h0
 refine c_enterZ (n:=32) ok hm func52 rfl rfl rfl fun b0 hb a S=>c_region (s_box S rfl rfl rfl fun g1 a w S=>s_alloc S Z37 rfl ⟨rfl,rfl,rfl,rfl,rfl,rfl,rfl,rfl,tv⟩ rfl fun g2 a w S=>c_end (wp_seq (wp_seq_k fun K1 hK1=>?_)))
 have j1:∀ m y1 g3 g4 a w,St 32 m b0 [(15,(.b y1)),(4,(.p g3)),(2,(.p g4)),(1,(.i x2))] [Res.cells g3 37 [.s none 0 0, .s none 0 0, .s none 0 0, .s none 0 0, .i 0, .s none 0 0, .b false, .s none 0 0],Res.cells g4 37 (SY37.segs x1 ch_0_0)] a w→fc4_.j1 x1 x2 y1=some r→K1 a w:=by
  intro m y1 g3 g4 a w S h0
  delta fc4_.j1 at h0
  refine hK1 a w ?_
  rcases ite_of h0 with ⟨c1,h1⟩ | ⟨c1,h1⟩
  ·refine c_condT S rfl c1 (c_region (s_loada S rfl .h1 T37 (s':=(SY37.segs x1 ch_0_0)) rfl rfl fun a S=>s_store S rfl rfl rfl (s':=(SY37.segs x1 ch_0_0)) .h T37 rfl rfl fun w S=>c_end (wp_ret (x_thenR ?_))))
   obtain rfl:=sI h1
   exact b_ret1 (d:=(.agg (SY37.segs x1 ch_0_0))) S rfl (resD_cell rfl .h T37 rfl rfl) fun ok=>S.retX (Hx:=[]) hb _ _ (ch_0_0:W21) .nil ok
  ·refine c_condF S rfl c1 (wp_skip (x_thenN (c_region (s_fieldAddr S rfl I37_7 T35 (by decide) rfl rfl fun a S=>s_loadSl S rfl .h1 T35 (A:=ch_0_0.e8) (len:=((ST37.un x1).t7).length) (cap:=ch_0_0.t8) rfl rfl fun a S=>s_mv1 S rfl fun a S=>?_))))
   obtain ⟨c2,h2⟩:=chk_of h1; clear h1
   simp only [SE37] at S
   refine s_iaddrS S rfl rfl rfl underlying35 T37 c2.1 c2.2 rfl fun p1 a S=>?_
   simp only [← SE37] at S
   refine s_ldA S (fun (c:(Option Addr×Nat)×(Option Addr×Nat)×(Option Addr×Nat)×(Option Addr×Nat)×Unit×(Option Addr×Nat)×Unit×(Option Addr×Nat))=>(SY37.segs (gt ((ST37.un x1).t7) x2) c)) rfl T37 (fun _=>rfl) rfl fun ch1 a S=>?_
   refine s_alloc S Z37 rfl ⟨rfl,rfl,rfl,rfl,rfl,rfl,rfl,rfl,tv⟩ rfl fun g5 a w S=>s_store S rfl rfl rfl (s':=(SY37.segs (gt ((ST37.un x1).t7) x2) ch1)) .h T37 rfl rfl fun w S=>c_end (c_region (s_bldSl S (ty':=SY37) (ds:=[]) (z:=(ST37.mk (([]:List L71),([]:List (L71×Bool×Bool)),([]:List (List Int)),([]:List ((List Int)×(List Int))),0,([]:List L100),false,([]:List ST37)))) (c0:=((none,0),(none,0),(none,0),(none,0),(),(none,0),(),(none,0))) (ys:=([]:List ST37)) (cs:=[]) rfl underlying35 J37 Z37 rfl ⟨⟨Nat.le_refl _,Nat.zero_le _,RdS.nil _ _ _,RdS.mono _ _ _⟩,⟨Nat.le_refl _,Nat.zero_le _,RdS.nil _ _ _,RdS.mono _ _ _⟩,⟨Nat.le_refl _,Nat.zero_le _,RdS.nil _ _ _,RdS.mono _ _ _⟩,⟨Nat.le_refl _,Nat.zero_le _,RdS.nil _ _ _,RdS.mono _ _ _⟩,rfl,⟨Nat.le_refl _,Nat.zero_le _,RdS.nil _ _ _,RdS.mono _ _ _⟩,rfl,⟨Nat.le_refl _,Nat.zero_le _,(SE37 _ _ ▸ RdS.nil _ _ _),SM37 _ _⟩,tv⟩ rfl rfl rfl rfl rfl rfl fun g6 a w S=>s_as1 S rfl fun a S=>c_end (c_region (s_mv1 S rfl fun a S=>s_fieldAddr S rfl I37_7 T35 (by decide) rfl rfl fun a S=>s_loadSl S rfl .h3 T35 (A:=ch_0_0.e8) (len:=((ST37.un x1).t7).length) (cap:=ch_0_0.t8) rfl rfl fun a S=>s_mv1 S rfl fun a S=>?_))))
   obtain ⟨c3,h3⟩:=chk_of h2; clear h2
   simp only [SE37] at S
   refine s_cutS S (i:=0) (j:=x2) (ys:=((ST37.un x1).t7).take (Int.toNat x2)) rfl rfl underlying35 T37 (.inl ⟨rfl,rfl⟩) (.inr ⟨_,_,rfl,rfl⟩) c3 rfl (cut_pre rfl) fun A1 cp1 a S=>?_
   simp only [← SE37] at S
   obtain ⟨c4,h4⟩:=chk_of h3; clear h3
   refine s_app S (k2:=((((ST37.un x1).t7).take (Int.toNat x2)).length)) (ys:=(((ST37.un x1).t7).take (Int.toNat x2))) rfl (fun _ _=> .h) rfl rfl rfl (RdS.src (SD37 (S.get 27 (.sl A1 (((ST37.un x1).t7).take (Int.toNat x2)).length cp1 (SR37 A1 (((ST37.un x1).t7).take (Int.toNat x2)))) rfl).2.2.2.1) (by decide) S.frz) underlying35 J37 c4 rfl fun A2 cp2 a w S=>s_as1 S rfl fun a S=>c_end (c_region (s_mv1 S rfl fun a S=>s_fieldAddr S rfl I37_7 T35 (by decide) rfl rfl fun a S=>s_storeJ S 7 rfl rfl rfl rfl .h1 T35 rfl rfl fun w S=>c_end (c_region (s_loada S rfl .h1 T37 (s':=[.q Y71 ch1.1.1 ch1.1.2 ((ST37.un (gt ((ST37.un x1).t7) x2)).1), .q Y122 ch1.2.1.1 ch1.2.1.2 ((ST37.un (gt ((ST37.un x1).t7) x2)).2.1), .q (Ty.arr .u8 20) ch1.e3.1 ch1.e3.2 ((ST37.un (gt ((ST37.un x1).t7) x2)).e3), .q Y133 ch1.e4.1 ch1.e4.2 ((ST37.un (gt ((ST37.un x1).t7) x2)).e4), .i ((ST37.un (gt ((ST37.un x1).t7) x2)).e5), .q Y100 ch1.e6.1 ch1.e6.2 ((ST37.un (gt ((ST37.un x1).t7) x2)).e6), .b ((ST37.un (gt ((ST37.un x1).t7) x2)).e7), .s A2 (0+((((ST37.un x1).t7).take (Int.toNat x2)).length)) cp2]) rfl rfl fun a S=>s_store S rfl rfl rfl (s':=[.q Y71 ch1.1.1 ch1.1.2 ((ST37.un (gt ((ST37.un x1).t7) x2)).1), .q Y122 ch1.2.1.1 ch1.2.1.2 ((ST37.un (gt ((ST37.un x1).t7) x2)).2.1), .q (Ty.arr .u8 20) ch1.e3.1 ch1.e3.2 ((ST37.un (gt ((ST37.un x1).t7) x2)).e3), .q Y133 ch1.e4.1 ch1.e4.2 ((ST37.un (gt ((ST37.un x1).t7) x2)).e4), .i ((ST37.un (gt ((ST37.un x1).t7) x2)).e5), .q Y100 ch1.e6.1 ch1.e6.2 ((ST37.un (gt ((ST37.un x1).t7) x2)).e6), .b ((ST37.un (gt ((ST37.un x1).t7) x2)).e7), .s A2 (0+((((ST37.un x1).t7).take (Int.toNat x2)).length)) cp2]) .h2 T37 rfl rfl fun w S=>c_end (wp_ret ?_)))))
   replace S:=S.rowfro .h
   obtain ⟨m,le1,S,hro⟩:=S
   rw [← SE37] at hro
   replace S:=S.slotFR (R:=SR37 A2 (([]:List ST37)++(((ST37.un x1).t7).take (Int.toNat x2)))) 31 7 rfl rfl hro (SM37 _ _)
   replace S:=S.slotrR (u:=29) rfl hro (SM37 _ _)
   replace S:=S.slotrR (u:=6) rfl hro (SM37 _ _)
   replace S:=S.slotrR (u:=28) rfl hro (SM37 _ _)
   replace S:=S.cellFR (R:=SR37 A2 (([]:List ST37)++(((ST37.un x1).t7).take (Int.toNat x2)))) 7 .h rfl hro (SM37 _ _)
   replace S:=S.cellFR (R:=SR37 A2 (([]:List ST37)++(((ST37.un x1).t7).take (Int.toNat x2)))) 7 .h1 rfl hro (SM37 _ _)
   obtain rfl:=sI h4
   exact b_ret1 (d:=(.agg (SY37.segs (ST37.mk ((ST37.un (gt ((ST37.un x1).t7) x2)).1,(ST37.un (gt ((ST37.un x1).t7) x2)).2.1,(ST37.un (gt ((ST37.un x1).t7) x2)).e3,(ST37.un (gt ((ST37.un x1).t7) x2)).e4,(ST37.un (gt ((ST37.un x1).t7) x2)).e5,(ST37.un (gt ((ST37.un x1).t7) x2)).e6,(ST37.un (gt ((ST37.un x1).t7) x2)).e7,([]:List ST37)++(((ST37.un x1).t7).take (Int.toNat x2)))) (ch1.1,ch1.2.1,ch1.e3,ch1.e4,(),ch1.e6,(),(A2,cp2))))) S rfl (resD_cell rfl .h1 T37 rfl rfl) fun ok=>S.retX (Hx:=[]) hb _ _ ((ch1.1,ch1.2.1,ch1.e3,ch1.e4,(),ch1.e6,(),(A2,cp2)):W21) .nil ok
 refine c_region' (s_mv1 S rfl fun a S=>s_bi S rfl fun a S=>s_mv1 S rfl fun a S=>?_)
 rcases ite_of h0 with ⟨c5,h1⟩ | ⟨c5,h1⟩
 ·refine s_gF S (b:=(decide (x2<0))) rfl rfl c5 rfl fun a S=>s_gF S (b:=(decide (x2<0))) rfl rfl c5 rfl fun a S=>s_gF S (b:=(decide (x2<0))) rfl rfl c5 rfl fun a S=>s_gF S (b:=(decide (x2<0))) rfl rfl c5 rfl fun a S=>s_gF S (b:=(decide (x2<0))) rfl rfl c5 rfl fun a S=>s_pick S (b:=true) (hc_of rfl c5) rfl rfl fun a S=>c_end' (x_thenN ?_)
  exact j1 _ true g2 g1 a w (S.sb rfl (.c0 (.c0 .n))) h1
 ·refine s_gT S (b:=(decide (x2<0))) rfl rfl c5 (s_mv1 S rfl fun a S=>s_gT S (b:=(decide (x2<0))) rfl rfl c5 (s_fieldAddr S rfl I37_7 T35 (by decide) rfl rfl fun a S=>s_gT S (b:=(decide (x2<0))) rfl rfl c5 (s_loadSl S rfl .h1 T35 (A:=ch_0_0.e8) (len:=((ST37.un x1).t7).length) (cap:=ch_0_0.t8) rfl rfl fun a S=>s_gT S (b:=(decide (x2<0))) rfl rfl c5 (s_lenS S rfl underlying35 rfl fun a S=>s_gT S (b:=(decide (x2<0))) rfl rfl c5 (s_bi S rfl fun a S=>s_pick S (b:=false) (hc_of rfl c5) rfl rfl fun a S=>c_end' (x_thenN ?_))))))
  exact j1 _ (decide ((((ST37.un x1).t7).length:Int)≤x2)) g2 g1 a w (S.sb rfl (.c0 (.c0 .n))) h1
end
end GW
