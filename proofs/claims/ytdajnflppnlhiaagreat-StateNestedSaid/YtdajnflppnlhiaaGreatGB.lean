import Derived.Test.YtdajnflppnlhiaaGreatProg
import Derived.Test.YtdajnflppnlhiaaGreatGA
set_option linter.unusedVariables false
set_option linter.unusedSimpArgs false
set_option maxRecDepth 10000
set_option maxHeartbeats 4000000
namespace GW
open Go Go.RowKit Go.Proofs Go.Proofs.Tryz
noncomputable section
abbrev fg6_.Ty:Type:=W2→(List Int)→(List Int)→Option W19
def fg6_.Ctr (s:fg6_.Ty):Prop:=∀ {x1:W2} {x2:List Int} {x3:List Int} {ch_0:W3} {r:W19} (h0:s x1 x2 x3=some r) {mi:Mem} {w0:World},CtrB Tryz.prog 21 [(.v (.pointer (some ⟨ch_0.1,0,none⟩))),(.agg [.b20 x2]),(.a4 x3)] (MS1 x1 ch_0) (fun (ch:W7)=>((.a4 r.1):D)) (fun (ch:W7)=>(MS1 (x1.1,r.e3,x1.e3,r.e5,r.e6,r.t6) (ch_0.1,ch_0.2.1,ch_0.e3,ch.1,ch.2.1,ch.e3,ch.e4,ch.e5,ch.e6,ch.e7,ch.e8,ch.e9,ch.e10,ch.e11,ch.e12,ch.t12))) mi w0
def fg6_.j1 (k:Nat)(x1:W2)(x2:List Int)(x3:List Int)(y1:Bool)(y2:W15)(y3:List L110)(y4:W16)(y5:W17)(y6:List L100)(y7:List Clo)(y8:List (List Int))(y9:List Int):Option W19:=if y1=true then (some (y9,((),(y2,y3,y4,y5),(),y6,y7,y8))) else ((fg0_.f k (x1.1,(y2,y3,y4,y5),x1.2.2.1,y6,y7,y8) x2 x3).bind fun t1=>(some (t1.1,((),t1.2.2.1,(),t1.2.2.2.2.1,t1.2.2.2.2.2.1,t1.2.2.2.2.2.2))))
def fg6_.f (k:Nat)(x1:W2)(x2:List Int)(x3:List Int):Option W19:=(fh6_.f k x1 x2).bind fun t2=>(if t2.1.isSome=true then (fg6_.j1 k x1 x2 x3 ((lk (aget (atE t2.2.2.1.2.2.1 ((atE t2.2.2.1.2.1 (t2.1.getD 0)).2.2.2.1)) x3) [0,0,0,0]).2) t2.2.2.1.1 t2.2.2.1.2.1 t2.2.2.1.2.2.1 t2.2.2.1.2.2.2 t2.2.2.2.2.1 t2.2.2.2.2.2.1 t2.2.2.2.2.2.2 ((lk (aget (atE t2.2.2.1.2.2.1 ((atE t2.2.2.1.2.1 (t2.1.getD 0)).2.2.2.1)) x3) [0,0,0,0]).1)) else none)
theorem fg6_.ok (k:Nat):fg6_.Ctr (fg6_.f k):=by
 intro x1 x2 x3 ch_0 r h0 mi w0 ok hm
 delta fg6_.f at h0
 refine c_enterZ (n:=29) ok hm func21 rfl rfl rfl fun b0 hb a S=>c_region (s_box S rfl rfl rfl fun g1 a w S=>s_box S rfl rfl rfl fun g2 a w S=>s_alloc S Z43 rfl ⟨rfl,tv⟩ rfl fun g3 a w S=>c_end (wp_seq (c_region (s_mv1 S rfl fun a S=>s_eqp S (b:=false) rfl rfl underlying26 rfl rfl fun a S=>c_end (c_condF S rfl rfl (wp_skip (x_thenN (wp_seq (wp_seq_k fun K1 hK1=>?_)))))))))
 have j1:∀ (m:Mem) (y1:Bool) (g5:Nat) (g6:Nat) (g7:Nat) (g8:Nat) (g9:Nat) (y2:List ((List Int)×Option Nat)) (G1:List Nat) (G2:List Nat) (G3:List Nat) (y3:List L110) (y4:List (List ((List Int)×(List Int)))) (y5:List (List ((List Int)×Bool))) (A1:Option Addr) (nn1:Nat) (cp1:Nat) (y6:List L100) (A2:Option Addr) (nn2:Nat) (cp2:Nat) (y7:List Clo) (A3:Option Addr) (nn3:Nat) (cp3:Nat) (y8:List (List Int)) (y9:List Int) (a:Act) (w:World),St 29 m b0 [(8,(.b y1)),(7,(.p g5)),(6,(.p g6)),(5,(.p g7)),(4,(.p g8)),(0,(.v (.pointer (some ⟨ch_0.1,0,none⟩))))] ([Res.cells g5 43 [.w4 y9]]++MS1 (x1.1,(y2,y3,y4,y5),x1.e3,y6,y7,y8) (ch_0.1,ch_0.2.1,ch_0.e3,g9,G1,G2,G3,A1,nn1,cp1,A2,nn2,cp2,A3,nn3,cp3)++[Res.cells g6 43 [.w4 [0,0,0,0]],Res.cells g7 43 [.w4 x3],Res.cells g8 40 [.b20 x2]]) a w→fg6_.j1 k x1 x2 x3 y1 y2 y3 y4 y5 y6 y7 y8 y9=some r→K1 a w:=by
  intro m y1 g5 g6 g7 g8 g9 y2 G1 G2 G3 y3 y4 y5 A1 nn1 cp1 y6 A2 nn2 cp2 y7 A3 nn3 cp3 y8 y9 a w S h0
  delta fg6_.j1 at h0
  refine hK1 a w (c_region (s_mv1 S rfl fun a S=>c_end ?_))
  rcases ite_of h0 with ⟨c1,h1⟩ | ⟨c1,h1⟩
  ·refine c_condT S rfl c1 (c_region (s_loada S rfl .h T43 (s':=[.w4 y9]) rfl rfl fun a S=>s_store S rfl rfl rfl (s':=[.w4 y9]) .h9 T43 rfl rfl fun w S=>c_end (wp_ret (x_thenR ?_))))
   obtain rfl:=sI h1
   exact b_ret1 (d:=(.a4 y9)) S rfl (resD_cell rfl .h9 T43 rfl rfl) fun ok=>S.retX (Hx:=[]) hb _ _ ((g9,G1,G2,G3,A1,nn1,cp1,A2,nn2,cp2,A3,nn3,cp3):W7) (.c1 (.c1 (.c1 (.c1 (.c1 (.c1 (.c1 (.c1 .n)))))))) ok
  ·refine c_condF S rfl c1 (wp_skip (x_thenN (c_region (s_mv1 S rfl fun a S=>s_loada S rfl .h11 T40 (s':=[.b20 x2]) rfl rfl fun a S=>s_loada S rfl .h10 T43 (s':=[.w4 x3]) rfl rfl fun a S=>bindX h1 fun t1 et1 h2=>s_callK S (fg0_.ok k (ch_0:=(ch_0.1,ch_0.2.1,ch_0.e3,g9,G1,G2,G3,A1,nn1,cp1,A2,nn2,cp2,A3,nn3,cp3)) et1) N22 rfl (.sk .pre) (fun _=> .c8) rfl fun ch1 m le1 a w S=>s_store S rfl rfl rfl (s':=[.w4 t1.1]) .h9 T43 rfl rfl fun w S=>c_end (wp_ret ?_)))))
   obtain rfl:=sI h2
   exact b_ret1 (d:=(.a4 t1.1)) S rfl (resD_cell rfl .h9 T43 rfl rfl) fun ok=>S.retX (Hx:=[]) hb _ _ (ch1:W7) (.c0 (.c0 (.c0 (.c0 (.c0 (.c0 (.c0 (.c0 .n)))))))) ok
 refine c_hS S (.take 0 (.take 1 (.take 6 (.alts (.run 2 true (.alts (.run 3 true (.take 4 (.alts (.run 5 true (.alts (.run 7 false (.pure 8 (.pure 9 (.pure 10 (.alts (.run 11 false (.alts (.run 12 false (.alts (.run 13 false .done .nil)) .nil)) .nil))))) (.run 11 true (.alts (.run 7 false (.pure 8 (.pure 9 (.pure 10 (.alts (.run 12 false (.alts (.run 13 false .done .nil)) .nil))))) .nil)) .nil))) (.run 11 true (.alts (.run 5 true (.alts (.run 7 false (.pure 8 (.pure 9 (.pure 10 (.alts (.run 12 false (.alts (.run 13 false .done .nil)) .nil))))) .nil)) .nil)) .nil)))) (.run 11 true (.alts (.run 3 true (.take 4 (.alts (.run 5 true (.alts (.run 7 false (.pure 8 (.pure 9 (.pure 10 (.alts (.run 12 false (.alts (.run 13 false .done .nil)) .nil))))) .nil)) .nil))) .nil)) .nil))) (.run 11 true (.alts (.run 2 true (.alts (.run 3 true (.take 4 (.alts (.run 5 true (.alts (.run 7 false (.pure 8 (.pure 9 (.pure 10 (.alts (.run 12 false (.alts (.run 13 false .done .nil)) .nil))))) .nil)) .nil))) .nil)) .nil)) .nil)))))) 7 (.c1 (.c1 .n)) ⟨Res.stay_cells,Res.stay_cells,tv⟩ [(5,(.p g2)),(4,(.p g1)),(0,(.v (.pointer (some ⟨ch_0.1,0,none⟩))))] rfl (by kernel_rfl) fun w S CL hw le=>?_
 refine h_mv1 S CL hw le rfl tv fun a S CL=>h_loada S CL hw le (subR rfl) rfl .h1 T40 (s':=[.b20 x2]) rfl rfl rfl tv fun a S CL=>h_loada S CL hw le (subR rfl) rfl .h T43 (s':=[.w4 x3]) rfl rfl rfl tv fun a S CL=>bindX h0 fun t2 et2 h1=>?_
 obtain ⟨c2,h2⟩:=chk_of h1; clear h1
 refine h_alts ?_
 refine h_runO S rfl tv ?_ ?_
 ·refine s_callK S (fh6_.ok k (ch_0:=ch_0) et2) N56 rfl (.sk (.sk (.sk .pre))) (fun _=> .c8) rfl fun ch2 m le1 a w S=>?_
  replace le:=le.trans le1
  refine CL.bk hw S (.c9 (.c9 .n)) le fun hw=>h_alts ?_
  refine h_runO S rfl tv ?_ ?_
  ·have hl2:=S.slotPlt (u:=15) c2 rfl
   replace S:=S.slotP (u:=15) c2 rfl
   refine s_nilchk S rfl rfl fun a S=>CL.bk hw S (.c9 (.c9 .n)) le fun hw=>?_
   replace CL:=CL.add (t:=16) (d:=(.v (.pointer (some ⟨(bAt ch2.2.1 (t2.1.getD 0)),0,none⟩)))) S rfl rfl
   refine h_fieldAddr S CL hw le (subR rfl) rfl I110_3 T107 (by decide) rfl rfl rfl tv fun a S CL=>h_alts ?_
   refine h_runO S rfl tv ?_ ?_
   ·replace S:=S.famOpen (i:=(t2.1.getD 0)) hl2 .h2
    have hS:=S.structOpen (T:=(YE110 ch2.e3 ch2.e4)) (fun _=> .h) (((),(),(),(none,0),(none,0)),((),(),(),(none,0),(none,0)),(),(),(),(),())
    clear S; obtain ⟨ch3,S⟩:=hS
    refine s_loadM S rfl .h T107 (v:=(.map (some (bAt ch2.e3 ((atE t2.e3.2.1 (t2.1.getD 0)).e4))))) rfl rfl fun a S=>?_
    replace S:=S.structClose (T:=(YE110 ch2.e3 ch2.e4)) (e:=atE t2.e3.2.1 (t2.1.getD 0)) (ch3:((YE110 ch2.e3 ch2.e4)).Ch) rfl .h
    replace S:=S.famShut hl2 .h .h2
    refine CL.bk hw S (.c9 (.c9 .n)) le fun hw=>h_alts ?_
    refine h_runO S rfl tv ?_ ?_
    ·have hm1:=S.slotLt (u:=18) rfl
     replace S:=S.slotMid (u:=18) rfl
     replace S:=S.famOpen (i:=((atE t2.e3.2.1 (t2.1.getD 0)).e4)) hm1 .h3
     refine s_lookO S (z:=[0,0,0,0]) (k:=x3) rfl .h () rfl (fun h=>⟨(),rfl,h⟩) underlying107 KT43 Z43 ⟨rfl,tv⟩ rfl fun ch4 a S=>?_
     replace S:=S.famShut hm1 .h .h3
     replace S:=S.slotMidB (u:=18) hm1 rfl
     refine h_back ⟨fun h=>(nomatch h),?_⟩
     refine p_move S rfl rfl rfl tv fun a S=>p_extract S rfl rfl rfl rfl rfl tv fun a S=>p_extract S rfl rfl rfl rfl rfl tv fun a S=>h_run' S rfl tv (s_alloc S Z43 rfl ⟨rfl,tv⟩ rfl fun g10 a w S=>?_)
     refine h_back ⟨fun h=>(nomatch h),?_⟩
     refine h_run' S rfl tv (s_storeJ S 0 rfl rfl rfl rfl .h T43 rfl rfl fun w S=>?_)
     refine h_back ⟨fun h=>(nomatch h),?_⟩
     refine h_run' S rfl tv (s_as1 S rfl fun a S=>?_)
     refine h_back ⟨fun h=>(nomatch h),?_⟩
     refine h_done ?_; clear CL hw le
     refine x_thenN ?_
     exact j1 _ ((lk (aget (atE t2.e3.e3 ((atE t2.e3.2.1 (t2.1.getD 0)).e4)) x3) [0,0,0,0]).2) g10 g3 g2 g1 ch2.1 t2.e3.1 ch2.2.1 ch2.e3 ch2.e4 t2.e3.2.1 t2.e3.e3 t2.e3.t3 ch2.e5 ch2.e6 ch2.e7 t2.e5 ch2.e8 ch2.e9 ch2.e10 t2.e6 ch2.e11 ch2.e12 ch2.t12 t2.t6 ((lk (aget (atE t2.e3.e3 ((atE t2.e3.2.1 (t2.1.getD 0)).e4)) x3) [0,0,0,0]).1) a w (S.sb rfl (.c0 (.c0 (.c0 (.c0 (.c0 (.c0 (.c0 (.c0 (.c0 (.c0 (.c0 (.c0 .n))))))))))))) h2
    refine h_runO S rfl tv ?_ ?_
    ·refine s_alloc S Z43 rfl ⟨rfl,tv⟩ rfl fun g10 a w S=>CL.bk hw S (.c10 (.c10 .n)) le fun hw=>h_run' S rfl tv ?_
     have hm1:=S.slotLt (u:=18) rfl
     replace S:=S.slotMid (u:=18) rfl
     replace S:=S.famOpen (i:=((atE t2.e3.2.1 (t2.1.getD 0)).e4)) hm1 .h4
     refine s_lookO S (z:=[0,0,0,0]) (k:=x3) rfl .h () rfl (fun h=>⟨(),rfl,h⟩) underlying107 KT43 Z43 ⟨rfl,tv⟩ rfl fun ch4 a S=>?_
     replace S:=S.famShut hm1 .h .h4
     replace S:=S.slotMidB (u:=18) hm1 rfl
     refine h_back ⟨fun h=>(nomatch h),?_⟩
     refine p_move S rfl rfl rfl tv fun a S=>p_extract S rfl rfl rfl rfl rfl tv fun a S=>p_extract S rfl rfl rfl rfl rfl tv fun a S=>h_run' S rfl tv (s_storeJ S 0 rfl rfl rfl rfl .h T43 rfl rfl fun w S=>?_)
     refine h_back ⟨fun h=>(nomatch h),?_⟩
     refine h_run' S rfl tv (s_as1 S rfl fun a S=>?_)
     refine h_back ⟨fun h=>(nomatch h),?_⟩
     refine h_done ?_; clear CL hw le
     refine x_thenN ?_
     exact j1 _ ((lk (aget (atE t2.e3.e3 ((atE t2.e3.2.1 (t2.1.getD 0)).e4)) x3) [0,0,0,0]).2) g10 g3 g2 g1 ch2.1 t2.e3.1 ch2.2.1 ch2.e3 ch2.e4 t2.e3.2.1 t2.e3.e3 t2.e3.t3 ch2.e5 ch2.e6 ch2.e7 t2.e5 ch2.e8 ch2.e9 ch2.e10 t2.e6 ch2.e11 ch2.e12 ch2.t12 t2.t6 ((lk (aget (atE t2.e3.e3 ((atE t2.e3.2.1 (t2.1.getD 0)).e4)) x3) [0,0,0,0]).1) a w (S.sb rfl (.c0 (.c0 (.c0 (.c0 (.c0 (.c0 (.c0 (.c0 (.c0 (.c0 (.c0 (.c0 .n))))))))))))) h2
    exact h_nil
   refine h_runO S rfl tv ?_ ?_
   ·refine s_alloc S Z43 rfl ⟨rfl,tv⟩ rfl fun g10 a w S=>CL.bk hw S (.c10 (.c10 .n)) le fun hw=>h_run' S rfl tv ?_
    replace S:=S.famOpen (i:=(t2.1.getD 0)) hl2 .h3
    have hS:=S.structOpen (T:=(YE110 ch2.e3 ch2.e4)) (fun _=> .h) (((),(),(),(none,0),(none,0)),((),(),(),(none,0),(none,0)),(),(),(),(),())
    clear S; obtain ⟨ch3,S⟩:=hS
    refine s_loadM S rfl .h T107 (v:=(.map (some (bAt ch2.e3 ((atE t2.e3.2.1 (t2.1.getD 0)).e4))))) rfl rfl fun a S=>?_
    replace S:=S.structClose (T:=(YE110 ch2.e3 ch2.e4)) (e:=atE t2.e3.2.1 (t2.1.getD 0)) (ch3:((YE110 ch2.e3 ch2.e4)).Ch) rfl .h
    replace S:=S.famShut hl2 .h .h3
    refine CL.bk hw S (.c10 (.c10 .n)) le fun hw=>h_run' S rfl tv ?_
    have hm1:=S.slotLt (u:=18) rfl
    replace S:=S.slotMid (u:=18) rfl
    replace S:=S.famOpen (i:=((atE t2.e3.2.1 (t2.1.getD 0)).e4)) hm1 .h4
    refine s_lookO S (z:=[0,0,0,0]) (k:=x3) rfl .h () rfl (fun h=>⟨(),rfl,h⟩) underlying107 KT43 Z43 ⟨rfl,tv⟩ rfl fun ch4 a S=>?_
    replace S:=S.famShut hm1 .h .h4
    replace S:=S.slotMidB (u:=18) hm1 rfl
    refine h_back ⟨fun h=>(nomatch h),?_⟩
    refine p_move S rfl rfl rfl tv fun a S=>p_extract S rfl rfl rfl rfl rfl tv fun a S=>p_extract S rfl rfl rfl rfl rfl tv fun a S=>h_run' S rfl tv (s_storeJ S 0 rfl rfl rfl rfl .h T43 rfl rfl fun w S=>?_)
    refine h_back ⟨fun h=>(nomatch h),?_⟩
    refine h_run' S rfl tv (s_as1 S rfl fun a S=>?_)
    refine h_back ⟨fun h=>(nomatch h),?_⟩
    refine h_done ?_; clear CL hw le
    refine x_thenN ?_
    exact j1 _ ((lk (aget (atE t2.e3.e3 ((atE t2.e3.2.1 (t2.1.getD 0)).e4)) x3) [0,0,0,0]).2) g10 g3 g2 g1 ch2.1 t2.e3.1 ch2.2.1 ch2.e3 ch2.e4 t2.e3.2.1 t2.e3.e3 t2.e3.t3 ch2.e5 ch2.e6 ch2.e7 t2.e5 ch2.e8 ch2.e9 ch2.e10 t2.e6 ch2.e11 ch2.e12 ch2.t12 t2.t6 ((lk (aget (atE t2.e3.e3 ((atE t2.e3.2.1 (t2.1.getD 0)).e4)) x3) [0,0,0,0]).1) a w (S.sb rfl (.c0 (.c0 (.c0 (.c0 (.c0 (.c0 (.c0 (.c0 (.c0 (.c0 (.c0 (.c0 .n))))))))))))) h2
   exact h_nil
  refine h_runO S rfl tv ?_ ?_
  ·refine s_alloc S Z43 rfl ⟨rfl,tv⟩ rfl fun g10 a w S=>CL.bk hw S (.c10 (.c10 .n)) le fun hw=>h_run' S rfl tv ?_
   have hl2:=S.slotPlt (u:=15) c2 rfl
   replace S:=S.slotP (u:=15) c2 rfl
   refine s_nilchk S rfl rfl fun a S=>CL.bk hw S (.c10 (.c10 .n)) le fun hw=>?_
   replace CL:=CL.add (t:=16) (d:=(.v (.pointer (some ⟨(bAt ch2.2.1 (t2.1.getD 0)),0,none⟩)))) S rfl rfl
   refine h_fieldAddr S CL hw le (subR rfl) rfl I110_3 T107 (by decide) rfl rfl rfl tv fun a S CL=>h_run' S rfl tv ?_
   replace S:=S.famOpen (i:=(t2.1.getD 0)) hl2 .h3
   have hS:=S.structOpen (T:=(YE110 ch2.e3 ch2.e4)) (fun _=> .h) (((),(),(),(none,0),(none,0)),((),(),(),(none,0),(none,0)),(),(),(),(),())
   clear S; obtain ⟨ch3,S⟩:=hS
   refine s_loadM S rfl .h T107 (v:=(.map (some (bAt ch2.e3 ((atE t2.e3.2.1 (t2.1.getD 0)).e4))))) rfl rfl fun a S=>?_
   replace S:=S.structClose (T:=(YE110 ch2.e3 ch2.e4)) (e:=atE t2.e3.2.1 (t2.1.getD 0)) (ch3:((YE110 ch2.e3 ch2.e4)).Ch) rfl .h
   replace S:=S.famShut hl2 .h .h3
   refine CL.bk hw S (.c10 (.c10 .n)) le fun hw=>h_run' S rfl tv ?_
   have hm1:=S.slotLt (u:=18) rfl
   replace S:=S.slotMid (u:=18) rfl
   replace S:=S.famOpen (i:=((atE t2.e3.2.1 (t2.1.getD 0)).e4)) hm1 .h4
   refine s_lookO S (z:=[0,0,0,0]) (k:=x3) rfl .h () rfl (fun h=>⟨(),rfl,h⟩) underlying107 KT43 Z43 ⟨rfl,tv⟩ rfl fun ch4 a S=>?_
   replace S:=S.famShut hm1 .h .h4
   replace S:=S.slotMidB (u:=18) hm1 rfl
   refine h_back ⟨fun h=>(nomatch h),?_⟩
   refine p_move S rfl rfl rfl tv fun a S=>p_extract S rfl rfl rfl rfl rfl tv fun a S=>p_extract S rfl rfl rfl rfl rfl tv fun a S=>h_run' S rfl tv (s_storeJ S 0 rfl rfl rfl rfl .h T43 rfl rfl fun w S=>?_)
   refine h_back ⟨fun h=>(nomatch h),?_⟩
   refine h_run' S rfl tv (s_as1 S rfl fun a S=>?_)
   refine h_back ⟨fun h=>(nomatch h),?_⟩
   refine h_done ?_; clear CL hw le
   refine x_thenN ?_
   exact j1 _ ((lk (aget (atE t2.e3.e3 ((atE t2.e3.2.1 (t2.1.getD 0)).e4)) x3) [0,0,0,0]).2) g10 g3 g2 g1 ch2.1 t2.e3.1 ch2.2.1 ch2.e3 ch2.e4 t2.e3.2.1 t2.e3.e3 t2.e3.t3 ch2.e5 ch2.e6 ch2.e7 t2.e5 ch2.e8 ch2.e9 ch2.e10 t2.e6 ch2.e11 ch2.e12 ch2.t12 t2.t6 ((lk (aget (atE t2.e3.e3 ((atE t2.e3.2.1 (t2.1.getD 0)).e4)) x3) [0,0,0,0]).1) a w (S.sb rfl (.c0 (.c0 (.c0 (.c0 (.c0 (.c0 (.c0 (.c0 (.c0 (.c0 (.c0 (.c0 .n))))))))))))) h2
  exact h_nil
 refine h_runO S rfl tv ?_ ?_
 ·refine s_alloc S Z43 rfl ⟨rfl,tv⟩ rfl fun g10 a w S=>CL.bk hw S (.c2 (.c2 .n)) le fun hw=>h_run' S rfl tv (s_callK S (fh6_.ok k (ch_0:=ch_0) et2) N56 rfl (.sk (.sk (.sk (.sk .pre)))) (fun _=> .c8) rfl fun ch2 m le1 a w S=>?_)
  replace le:=le.trans le1
  refine CL.bk hw S (.c10 (.c10 .n)) le fun hw=>h_run' S rfl tv ?_
  have hl2:=S.slotPlt (u:=15) c2 rfl
  replace S:=S.slotP (u:=15) c2 rfl
  refine s_nilchk S rfl rfl fun a S=>CL.bk hw S (.c10 (.c10 .n)) le fun hw=>?_
  replace CL:=CL.add (t:=16) (d:=(.v (.pointer (some ⟨(bAt ch2.2.1 (t2.1.getD 0)),0,none⟩)))) S rfl rfl
  refine h_fieldAddr S CL hw le (subR rfl) rfl I110_3 T107 (by decide) rfl rfl rfl tv fun a S CL=>h_run' S rfl tv ?_
  replace S:=S.famOpen (i:=(t2.1.getD 0)) hl2 .h2
  have hS:=S.structOpen (T:=(YE110 ch2.e3 ch2.e4)) (fun _=> .h) (((),(),(),(none,0),(none,0)),((),(),(),(none,0),(none,0)),(),(),(),(),())
  clear S; obtain ⟨ch3,S⟩:=hS
  refine s_loadM S rfl .h T107 (v:=(.map (some (bAt ch2.e3 ((atE t2.e3.2.1 (t2.1.getD 0)).e4))))) rfl rfl fun a S=>?_
  replace S:=S.structClose (T:=(YE110 ch2.e3 ch2.e4)) (e:=atE t2.e3.2.1 (t2.1.getD 0)) (ch3:((YE110 ch2.e3 ch2.e4)).Ch) rfl .h
  replace S:=S.famShut hl2 .h .h2
  refine CL.bk hw S (.c10 (.c10 .n)) le fun hw=>h_run' S rfl tv ?_
  have hm1:=S.slotLt (u:=18) rfl
  replace S:=S.slotMid (u:=18) rfl
  replace S:=S.famOpen (i:=((atE t2.e3.2.1 (t2.1.getD 0)).e4)) hm1 .h3
  refine s_lookO S (z:=[0,0,0,0]) (k:=x3) rfl .h () rfl (fun h=>⟨(),rfl,h⟩) underlying107 KT43 Z43 ⟨rfl,tv⟩ rfl fun ch4 a S=>?_
  replace S:=S.famShut hm1 .h .h3
  replace S:=S.slotMidB (u:=18) hm1 rfl
  refine h_back ⟨fun h=>(nomatch h),?_⟩
  refine p_move S rfl rfl rfl tv fun a S=>p_extract S rfl rfl rfl rfl rfl tv fun a S=>p_extract S rfl rfl rfl rfl rfl tv fun a S=>h_run' S rfl tv (s_storeJ S 0 rfl rfl rfl rfl .h8 T43 rfl rfl fun w S=>?_)
  refine h_back ⟨fun h=>(nomatch h),?_⟩
  refine h_run' S rfl tv (s_as1 S rfl fun a S=>?_)
  refine h_back ⟨fun h=>(nomatch h),?_⟩
  refine h_done ?_; clear CL hw le
  refine x_thenN ?_
  exact j1 _ ((lk (aget (atE t2.e3.e3 ((atE t2.e3.2.1 (t2.1.getD 0)).e4)) x3) [0,0,0,0]).2) g10 g3 g2 g1 ch2.1 t2.e3.1 ch2.2.1 ch2.e3 ch2.e4 t2.e3.2.1 t2.e3.e3 t2.e3.t3 ch2.e5 ch2.e6 ch2.e7 t2.e5 ch2.e8 ch2.e9 ch2.e10 t2.e6 ch2.e11 ch2.e12 ch2.t12 t2.t6 ((lk (aget (atE t2.e3.e3 ((atE t2.e3.2.1 (t2.1.getD 0)).e4)) x3) [0,0,0,0]).1) a w (S.sb rfl (.c8 (.c0 (.c0 (.c0 (.c0 (.c0 (.c0 (.c0 (.c0 (.c0 (.c0 (.c0 .n))))))))))))) h2
 exact h_nil
abbrev ff4_.Ty:Type:=Option Bool
def ff4_.Ctr (s:ff4_.Ty):Prop:=∀ {r:Bool} (h0:s=some r) {mi:Mem} {w0:World},CtrB Tryz.prog 8 [] [] (fun (ch:Unit)=>((.b r):D)) (fun (ch:Unit)=>[]) mi w0
def ff4_.f (k:Nat):Option Bool:=(fh5_.f).bind fun t1=>((fh3_.f k t1 [1,0,0,0,0,0,0,0,0,0,0,0,0,0,0,0,0,0,0,0] [1,0,0,0] [5,0,0,0]).bind fun t2=>((fg7_.f (t1.1,t2.2.1,t1.2.2.1,t2.2.2.2.1,t2.2.2.2.2.1,t2.2.2.2.2.2)).bind fun t3=>((fh3_.f k (t1.1,t2.2.1,t1.2.2.1,t2.2.2.2.1,t2.2.2.2.2.1,t2.2.2.2.2.2) [1,0,0,0,0,0,0,0,0,0,0,0,0,0,0,0,0,0,0,0] [1,0,0,0] [7,0,0,0]).bind fun t4=>((fg8_.f k (t1.1,t4.2.1,t1.2.2.1,t4.2.2.2.1,t4.2.2.2.2.1,t4.2.2.2.2.2) t3).bind fun t5=>((fg6_.f k t5 [1,0,0,0,0,0,0,0,0,0,0,0,0,0,0,0,0,0,0,0] [1,0,0,0]).bind fun t6=>(some (decide (t6.1=[5,0,0,0]))))))))
theorem ff4_.ok (k:Nat):ff4_.Ctr (ff4_.f k):=by
 intro r h0 mi w0 ok hm
 delta ff4_.f at h0
 refine c_enterZ (n:=27) ok hm func8 rfl rfl rfl fun b0 hb a S=>c_region (s_as1 S rfl fun a S=>c_end (c_region (bindX h0 fun t1 et1 h1=>s_callK S (fh5_.ok et1) N9 rfl .pre (fun _=> .c8) rfl fun ch1 m le1 a w S=>s_as1 S rfl fun a S=>c_end (wp_seq (c_region (s_mv1 S rfl fun a S=>s_eqp S (b:=false) rfl rfl underlying26 rfl rfl fun a S=>c_end (c_condF S rfl rfl (wp_skip (x_thenN (c_region (s_mv1 S rfl fun a S=>s_build S (ds:=[(0,(.v (.int .u8 1)))]) (dv:=(.agg [.b20 [1,0,0,0,0,0,0,0,0,0,0,0,0,0,0,0,0,0,0,0]])) rfl (fun _=>by kernel_rfl) ⟨rfl,tv⟩ rfl fun a S=>s_build S (ds:=[(0,(.w 1))]) (dv:=(.a4 [1,0,0,0])) rfl (fun _=>by kernel_rfl) ⟨rfl,tv⟩ rfl fun a S=>s_build S (ds:=[(0,(.w 5))]) (dv:=(.a4 [5,0,0,0])) rfl (fun _=>by kernel_rfl) ⟨rfl,tv⟩ rfl fun a S=>bindX h1 fun t2 et2 h2=>s_callK S (fh3_.ok k (ch_0:=ch1) et2) N32 rfl .pre (fun _=> .c8) rfl fun ch2 m le1 a w S=>c_end (c_region (s_mv1 S rfl fun a S=>bindX h2 fun t3 et3 h3=>s_callK S (fg7_.ok (ch_0:=(ch1.1,ch1.2.1,ch1.e3,ch2.1,ch2.2.1,ch2.e3,ch2.e4,ch2.e5,ch2.e6,ch2.e7,ch2.e8,ch2.e9,ch2.e10,ch2.e11,ch2.e12,ch2.t12)) et3) N13 rfl .pre (fun _=> .c8) rfl fun ch3 m le1 a w S=>s_as1 S rfl fun a S=>c_end (c_region (s_mv1 S rfl fun a S=>s_build S (ds:=[(0,(.v (.int .u8 1)))]) (dv:=(.agg [.b20 [1,0,0,0,0,0,0,0,0,0,0,0,0,0,0,0,0,0,0,0]])) rfl (fun _=>by kernel_rfl) ⟨rfl,tv⟩ rfl fun a S=>s_build S (ds:=[(0,(.w 1))]) (dv:=(.a4 [1,0,0,0])) rfl (fun _=>by kernel_rfl) ⟨rfl,tv⟩ rfl fun a S=>s_build S (ds:=[(0,(.w 7))]) (dv:=(.a4 [7,0,0,0])) rfl (fun _=>by kernel_rfl) ⟨rfl,tv⟩ rfl fun a S=>bindX h3 fun t4 et4 h4=>s_callK S (fh3_.ok k (ch_0:=(ch1.1,ch1.2.1,ch1.e3,ch2.1,ch2.2.1,ch2.e3,ch2.e4,ch2.e5,ch2.e6,ch2.e7,ch2.e8,ch2.e9,ch2.e10,ch2.e11,ch2.e12,ch2.t12)) et4) N32 rfl .pre (fun _=> .c8) rfl fun ch4 m le1 a w S=>c_end (c_region (s_mv2 S rfl fun a S=>bindX h4 fun t5 et5 h5=>s_callK S (fg8_.ok k (ch_0:=(ch1.1,ch1.2.1,ch1.e3,ch4.1,ch4.2.1,ch4.e3,ch4.e4,ch4.e5,ch4.e6,ch4.e7,ch4.e8,ch4.e9,ch4.e10,ch4.e11,ch4.e12,ch4.t12)) et5) N14 rfl .pre (fun _=> .c8) rfl fun ch5 m le1 a w S=>c_end (c_region (s_mv1 S rfl fun a S=>s_build S (ds:=[(0,(.v (.int .u8 1)))]) (dv:=(.agg [.b20 [1,0,0,0,0,0,0,0,0,0,0,0,0,0,0,0,0,0,0,0]])) rfl (fun _=>by kernel_rfl) ⟨rfl,tv⟩ rfl fun a S=>s_build S (ds:=[(0,(.w 1))]) (dv:=(.a4 [1,0,0,0])) rfl (fun _=>by kernel_rfl) ⟨rfl,tv⟩ rfl fun a S=>bindX h5 fun t6 et6 h6=>s_callK S (fg6_.ok k (ch_0:=(ch1.1,ch5.1,ch5.2.1,ch5.e3,ch5.e4,ch5.e5,ch5.e6,ch5.e7,ch5.e8,ch5.e9,ch5.e10,ch5.e11,ch5.e12,ch5.e13,ch5.e14,ch5.t14)) et6) N21 rfl .pre (fun _=> .c8) rfl fun ch6 m le1 a w S=>s_build S (ds:=[(0,(.w 5))]) (dv:=(.a4 [5,0,0,0])) rfl (fun _=>by kernel_rfl) ⟨rfl,tv⟩ rfl fun a S=>s_eqa S rfl rfl underlying43 underlying41 T41 Q43 rfl fun a S=>s_as1 S rfl fun a S=>c_end (wp_ret ?_))))))))))))))))))))
 obtain rfl:=sI h6
 exact b_ret1 (d:=(.b (decide (t6.1=[5,0,0,0])))) S rfl rfl (S.rt hb)
abbrev fc_.Ty:Type:=(List Int)→Option (List Int)
def fc_.Ctr (s:fc_.Ty):Prop:=∀ {x1:List Int} {ch_0_0:Option Addr} {ch_0_1:Nat} {r:List Int} (h0:s x1=some r) {mi:Mem} {w0:World},CtrB Tryz.prog 33 [(.q yb ch_0_0 ch_0_1 x1)] [] (fun (ch:(Option Addr)×Nat×Nat)=>((.s ch.1 ch.2.1 ch.t2):D)) (fun (ch:(Option Addr)×Nat×Nat)=>[Res.row yb 5 ch.1 ch.2.1 ch.t2 r]) mi w0
def fc_.f (x1:List Int):Option (List Int):=if ((([]:List Int)).length+(x1).length)*1≤140737488355328 then (some (([]:List Int)++x1)) else none
theorem fc_.ok:fc_.Ctr (fc_.f):=by
 intro x1 ch_0_0 ch_0_1 r h0 mi w0 ok hm
 delta fc_.f at h0
 refine c_enterZ (n:=8) ok hm func33 rfl rfl rfl fun b0 hb a S=>c_region (s_as1 S rfl fun a S=>c_end (wp_seq (c_region (s_mv1 S rfl fun a S=>s_eqnil S (b:=(ch_0_0).isNone) (d:=(.q yb ch_0_0 ch_0_1 x1)) rfl rfl underlying44 rfl rfl rfl fun a S=>c_end ?_))))
 cases hc:(ch_0_0).isNone
 ·refine c_condF S rfl hc (wp_skip (x_thenN (c_region (s_bldSl S (ty':=yb) (ds:=[]) (z:=0) (c0:=()) (ys:=([]:List Int)) (cs:=[]) rfl underlying44 J5 Z5 rfl ⟨rfl,tv⟩ rfl rfl rfl rfl rfl rfl fun g1 a w S=>s_mv1 S rfl fun a S=>?_))))
  obtain ⟨c1,h1⟩:=chk_of h0; clear h0
  refine s_app S (k2:=((x1).length)) (ys:=x1) rfl (fun _ _=> .h) rfl rfl rfl (RdS.src (S.get 6 (.q yb ch_0_0 ch_0_1 x1) rfl).2.2.2.1 (by decide) S.frz) underlying44 J5 c1 rfl fun A1 cp1 a w S=>s_as1 S rfl fun a S=>c_end (wp_ret ?_)
  obtain rfl:=sI h1
  exact b_ret1 (d:=(.s A1 (0+((x1).length)) cp1)) S rfl rfl fun ok=>S.retX (Hx:=[]) hb _ _ ((A1,0+((x1).length),cp1):(Option Addr)×Nat×Nat) (.c0 .n) ok
 ·have hxs:x1=[]:=rd_nil hc (S.get 3 (.q yb ch_0_0 ch_0_1 x1) rfl).2.2.2.1
  have h1:(some ([]:List Int))=some r:=by simpa [hxs] using h0
  clear h0
  refine c_condT S rfl hc (c_region (s_as1 S rfl fun a S=>c_end (wp_ret (x_thenR ?_))))
  replace S:=S.nilrow yb 5
  replace S:=S.slot (u:=2) (d':=(.s none 0 0)) rfl rfl (S.get 2 (.s none 0 0) rfl).2
  obtain rfl:=sI h1
  exact b_ret1 (d:=(.s none 0 0)) S rfl rfl fun ok=>S.retX (Hx:=[]) hb _ _ ((none,0,0):(Option Addr)×Nat×Nat) (.c0 .n) ok
abbrev fi1_.Ty:Type:=W18→Option W18
def fi1_.Ctr (s:fi1_.Ty):Prop:=∀ {x1:W18} {ch_0_0:Option Addr} {ch_0_1:Nat} {r:W18} (h0:s x1=some r) {mi:Mem} {w0:World},CtrB Tryz.prog 34 [(.q Y83 ch_0_0 ch_0_1 x1)] [] (fun (ch:(Option Addr)×Nat×Nat)=>((.s ch.1 ch.2.1 ch.t2):D)) (fun (ch:(Option Addr)×Nat×Nat)=>[Res.row Y83 83 ch.1 ch.2.1 ch.t2 r]) mi w0
def fi1_.f (x1:W18):Option W18:=if ((([]:List ((List Int)×(List Int)))).length+(x1).length)*64≤140737488355328 then (some (([]:List ((List Int)×(List Int)))++x1)) else none
theorem fi1_.ok:fi1_.Ctr (fi1_.f):=by
 intro x1 ch_0_0 ch_0_1 r h0 mi w0 ok hm
 delta fi1_.f at h0
 refine c_enterZ (n:=8) ok hm func34 rfl rfl rfl fun b0 hb a S=>c_region (s_as1 S rfl fun a S=>c_end (wp_seq (c_region (s_mv1 S rfl fun a S=>s_eqnil S (b:=(ch_0_0).isNone) (d:=(.q Y83 ch_0_0 ch_0_1 x1)) rfl rfl underlying69 rfl rfl rfl fun a S=>c_end ?_))))
 cases hc:(ch_0_0).isNone
 ·refine c_condF S rfl hc (wp_skip (x_thenN (c_region (s_bldSl S (ty':=Y83) (ds:=[]) (z:=([0,0,0,0],[0,0,0,0])) (c0:=((),())) (ys:=([]:List ((List Int)×(List Int)))) (cs:=[]) rfl underlying69 J83 Z83 rfl ⟨rfl,rfl,tv⟩ rfl rfl rfl rfl rfl rfl fun g1 a w S=>s_mv1 S rfl fun a S=>?_))))
  obtain ⟨c1,h1⟩:=chk_of h0; clear h0
  refine s_app S (k2:=((x1).length)) (ys:=x1) rfl (fun _ _=> .h) rfl rfl rfl (RdS.src (S.get 6 (.q Y83 ch_0_0 ch_0_1 x1) rfl).2.2.2.1 (by decide) S.frz) underlying69 J83 c1 rfl fun A1 cp1 a w S=>s_as1 S rfl fun a S=>c_end (wp_ret ?_)
  obtain rfl:=sI h1
  exact b_ret1 (d:=(.s A1 (0+((x1).length)) cp1)) S rfl rfl fun ok=>S.retX (Hx:=[]) hb _ _ ((A1,0+((x1).length),cp1):(Option Addr)×Nat×Nat) (.c0 .n) ok
 ·have hxs:x1=[]:=rd_nil hc (S.get 3 (.q Y83 ch_0_0 ch_0_1 x1) rfl).2.2.2.1
  have h1:(some ([]:List ((List Int)×(List Int))))=some r:=by simpa [hxs] using h0
  clear h0
  refine c_condT S rfl hc (c_region (s_as1 S rfl fun a S=>c_end (wp_ret (x_thenR ?_))))
  replace S:=S.nilrow Y83 83
  replace S:=S.slot (u:=2) (d':=(.s none 0 0)) rfl rfl (S.get 2 (.s none 0 0) rfl).2
  obtain rfl:=sI h1
  exact b_ret1 (d:=(.s none 0 0)) S rfl rfl fun ok=>S.retX (Hx:=[]) hb _ _ ((none,0,0):(Option Addr)×Nat×Nat) (.c0 .n) ok
abbrev fi8_.Ty:Type:=(List L71)→Option (List L71)
def fi8_.Ctr (s:fi8_.Ty):Prop:=∀ {x1:List L71} {ch_0_0:Option Addr} {ch_0_1:Nat} {r:List L71} (h0:s x1=some r) {mi:Mem} {w0:World},CtrB Tryz.prog 10 [(.q Y71 ch_0_0 ch_0_1 x1)] [] (fun (ch:(Option Addr)×Nat)=>((.rf (.iface 75 (.agg (cellsOf [.q Y71 ch.1 ch.2 r]).toArray)) (IfR [.q Y71 ch.1 ch.2 r])):D)) (fun (ch:(Option Addr)×Nat)=>[]) mi w0
def fi8_.j1 (y1:List L71):Option (List L71):=some y1
def fi8_.b1 (x1:List L71)(rec1:(List L71)→Int→Option (List L71))(y4:List L71)(y5:Int):Option (List L71):=if (decide (y5<((x1).length:Int)))=true then (if (0:Int)≤y5∧y5<((x1).length:Int) then ((fc_.f ((gt x1 y5).2.2.2.1)).bind fun t1=>((fi1_.f ((gt x1 y5).2.2.2.2)).bind fun t2=>(if ((y4).length+([((gt x1 y5).1,(gt x1 y5).2.1,(gt x1 y5).2.2.1,t1,t2)]).length)*112≤140737488355328 then (rec1 (y4++[((gt x1 y5).1,(gt x1 y5).2.1,(gt x1 y5).2.2.1,t1,t2)]) (wr .i64 (y5+1))) else none))) else none) else (fi8_.j1 y4)
def fi8_.l1 (x1:List L71):Nat→(List L71)→Int→Option (List L71)
  | 0,_,_=>none
  | q+1,y4,y5=>fi8_.b1 x1 (fi8_.l1 x1 q) y4 y5
def fi8_.f (k:Nat)(x1:List L71):Option (List L71):=fi8_.l1 x1 k ([]:List L71) 0
theorem fi8_.ok (k:Nat):fi8_.Ctr (fi8_.f k):=by
 intro x1 ch_0_0 ch_0_1 r h0 mi w0 ok hm
 delta fi8_.f at h0
 refine c_enterZ (n:=28) ok hm func10 rfl rfl rfl fun b0 hb a S=>c_region (s_as1 S rfl fun a S=>c_end (c_region (s_as1 S rfl fun a S=>c_end (wp_seq_k fun K1 hK1=>?_))))
 have j1:∀ m A1 nn1 cp1 y1 a w,St 28 m b0 [(3,(.s A1 nn1 cp1))] [Res.row Y71 71 A1 nn1 cp1 y1] a w→fi8_.j1 y1=some r→K1 a w:=by
  intro m A1 nn1 cp1 y1 a w S h0
  delta fi8_.j1 at h0
  refine hK1 a w (c_region (s_mv1 S rfl fun a S=>s_bldS S (ds:=[(0,(.s A1 nn1 cp1))]) (zs:=[.s none 0 0]) (s':=[.s A1 nn1 cp1]) rfl underlying75 P75 Z75 ⟨rfl,tv⟩ rfl rfl fun a S=>?_))
  replace S:=S.rowfro .h
  obtain ⟨m,le1,S,hro⟩:=S
  replace S:=S.slotF 26 0 rfl rfl hro
  replace S:=S.slotro (u:=25) rfl hro
  replace S:=S.slotro (u:=3) rfl hro
  refine s_mkI S (s:=[.q Y71 A1 cp1 y1]) (v:=(.agg (cellsOf [.q Y71 A1 cp1 y1]).toArray)) rfl rfl rfl (by kernel_rfl) rfl fun a S=>?_
  refine s_as1 S rfl fun a S=>c_end (wp_ret ?_)
  obtain rfl:=sI h0
  exact b_ret1 (d:=(.rf (.iface 75 (.agg (cellsOf [.q Y71 A1 cp1 y1]).toArray)) (IfR [.q Y71 A1 cp1 y1]))) S rfl rfl fun ok=>S.retX (Hx:=[]) hb _ _ ((A1,cp1):(Option Addr)×Nat) .nil ok
 refine c_region (s_mv1 S rfl fun a S=>s_lenS S rfl underlying22 rfl fun a S=>s_mv1 S rfl fun a S=>c_end (wp_block ?_))
 replace S:=S.nilrow Y71 71
 refine c_loop (fun q1 a w=>∃ m A2 nn3 cp5 y4 y5,St 28 m b0 [(3,(.s A2 nn3 cp5)),(8,(.i y5)),(7,(.i ((x1).length:Int))),(6,(.q Y71 ch_0_0 ch_0_1 x1))] [Res.row Y71 71 A2 nn3 cp5 y4] a w∧fi8_.l1 x1 q1 y4 y5=some r) ?_ ?_ (k:=k) ⟨_,none,0,0,([]:List L71),0,(S.sb rfl (.c0 .n)),h0⟩
 ·rintro a w ⟨m,A2,nn3,cp5,y4,y5,S,h0⟩
  exact (nomatch (show (none:Option (List L71))=some r from h0))
 ·clear S h0
  rintro q1 a w ⟨m,A2,nn3,cp5,y4,y5,S,h0⟩
  replace h0:fi8_.b1 x1 (fi8_.l1 x1 q1) y4 y5=some r:=h0
  delta fi8_.b1 at h0
  refine c_region (s_bi S rfl fun a S=>c_end (wp_seq ?_))
  rcases ite_of h0 with ⟨c1,h1⟩ | ⟨c1,h1⟩
  ·refine c_condT S rfl c1 (wp_skip (x_thenN (wp_seq (wp_block (c_region ?_)))))
   obtain ⟨c2,h2⟩:=chk_of h1; clear h1
   refine s_iaddrS S rfl rfl rfl underlying22 T71 c2.1 c2.2 rfl fun p1 a S=>s_ldA S (fun (c:Unit×Unit×Unit×(Option Addr×Nat)×(Option Addr×Nat))=>(Y71.segs (gt x1 y5) c)) rfl T71 (fun _=>rfl) rfl fun ch1 a S=>?_
   refine s_alloc S Z71 rfl ⟨rfl,rfl,rfl,rfl,rfl,tv⟩ rfl fun g1 a w S=>s_store S rfl rfl rfl (s':=(Y71.segs (gt x1 y5) ch1)) .h T71 rfl rfl fun w S=>c_end (c_region (s_fieldAddr S rfl I71_3 T44 (by decide) rfl rfl fun a S=>s_loadSl S rfl .h T44 (A:=ch1.e4.1) (len:=((gt x1 y5).e4).length) (cap:=ch1.e4.2) rfl rfl fun a S=>bindX h2 fun t1 et1 h3=>s_callK S (fc_.ok et1) N33 rfl .pre (fun _=> .c1) rfl fun ch2 m le1 a w S=>s_fieldAddr S rfl I71_3 T44 (by decide) rfl rfl fun a S=>s_storeJ S 3 rfl rfl rfl rfl .h1 T44 rfl rfl fun w S=>c_end (c_region (s_fieldAddr S rfl I71_4 T69 (by decide) rfl rfl fun a S=>s_loadSl S rfl .h1 T69 (A:=ch1.e5) (len:=((gt x1 y5).t4).length) (cap:=ch1.t5) rfl rfl fun a S=>bindX h3 fun t2 et2 h4=>s_callK S (fi1_.ok et2) N34 rfl .pre (fun _=> .c1) rfl fun ch3 m le1 a w S=>s_fieldAddr S rfl I71_4 T69 (by decide) rfl rfl fun a S=>s_storeJ S 4 rfl rfl rfl rfl .h2 T69 rfl rfl fun w S=>c_end (c_region' (s_mv1 S rfl fun a S=>s_loada S rfl .h2 T71 (s':=[.b20 ((gt x1 y5).1), .w ((gt x1 y5).2.1), .w4 ((gt x1 y5).e3), .s ch2.1 ch2.2.1 ch2.t2, .s ch3.1 ch3.2.1 ch3.t2]) rfl rfl fun a S=>?_))))))
   replace S:=S.rowfro .h1
   obtain ⟨m,le1,S,hro⟩:=S
   replace S:=S.slotF 21 3 rfl rfl hro
   replace S:=S.slotro (u:=14) rfl hro
   replace S:=S.cellF 3 .h1 rfl hro
   replace S:=S.rowfro .h
   obtain ⟨m,le1,S,hro⟩:=S
   replace S:=S.slotF 21 4 rfl rfl hro
   replace S:=S.slotro (u:=18) rfl hro
   replace S:=S.cellF 4 .h rfl hro
   refine s_bldSl S (ty':=Y71) (ds:=[(0,(.agg (Y71.segs ((gt x1 y5).1,(gt x1 y5).2.1,(gt x1 y5).e3,t1,t2) ((),(),(),(ch2.1,ch2.t2),(ch3.1,ch3.t2)))))]) (z:=zt1) (c0:=((),(),(),(none,0),(none,0))) (ys:=[((gt x1 y5).1,(gt x1 y5).2.1,(gt x1 y5).e3,t1,t2)]) (cs:=[((),(),(),(ch2.1,ch2.t2),(ch3.1,ch3.t2))]) rfl underlying22 J71 Z71 rfl ⟨rfl,rfl,rfl,⟨Nat.le_refl _,Nat.zero_le _,RdS.nil _ _ _,RdS.mono _ _ _⟩,⟨Nat.le_refl _,Nat.zero_le _,RdS.nil _ _ _,RdS.mono _ _ _⟩,tv⟩ rfl rfl rfl rfl rfl rfl fun g2 a w S=>?_
   obtain ⟨c3,h5⟩:=chk_of h4; clear h4
   refine s_app S (k2:=1) (ys:=[((gt x1 y5).1,(gt x1 y5).2.1,(gt x1 y5).e3,t1,t2)]) rfl (fun _ _=> .h2) rfl rfl (S.holds _ (Pull.mem .h).1).1 (Res.row.src (S.holds _ (Pull.mem .h).1)) underlying22 J71 c3 rfl fun A3 cp6 a w S=>s_as1 S rfl fun a S=>c_end' (x_blockN (x_thenN (c_region' (s_bi S rfl fun a S=>s_mv1 S rfl fun a S=>c_end' (x_thenN ?_)))))
   exact ⟨_,A3,(nn3+1),cp6,(y4++[((gt x1 y5).1,(gt x1 y5).2.1,(gt x1 y5).e3,t1,t2)]),(wr .i64 (y5+1)),(S.sb rfl (.c2 .n)),h5⟩
  ·refine c_condF S rfl c1 (wp_exit (x_thenX (x_thenX (x_blockX (x_thenN ?_)))))
   exact j1 _ A2 nn3 cp5 y4 a w (S.sub ⟨rfl,tv⟩ (.c0 .n)) h1
abbrev fh4_.Ty:Type:=(List L71)→Option W2
def fh4_.Ctr (s:fh4_.Ty):Prop:=∀ {x1:List L71} {ch_0_0:Option Addr} {ch_0_1:Nat} {r:W2} (h0:s x1=some r) {mi:Mem} {w0:World},CtrB Tryz.prog 9 [(.rf (.iface 75 (.agg (cellsOf [.q Y71 ch_0_0 ch_0_1 x1]).toArray)) (IfR [.q Y71 ch_0_0 ch_0_1 x1]))] [] (fun (ch:W3)=>((.v (.pointer (some ⟨ch.1,0,none⟩))):D)) (fun (ch:W3)=>(MS1 r ch)) mi w0
def fh4_.f (x1:List L71):Option W2:=some (x1,(([]:List ((List Int)×Option Nat)),([]:List L110),([]:List (List ((List Int)×(List Int)))),([]:List (List ((List Int)×Bool)))),0,([]:List L100),([]:List Clo),([]:List (List Int)))
theorem fh4_.ok:fh4_.Ctr (fh4_.f):=by
 intro x1 ch_0_0 ch_0_1 r h0 mi w0 ok hm
 delta fh4_.f at h0
 refine c_enterZ (n:=11) ok hm func9 rfl rfl rfl fun b0 hb a S=>c_region (s_as1 S rfl fun a S=>c_end (wp_seq (c_region (s_mv1 S rfl fun a S=>s_eqIN S rfl rfl rfl underlying29 rfl fun a S=>c_end (c_condF S rfl rfl (wp_skip (x_thenN (c_region (s_mv1 S rfl fun a S=>s_makeMap (α:=List Int) (β:=Option Nat) S true (Ty.arr .u8 20) false (Ty.pid ([]:List Nat)) rfl fun g1 a w S=>?_)))))))))
 replace S:=S.fam0 (fun g_ kvs_=>Res.map true (Ty.arr .u64 4) false Ty.bool g_ kvs_) (one_map true (Ty.arr .u64 4) false Ty.bool)
 replace S:=S.fam0 (fun g_ kvs_=>Res.map true (Ty.arr .u64 4) true (Ty.arr .u64 4) g_ kvs_) (one_map true (Ty.arr .u64 4) true (Ty.arr .u64 4))
 replace S:=S.fam0 (Res.struct (YE110 ([]:List Nat) ([]:List Nat)) 110) (one_struct _ _)
 refine s_bldS S (ds:=[(0,(.rf (.iface 75 (.agg (cellsOf [.q Y71 ch_0_0 ch_0_1 x1]).toArray)) (IfR [.q Y71 ch_0_0 ch_0_1 x1]))),(1,(.v (.map (some g1))))]) (zs:=[.one .nilIface, .one (.map none), .i 0, .s none 0 0, .s none 0 0, .s none 0 0]) (s':=[.rf (.iface 75 (.agg (cellsOf [.q Y71 ch_0_0 ch_0_1 x1]).toArray)) (IfR [.q Y71 ch_0_0 ch_0_1 x1]), .one (.map (some g1)), .i 0, .s none 0 0, .s none 0 0, .s none 0 0]) rfl underlying79 P79 Z79 ⟨rfl,rfl,rfl,rfl,rfl,rfl,tv⟩ rfl rfl fun a S=>s_box S rfl rfl rfl fun g2 a w S=>s_as1 S rfl fun a S=>c_end (wp_ret ?_)
 replace S:=S.nilrow Y100 100
 replace S:=S.nilrow (YC g2 ([]:List Nat) ([]:List Nat) ([]:List Nat)) 1
 replace S:=S.nilrow (Ty.arr .u8 20) 40
 obtain rfl:=sI h0
 exact b_ret1 (d:=(.p g2)) S rfl rfl fun ok=>S.retX (Hx:=[]) hb _ _ ((g2,ch_0_0,ch_0_1,g1,([]:List Nat),([]:List Nat),([]:List Nat),none,0,0,none,0,0,none,0,0):W3) (.c3 (.c6 (.c3 (.c3 (.c3 (.c2 (.c1 (.c0 .n)))))))) ok
abbrev fh0_.Ty:Type:=(List L46)→Option (List L46)
def fh0_.Ctr (s:fh0_.Ty):Prop:=∀ {x1:List L46} {ch_0_0:Option Addr} {ch_0_1:Nat} {r:List L46} (h0:s x1=some r) {mi:Mem} {w0:World},CtrB Tryz.prog 11 [(.q Y46 ch_0_0 ch_0_1 x1)] [] (fun (ch:(Option Addr)×Nat)=>((.q Y46 ch.1 ch.2 r):D)) (fun (ch:(Option Addr)×Nat)=>[]) mi w0
def fh0_.j1 (x1:List L46):Option (List L46):=some x1
def fh0_.j2 (x1:List L46)(y1:Int)(rec1:Int→Option (List L46))(y2:Bool):Option (List L46):=if y2=true then (if (0:Int)≤0∧(0:Int)≤y1∧y1≤((x1).length:Int) then (some (x1.take (Int.toNat y1))) else none) else (rec1 (wr .i64 (y1+1)))
def fh0_.b1 (x1:List L46)(rec1:Int→Option (List L46))(y1:Int):Option (List L46):=if (decide (y1<((x1).length:Int)))=true then (if (0:Int)≤y1∧y1<((x1).length:Int) then (if (decide (60<y1))=true then (fh0_.j2 x1 y1 rec1 true) else (fh0_.j2 x1 y1 rec1 (decide (300<(((gt x1 y1).2.2.2.2.2).length:Int))))) else none) else (fh0_.j1 x1)
def fh0_.l1 (x1:List L46):Nat→Int→Option (List L46)
  | 0,_=>none
  | q+1,y1=>fh0_.b1 x1 (fh0_.l1 x1 q) y1
def fh0_.f (k:Nat)(x1:List L46):Option (List L46):=fh0_.l1 x1 k 0
theorem fh0_.ok (k:Nat):fh0_.Ctr (fh0_.f k):=by
 intro x1 ch_0_0 ch_0_1 r h0 mi w0 ok hm
 delta fh0_.f at h0
 refine c_enterZ (n:=25) ok hm func11 rfl rfl rfl fun b0 hb a S=>c_region (s_as1 S rfl fun a S=>c_end (wp_seq_k fun K1 hK1=>?_))
 have j1:∀ m a w,St 25 m b0 [(0,(.q Y46 ch_0_0 ch_0_1 x1))] [] a w→fh0_.j1 x1=some r→K1 a w:=by
  intro m a w S h0
  delta fh0_.j1 at h0
  refine hK1 a w (c_region (s_mv1 S rfl fun a S=>s_as1 S rfl fun a S=>c_end (wp_ret ?_)))
  obtain rfl:=sI h0
  exact b_ret1 (d:=(.q Y46 ch_0_0 ch_0_1 x1)) S rfl rfl fun ok=>S.retX (Hx:=[]) hb _ _ ((ch_0_0,ch_0_1):(Option Addr)×Nat) .nil ok
 refine c_region (s_mv1 S rfl fun a S=>s_lenS S rfl underlying23 rfl fun a S=>s_mv1 S rfl fun a S=>c_end (wp_block ?_))
 refine c_loop (fun q1 a w=>∃ m y1,St 25 m b0 [(7,(.i y1)),(6,(.i ((x1).length:Int))),(5,(.q Y46 ch_0_0 ch_0_1 x1)),(0,(.q Y46 ch_0_0 ch_0_1 x1))] [] a w∧fh0_.l1 x1 q1 y1=some r) ?_ ?_ (k:=k) ⟨_,0,(S.sb rfl .nil),h0⟩
 ·rintro a w ⟨m,y1,S,h0⟩
  exact (nomatch (show (none:Option (List L46))=some r from h0))
 ·clear S h0
  rintro q1 a w ⟨m,y1,S,h0⟩
  replace h0:fh0_.b1 x1 (fh0_.l1 x1 q1) y1=some r:=h0
  delta fh0_.b1 at h0
  refine c_region (s_bi S rfl fun a S=>c_end (wp_seq ?_))
  rcases ite_of h0 with ⟨c1,h1⟩ | ⟨c1,h1⟩
  ·refine c_condT S rfl c1 (wp_skip (x_thenN (wp_seq (wp_block (c_region (s_mv1 S rfl fun a S=>?_))))))
   obtain ⟨c2,h2⟩:=chk_of h1; clear h1
   refine s_iaddrS S rfl rfl rfl underlying23 T46 c2.1 c2.2 rfl fun p1 a S=>s_ldA S (fun (c:Unit×Unit×Unit×Unit×Unit×(Option Addr×Nat))=>(Y46.segs (gt x1 y1) c)) rfl T46 (fun _=>rfl) rfl fun ch1 a S=>?_
   refine s_alloc S Z46 rfl ⟨rfl,rfl,rfl,rfl,rfl,rfl,tv⟩ rfl fun g1 a w S=>s_as1 S rfl fun a S=>s_store S rfl rfl rfl (s':=(Y46.segs (gt x1 y1) ch1)) .h T46 rfl rfl fun w S=>c_end (wp_seq_k fun K2 hK2=>?_)
   have j2:∀ m y2 a w,St 25 m b0 [(19,(.b y2)),(3,(.i y1)),(7,(.i y1)),(6,(.i ((x1).length:Int))),(5,(.q Y46 ch_0_0 ch_0_1 x1)),(0,(.q Y46 ch_0_0 ch_0_1 x1))] [] a w→fh0_.j2 x1 y1 (fh0_.l1 x1 q1) y2=some r→K2 a w:=by
    intro m y2 a w S h0
    delta fh0_.j2 at h0
    refine hK2 a w ?_
    rcases ite_of h0 with ⟨c3,h1⟩ | ⟨c3,h1⟩
    ·refine c_condT S rfl c3 (c_region (s_mv2 S rfl fun a S=>?_))
     obtain ⟨c4,h2⟩:=chk_of h1; clear h1
     refine s_cutS S (i:=0) (j:=y1) (ys:=x1.take (Int.toNat y1)) rfl rfl underlying23 T46 (.inl ⟨rfl,rfl⟩) (.inr ⟨_,_,rfl,rfl⟩) c4 rfl (cut_pre rfl) fun A1 cp1 a S=>s_as1 S rfl fun a S=>c_end (wp_ret (x_blockR (x_thenR (x_thenR (x_blockR (x_thenR ?_))))))
     obtain rfl:=sI h2
     exact b_ret1 (d:=(.q Y46 A1 cp1 (x1.take (Int.toNat y1)))) S rfl rfl fun ok=>S.retX (Hx:=[]) hb _ _ ((A1,cp1):(Option Addr)×Nat) .nil ok
    ·refine c_condF S rfl c3 (wp_skip (x_blockN (x_thenN (c_region' (s_bi S rfl fun a S=>s_mv1 S rfl fun a S=>c_end' (x_thenN ?_))))))
     exact ⟨_,(wr .i64 (y1+1)),(S.sb rfl .nil),h1⟩
   refine c_region' (s_mv1 S rfl fun a S=>s_bi S rfl fun a S=>s_mv1 S rfl fun a S=>?_)
   rcases ite_of h2 with ⟨c5,h3⟩ | ⟨c5,h3⟩
   ·refine s_gF S (b:=(decide (60<y1))) rfl rfl c5 rfl fun a S=>s_gF S (b:=(decide (60<y1))) rfl rfl c5 rfl fun a S=>s_gF S (b:=(decide (60<y1))) rfl rfl c5 rfl fun a S=>s_gF S (b:=(decide (60<y1))) rfl rfl c5 rfl fun a S=>s_pick S (b:=true) (hc_of rfl c5) rfl rfl fun a S=>c_end' (x_thenN ?_)
    exact j2 _ true a w (S.sb rfl .nil) h3
   ·refine s_gT S (b:=(decide (60<y1))) rfl rfl c5 (s_fieldAddr S rfl I46_5 T44 (by decide) rfl rfl fun a S=>s_gT S (b:=(decide (60<y1))) rfl rfl c5 (s_loadSl S rfl .h T44 (A:=ch1.e6) (len:=((gt x1 y1).t5).length) (cap:=ch1.t6) rfl rfl fun a S=>s_gT S (b:=(decide (60<y1))) rfl rfl c5 (s_lenS S rfl underlying44 rfl fun a S=>s_gT S (b:=(decide (60<y1))) rfl rfl c5 (s_bi S rfl fun a S=>s_pick S (b:=false) (hc_of rfl c5) rfl rfl fun a S=>c_end' (x_thenN ?_)))))
    exact j2 _ (decide (300<(((gt x1 y1).t5).length:Int))) a w (S.sb rfl .nil) h3
  ·refine c_condF S rfl c1 (wp_exit (x_thenX (x_thenX (x_blockX (x_thenN ?_)))))
   exact j1 _ a w (S.sub ⟨rfl,tv⟩ .nil) h1
abbrev fd5_.Ty:Type:=W2→(List Int)→Int→Option W9
def fd5_.Ctr (s:fd5_.Ty):Prop:=∀ {x1:W2} {x2:List Int} {x3:Int} {ch_0:W3} {r:W9} (h0:s x1 x2 x3=some r) {mi:Mem} {w0:World},CtrB Tryz.prog 35 [(.v (.pointer (some ⟨ch_0.1,0,none⟩))),(.agg [.b20 x2]),(.w x3)] (MS1 x1 ch_0) (fun (ch:W7)=>((.tup []):D)) (fun (ch:W7)=>(MS1 (x1.1,r.2.1,x1.e3,r.e4,r.e5,r.t5) (ch_0.1,ch_0.2.1,ch_0.e3,ch.1,ch.2.1,ch.e3,ch.e4,ch.e5,ch.e6,ch.e7,ch.e8,ch.e9,ch.e10,ch.e11,ch.e12,ch.t12))) mi w0
def fd5_.f (k:Nat)(x1:W2)(x2:List Int)(x3:Int):Option W9:=(fh6_.f k x1 x2).bind fun t1=>(if t1.1.isSome=true then ((fd1_.f (x1.1,t1.2.2.1,x1.2.2.1,t1.2.2.2.2.1,t1.2.2.2.2.2.1,t1.2.2.2.2.2.2) (Clo.c73 (((atE t1.2.2.1.2.1 (t1.1.getD 0)).2.1).2.1) t1.1)).bind fun t2=>(some ((),(t1.2.2.1.1,t1.2.2.1.2.1.set (t1.1.getD 0) ((atE t1.2.2.1.2.1 (t1.1.getD 0)).1,(((atE t1.2.2.1.2.1 (t1.1.getD 0)).2.1).1,x3,((atE t1.2.2.1.2.1 (t1.1.getD 0)).2.1).2.2.1,((atE t1.2.2.1.2.1 (t1.1.getD 0)).2.1).2.2.2.1,((atE t1.2.2.1.2.1 (t1.1.getD 0)).2.1).2.2.2.2),(atE t1.2.2.1.2.1 (t1.1.getD 0)).2.2.1,(atE t1.2.2.1.2.1 (t1.1.getD 0)).2.2.2.1,(atE t1.2.2.1.2.1 (t1.1.getD 0)).2.2.2.2.1,(atE t1.2.2.1.2.1 (t1.1.getD 0)).2.2.2.2.2.1,(atE t1.2.2.1.2.1 (t1.1.getD 0)).2.2.2.2.2.2),t1.2.2.1.2.2.1,t1.2.2.1.2.2.2),(),t1.2.2.2.2.1,t2.2.2.2.2.1,t1.2.2.2.2.2.2))) else none)
theorem fd5_.ok (k:Nat):fd5_.Ctr (fd5_.f k):=by
 intro x1 x2 x3 ch_0 r h0 mi w0 ok hm
 delta fd5_.f at h0
 refine c_enterZ (n:=26) ok hm func35 rfl rfl rfl fun b0 hb a S=>c_region (s_box S rfl rfl rfl fun g1 a w S=>c_end (wp_seq (c_region (s_mv1 S rfl fun a S=>s_eqp S (b:=false) rfl rfl underlying26 rfl rfl fun a S=>c_end (c_condF S rfl rfl (wp_skip (x_thenN (c_region (s_mv1 S rfl fun a S=>s_loada S rfl .h T40 (s':=[.b20 x2]) rfl rfl fun a S=>bindX h0 fun t1 et1 h1=>s_callK S (fh6_.ok k (ch_0:=ch_0) et1) N56 rfl (.sk .pre) (fun _=> .c8) rfl fun ch1 m le1 a w S=>s_alloc S Z111 rfl rfl rfl fun g2 a w S=>s_storeJ S 0 rfl rfl rfl rfl .h T111 rfl rfl fun w S=>c_end (c_region (s_loadM S rfl .h T111 (v:=(ptrV ch1.2.1 t1.1)) rfl rfl fun a S=>?_)))))))))))
 obtain ⟨c1,h2⟩:=chk_of h1; clear h1
 have hl1:=S.slotPlt (u:=13) c1 rfl
 replace S:=S.slotP (u:=13) c1 rfl
 refine s_nilchk S rfl rfl fun a S=>s_fieldAddr S rfl I110_1 T71 (by decide) rfl rfl fun a S=>s_fieldAddr S rfl I71_1 T41 (by decide) rfl rfl fun a S=>?_
 replace S:=S.famOpen (i:=(t1.1.getD 0)) hl1 .h3
 have hS:=S.structOpen (T:=(YE110 ch1.e3 ch1.e4)) (fun _=> .h) (((),(),(),(none,0),(none,0)),((),(),(),(none,0),(none,0)),(),(),(),(),())
 clear S; obtain ⟨ch2,S⟩:=hS
 refine s_load1 S rfl .h T41 (v:=(.int .u64 (((atE t1.e3.2.1 (t1.1.getD 0)).2.1).2.1))) rfl rfl fun a S=>?_
 replace S:=S.structClose (T:=(YE110 ch1.e3 ch1.e4)) (e:=atE t1.e3.2.1 (t1.1.getD 0)) (ch2:((YE110 ch1.e3 ch1.e4)).Ch) rfl .h
 replace S:=S.famShut hl1 .h .h3
 refine s_alloc S Z41 rfl rfl rfl fun g3 a w S=>s_storeJ S 0 rfl rfl rfl rfl .h T41 rfl rfl fun w S=>c_end (c_region (s_mv1 S rfl fun a S=>?_))
 replace S:=S.freeze .h
 obtain ⟨m,le1,S⟩:=S
 replace S:=S.freeze .h1
 obtain ⟨m,le1,S⟩:=S
 replace S:=S.slotAt (u:=7) (g:=g3) (t:=41) (T:=(Ty.int .u64)) (x:=((atE t1.e3.2.1 (t1.1.getD 0)).2.1).2.1) (c:=(():((Ty.int .u64)).Ch)) .h rfl rfl
 replace S:=S.slotAt (u:=6) (g:=g2) (t:=111) (T:=(Ty.pid ch1.2.1)) (x:=t1.1) (c:=(():((Ty.pid ch1.2.1)).Ch)) .h1 rfl rfl
 refine s_mkFn S (ds:=[(.pt ⟨g3,0,none⟩ (At (Ty.int .u64) ⟨g3,0,none⟩ (((atE t1.e3.2.1 (t1.1.getD 0)).2.1).2.1))),(.pt ⟨g2,0,none⟩ (At (Ty.pid ch1.2.1) ⟨g2,0,none⟩ t1.1))]) rfl rfl fun a S=>?_
 replace S:=S.slotFn (u:=19) (V:=cloV) (R:=cloR ch_0.1 ch1.2.1 ch1.e3 ch1.e4) (Clo.c73 (((atE t1.e3.2.1 (t1.1.getD 0)).2.1).2.1) t1.1) ([⟨g3,0,none⟩,⟨g2,0,none⟩]:List Addr) rfl (fun h=>⟨h.1.1,h.2.1.1,tv⟩) (cloM _ _ _ _ _ _) rfl
 replace S:=S.slot (u:=7) (d':= .v (.pointer (ad g3))) rfl rfl rfl
 replace S:=S.slot (u:=6) (d':= .v (.pointer (ad g2))) rfl rfl rfl
 refine bindX h2 fun t2 et2 h3=>s_callK S (fd1_.ok (ch_0:=(ch_0.1,ch_0.2.1,ch_0.e3,ch1.1,ch1.2.1,ch1.e3,ch1.e4,ch1.e5,ch1.e6,ch1.e7,ch1.e8,ch1.e9,ch1.e10,ch1.e11,ch1.e12,ch1.t12)) et2) N68 rfl (.sk (.sk .pre)) (fun _=> .c8) rfl fun ch3 m le1 a w S=>c_end (c_region' (s_loadMF S rfl .h9 T111 (v:=(ptrV ch1.2.1 t1.1)) rfl rfl fun a S=>s_mv1 S rfl fun a S=>?_))
 have hl1:=S.slotPlt (u:=21) c1 rfl
 replace S:=S.slotP (u:=21) c1 rfl
 refine s_nilchk S rfl rfl fun a S=>s_fieldAddr S rfl I110_1 T71 (by decide) rfl rfl fun a S=>s_fieldAddr S rfl I71_1 T41 (by decide) rfl rfl fun a S=>?_
 replace S:=S.famOpen (i:=(t1.1.getD 0)) hl1 .h2
 have hS:=S.structOpen (T:=(YE110 ch1.e3 ch1.e4)) (fun _=> .h) (((),(),(),(none,0),(none,0)),((),(),(),(none,0),(none,0)),(),(),(),(),())
 clear S; obtain ⟨ch4,S⟩:=hS
 refine s_storeJ S 6 rfl rfl rfl rfl .h T41 rfl rfl fun w S=>?_
 replace S:=S.structClose (T:=(YE110 ch1.e3 ch1.e4)) (e:=((atE t1.e3.2.1 (t1.1.getD 0)).1,(((atE t1.e3.2.1 (t1.1.getD 0)).2.1).1,x3,((atE t1.e3.2.1 (t1.1.getD 0)).2.1).e3,((atE t1.e3.2.1 (t1.1.getD 0)).2.1).e4,((atE t1.e3.2.1 (t1.1.getD 0)).2.1).t4),(atE t1.e3.2.1 (t1.1.getD 0)).e3,(atE t1.e3.2.1 (t1.1.getD 0)).e4,(atE t1.e3.2.1 (t1.1.getD 0)).e5,(atE t1.e3.2.1 (t1.1.getD 0)).e6,(atE t1.e3.2.1 (t1.1.getD 0)).t6)) (ch4:((YE110 ch1.e3 ch1.e4)).Ch) rfl .h
 replace S:=S.famClose hl1 .h .h2
 refine c_end' (b_end ?_)
 obtain rfl:=sI h3
 exact b_ret0 S rfl (S.retX (Hx:=[]) hb _ _ ((ch1.1,ch1.2.1,ch1.e3,ch1.e4,ch1.e5,ch1.e6,ch1.e7,ch3.1,ch3.2.1,ch3.t2,ch1.e11,ch1.e12,ch1.t12):W7) (.c0 (.c0 (.c0 (.c0 (.c0 (.c0 (.c0 (.c0 .n)))))))) tv)
abbrev fc0_.Ty:Type:=ST37→(List Int)→Option W1
def fc0_.Ctr (s:fc0_.Ty):Prop:=∀ {x1:ST37} {x2:List Int} {ch_0_0:(Option Addr×Nat)×(Option Addr×Nat)×(Option Addr×Nat)×(Option Addr×Nat)×Unit×(Option Addr×Nat)×Unit×(Option Addr×Nat)} {r:W1} (h0:s x1 x2=some r) {mi:Mem} {w0:World},CtrB Tryz.prog 87 [(.agg (SY37.segs x1 ch_0_0)),(.agg [.b20 x2])] [] (fun (ch:W5)=>((.agg (Y71.segs r ((),(),(),(ch.1,ch.2.1),ch.t2))):D)) (fun (ch:W5)=>[]) mi w0
def fc0_.j1 (x2:List Int):Option W1:=some (x2,0,[0,0,0,0],([]:List Int),([]:List ((List Int)×(List Int))))
def fc0_.b1 (x1:ST37)(x2:List Int)(rec1:Int→Option W1)(y1:Int):Option W1:=if (decide (y1<(((ST37.un x1).1).length:Int)))=true then (if (0:Int)≤y1∧y1<(((ST37.un x1).1).length:Int) then (if (decide ((gt ((ST37.un x1).1) y1).1=x2))=true then (some (gt ((ST37.un x1).1) y1)) else (rec1 (wr .i64 (y1+1)))) else none) else (fc0_.j1 x2)
def fc0_.l1 (x1:ST37)(x2:List Int):Nat→Int→Option W1
  | 0,_=>none
  | q+1,y1=>fc0_.b1 x1 x2 (fc0_.l1 x1 x2 q) y1
def fc0_.f (k:Nat)(x1:ST37)(x2:List Int):Option W1:=fc0_.l1 x1 x2 k 0
theorem fc0_.ok (k:Nat):fc0_.Ctr (fc0_.f k):=by
 intro x1 x2 ch_0_0 r h0 mi w0 ok hm
 delta fc0_.f at h0
 refine c_enterZ (n:=28) ok hm func87 rfl rfl rfl fun b0 hb a S=>c_region (s_box S rfl rfl rfl fun g1 a w S=>s_box S rfl rfl rfl fun g2 a w S=>s_alloc S Z71 rfl ⟨rfl,rfl,rfl,rfl,rfl,tv⟩ rfl fun g3 a w S=>c_end (wp_seq_k fun K1 hK1=>?_))
 have j1:∀ m g13 g14 a w,St 28 m b0 [(4,(.p g13)),(3,(.p g14))] [Res.cells g13 71 [.b20 z20, .w 0, .w4 [0,0,0,0], .s none 0 0, .s none 0 0],Res.cells g14 40 [.b20 x2]] a w→fc0_.j1 x2=some r→K1 a w:=by
  intro m g13 g14 a w S h0
  delta fc0_.j1 at h0
  refine hK1 a w (c_region (s_loada S rfl .h1 T40 (s':=[.b20 x2]) rfl rfl fun a S=>s_bldS S (ds:=[(0,(.agg [.b20 x2]))]) (zs:=[.b20 z20, .w 0, .w4 [0,0,0,0], .s none 0 0, .s none 0 0]) (s':=[.b20 x2, .w 0, .w4 [0,0,0,0], .s none 0 0, .s none 0 0]) rfl underlying71 P71 Z71 ⟨rfl,rfl,rfl,rfl,rfl,tv⟩ rfl rfl fun a S=>s_store S rfl rfl rfl (s':=[.b20 x2, .w 0, .w4 [0,0,0,0], .s none 0 0, .s none 0 0]) .h T71 rfl rfl fun w S=>c_end (wp_ret ?_)))
  replace S:=S.cellN 3 yb .h rfl
  replace S:=S.cellN 4 Y83 .h rfl
  obtain rfl:=sI h0
  exact b_ret1 (d:=(.agg (Y71.segs (x2,0,[0,0,0,0],([]:List Int),([]:List ((List Int)×(List Int)))) ((),(),(),(none,0),(none,0))))) S rfl (resD_cell rfl .h T71 rfl rfl) fun ok=>S.retX (Hx:=[]) hb _ _ ((none,0,none,0):W5) .nil ok
 refine c_region (s_fieldAddr S rfl I37_0 T22 (by decide) rfl rfl fun a S=>s_loadSl S rfl .h2 T22 (A:=ch_0_0.1.1) (len:=((ST37.un x1).1).length) (cap:=ch_0_0.1.2) rfl rfl fun a S=>s_lenS S rfl underlying22 rfl fun a S=>s_mv1 S rfl fun a S=>c_end (wp_block ?_))
 refine c_loop (fun q1 a w=>∃ m y1 g21 g22 g23,St 28 m b0 [(9,(.i y1)),(8,(.i (((ST37.un x1).1).length:Int))),(4,(.p g21)),(3,(.p g22)),(2,(.p g23))] [Res.cells g21 71 [.b20 z20, .w 0, .w4 [0,0,0,0], .s none 0 0, .s none 0 0],Res.cells g22 40 [.b20 x2],Res.cells g23 37 (SY37.segs x1 ch_0_0)] a w∧fc0_.l1 x1 x2 q1 y1=some r) ?_ ?_ (k:=k) ⟨_,0,g3,g2,g1,(S.sb rfl (.c0 (.c0 (.c0 .n)))),h0⟩
 ·rintro a w ⟨m,y1,g21,g22,g23,S,h0⟩
  exact (nomatch (show (none:Option W1)=some r from h0))
 ·clear S h0
  rintro q1 a w ⟨m,y1,g21,g22,g23,S,h0⟩
  replace h0:fc0_.b1 x1 x2 (fc0_.l1 x1 x2 q1) y1=some r:=h0
  delta fc0_.b1 at h0
  refine c_region (s_bi S rfl fun a S=>c_end (wp_seq ?_))
  rcases ite_of h0 with ⟨c1,h1⟩ | ⟨c1,h1⟩
  ·refine c_condT S rfl c1 (wp_skip (x_thenN (wp_seq (wp_block (c_region (s_mv1 S rfl fun a S=>s_as1 S rfl fun a S=>c_end ?_))))))
   refine wp_seq (c_hS S (.tk 0 8 .done) 8 (.c1 (.c1 .n)) ⟨Res.stay_cells,Res.stay_cells,tv⟩ [(5,(.i y1)),(3,(.p g22)),(2,(.p g23))] rfl (by kernel_rfl) ?_); clear S; intro w S CL hw le
   refine h_fieldAddr S CL hw le (subR rfl) rfl I37_0 T22 (by decide) rfl rfl rfl tv fun a S CL=>h_loadSl S CL hw le (subR rfl) rfl .h1 T22 (A:=ch_0_0.1.1) (len:=((ST37.un x1).1).length) (cap:=ch_0_0.1.2) rfl rfl rfl tv fun a S CL=>h_mv1 S CL hw le rfl tv fun a S CL=>?_
   obtain ⟨c2,h2⟩:=chk_of h1; clear h1
   refine h_iaddrS S CL hw le (subR rfl) rfl rfl rfl underlying22 T71 c2.1 c2.2 rfl rfl tv fun p1 a S CL=>h_faddrP S CL hw le (subR rfl) (tF:=(Ty.arr .u8 20)) (y:=(gt ((ST37.un x1).1) y1).1) rfl I71_0 T40 (by decide) (fun m h=>(at_fst (at_0 h))) rfl rfl tv fun a S CL=>h_ldA S CL hw le (subR rfl) (fun (c:Unit)=>[.b20 ((gt ((ST37.un x1).1) y1).1)]) rfl T40 (fun _=>rfl) rfl rfl tv fun ch1 a S CL=>?_
   refine h_loada S CL hw le (subR rfl) rfl .h T40 (s':=[.b20 x2]) rfl rfl rfl tv fun a S CL=>h_eqa S CL hw le (subR rfl) rfl rfl underlying40 underlying5 T5 Q40 rfl rfl tv fun a S CL=>?_
   refine h_done ?_; clear CL hw le
   refine x_thenN ?_
   rcases ite_of h2 with ⟨c3,h3⟩ | ⟨c3,h3⟩
   ·refine c_condT S rfl c3 (c_region (s_fieldAddr S rfl I37_0 T22 (by decide) rfl rfl fun a S=>s_loadSl S rfl .h2 T22 (A:=ch_0_0.1.1) (len:=((ST37.un x1).1).length) (cap:=ch_0_0.1.2) rfl rfl fun a S=>s_mv1 S rfl fun a S=>s_iaddrS S rfl rfl rfl underlying22 T71 c2.1 c2.2 rfl fun p2 a S=>s_ldA S (fun (c:Unit×Unit×Unit×(Option Addr×Nat)×(Option Addr×Nat))=>(Y71.segs (gt ((ST37.un x1).1) y1) c)) rfl T71 (fun _=>rfl) rfl fun ch2 a S=>?_))
    refine s_store S rfl rfl rfl (s':=(Y71.segs (gt ((ST37.un x1).1) y1) ch2)) .h T71 rfl rfl fun w S=>c_end (wp_ret (x_blockR (x_thenR (x_thenR (x_blockR (x_thenR ?_))))))
    obtain rfl:=sI h3
    exact b_ret1 (d:=(.agg (Y71.segs (gt ((ST37.un x1).1) y1) ch2))) S rfl (resD_cell rfl .h T71 rfl rfl) fun ok=>S.retX (Hx:=[]) hb _ _ ((ch2.e4.1,ch2.e4.2,ch2.e5,ch2.t5):W5) .nil ok
   ·refine c_condF S rfl c3 (wp_skip (x_blockN (x_thenN (c_region' (s_bi S rfl fun a S=>s_mv1 S rfl fun a S=>c_end' (x_thenN ?_))))))
    exact ⟨_,(wr .i64 (y1+1)),g21,g22,g23,(S.sb rfl (.c0 (.c0 (.c0 .n)))),h3⟩
  ·refine c_condF S rfl c1 (wp_exit (x_thenX (x_thenX (x_blockX (x_thenN ?_)))))
   exact j1 _ g21 g22 a w (S.sb rfl (.c0 (.c0 .n))) h1
abbrev fd4_.Ty:Type:=ST37→(List Int)→Option W20
def fd4_.Ctr (s:fd4_.Ty):Prop:=∀ {x1:ST37} {x2:List Int} {ch_0_0:(Option Addr×Nat)×(Option Addr×Nat)×(Option Addr×Nat)×(Option Addr×Nat)×Unit×(Option Addr×Nat)×Unit×(Option Addr×Nat)} {r:W20} (h0:s x1 x2=some r) {mi:Mem} {w0:World},CtrB Tryz.prog 64 [(.agg (SY37.segs x1 ch_0_0)),(.agg [.b20 x2])] [] (fun (ch:W5)=>((.agg (Y122.segs r (((),(),(),(ch.1,ch.2.1),ch.t2),(),()))):D)) (fun (ch:W5)=>[]) mi w0
def fd4_.j1 (k:Nat)(x1:ST37)(x2:List Int):Option W20:=(fc0_.f k x1 x2).bind fun t1=>(some (t1,false,false))
def fd4_.b1 (k:Nat)(x1:ST37)(x2:List Int)(rec1:Int→Option W20)(y1:Int):Option W20:=if (decide (y1<(((ST37.un x1).2.1).length:Int)))=true then (if (0:Int)≤y1∧y1<(((ST37.un x1).2.1).length:Int) then (if (decide (((gt ((ST37.un x1).2.1) y1).1).1=x2))=true then (some (gt ((ST37.un x1).2.1) y1)) else (rec1 (wr .i64 (y1+1)))) else none) else (fd4_.j1 k x1 x2)
def fd4_.l1 (k:Nat)(x1:ST37)(x2:List Int):Nat→Int→Option W20
  | 0,_=>none
  | q+1,y1=>fd4_.b1 k x1 x2 (fd4_.l1 k x1 x2 q) y1
def fd4_.f (k:Nat)(x1:ST37)(x2:List Int):Option W20:=fd4_.l1 k x1 x2 k 0
theorem fd4_.ok (k:Nat):fd4_.Ctr (fd4_.f k):=by
 intro x1 x2 ch_0_0 r h0 mi w0 ok hm
 delta fd4_.f at h0
 refine c_enterZ (n:=31) ok hm func64 rfl rfl rfl fun b0 hb a S=>c_region (s_box S rfl rfl rfl fun g1 a w S=>s_box S rfl rfl rfl fun g2 a w S=>s_alloc S Z122 rfl ⟨rfl,rfl,rfl,rfl,rfl,rfl,rfl,tv⟩ rfl fun g3 a w S=>c_end (wp_seq_k fun K1 hK1=>?_))
 have j1:∀ m g13 g14 g15 a w,St 31 m b0 [(4,(.p g13)),(3,(.p g14)),(2,(.p g15))] [Res.cells g13 122 [.b20 z20, .w 0, .w4 [0,0,0,0], .s none 0 0, .s none 0 0, .b false, .b false],Res.cells g14 40 [.b20 x2],Res.cells g15 37 (SY37.segs x1 ch_0_0)] a w→fd4_.j1 k x1 x2=some r→K1 a w:=by
  intro m g13 g14 g15 a w S h0
  delta fd4_.j1 at h0
  refine hK1 a w (c_region (s_loada S rfl .h2 T37 (s':=(SY37.segs x1 ch_0_0)) rfl rfl fun a S=>s_loada S rfl .h1 T40 (s':=[.b20 x2]) rfl rfl fun a S=>bindX h0 fun t1 et1 h1=>s_callK S (fc0_.ok k (ch_0_0:=ch_0_0) et1) N87 rfl .pre (fun _=> .n) rfl fun ch1 m le1 a w S=>s_bldS S (ds:=[(0,(.agg (Y71.segs t1 ((),(),(),(ch1.1,ch1.2.1),ch1.t2))))]) (zs:=[.b20 z20, .w 0, .w4 [0,0,0,0], .s none 0 0, .s none 0 0, .b false, .b false]) (s':=[.b20 t1.1, .w t1.2.1, .w4 t1.e3, .q yb ch1.1 ch1.2.1 t1.e4, .q Y83 ch1.e3 ch1.t3 t1.t4, .b false, .b false]) rfl underlying122 P122 Z122 ⟨rfl,rfl,rfl,rfl,rfl,rfl,rfl,tv⟩ rfl rfl fun a S=>s_store S rfl rfl rfl (s':=(Y122.segs (t1,false,false) (((),(),(),(ch1.1,ch1.2.1),ch1.t2),(),()))) .h T122 rfl rfl fun w S=>c_end (wp_ret ?_)))
  obtain rfl:=sI h1
  exact b_ret1 (d:=(.agg (Y122.segs (t1,false,false) (((),(),(),(ch1.1,ch1.2.1),ch1.t2),(),())))) S rfl (resD_cell rfl .h T122 rfl rfl) fun ok=>S.retX (Hx:=[]) hb _ _ (ch1:W5) .nil ok
 refine c_region (s_fieldAddr S rfl I37_1 T31 (by decide) rfl rfl fun a S=>s_loadSl S rfl .h2 T31 (A:=ch_0_0.2.1.1) (len:=((ST37.un x1).2.1).length) (cap:=ch_0_0.2.1.2) rfl rfl fun a S=>s_lenS S rfl underlying31 rfl fun a S=>s_mv1 S rfl fun a S=>c_end (wp_block ?_))
 refine c_loop (fun q1 a w=>∃ m y1 g22 g23 g24,St 31 m b0 [(9,(.i y1)),(8,(.i (((ST37.un x1).2.1).length:Int))),(4,(.p g22)),(3,(.p g23)),(2,(.p g24))] [Res.cells g22 122 [.b20 z20, .w 0, .w4 [0,0,0,0], .s none 0 0, .s none 0 0, .b false, .b false],Res.cells g23 40 [.b20 x2],Res.cells g24 37 (SY37.segs x1 ch_0_0)] a w∧fd4_.l1 k x1 x2 q1 y1=some r) ?_ ?_ (k:=k) ⟨_,0,g3,g2,g1,(S.sb rfl (.c0 (.c0 (.c0 .n)))),h0⟩
 ·rintro a w ⟨m,y1,g22,g23,g24,S,h0⟩
  exact (nomatch (show (none:Option W20)=some r from h0))
 ·clear S h0
  rintro q1 a w ⟨m,y1,g22,g23,g24,S,h0⟩
  replace h0:fd4_.b1 k x1 x2 (fd4_.l1 k x1 x2 q1) y1=some r:=h0
  delta fd4_.b1 at h0
  refine c_region (s_bi S rfl fun a S=>c_end (wp_seq ?_))
  rcases ite_of h0 with ⟨c1,h1⟩ | ⟨c1,h1⟩
  ·refine c_condT S rfl c1 (wp_skip (x_thenN (wp_seq (wp_block (c_region (s_mv1 S rfl fun a S=>s_as1 S rfl fun a S=>c_end ?_))))))
   refine wp_seq (c_hS S (.tk 0 9 .done) 9 (.c1 (.c1 .n)) ⟨Res.stay_cells,Res.stay_cells,tv⟩ [(5,(.i y1)),(3,(.p g23)),(2,(.p g24))] rfl (by kernel_rfl) ?_); clear S; intro w S CL hw le
   refine h_fieldAddr S CL hw le (subR rfl) rfl I37_1 T31 (by decide) rfl rfl rfl tv fun a S CL=>h_loadSl S CL hw le (subR rfl) rfl .h1 T31 (A:=ch_0_0.2.1.1) (len:=((ST37.un x1).2.1).length) (cap:=ch_0_0.2.1.2) rfl rfl rfl tv fun a S CL=>h_mv1 S CL hw le rfl tv fun a S CL=>?_
   obtain ⟨c2,h2⟩:=chk_of h1; clear h1
   refine h_iaddrS S CL hw le (subR rfl) rfl rfl rfl underlying31 T122 c2.1 c2.2 rfl rfl tv fun p1 a S CL=>h_faddrP S CL hw le (subR rfl) (tF:=Y71) (y:=(gt ((ST37.un x1).2.1) y1).1) rfl I122_0 T71 (by decide) (fun m h=>(at_fst (at_0 h))) rfl rfl tv fun a S CL=>h_faddrP S CL hw le (subR rfl) (tF:=(Ty.arr .u8 20)) (y:=((gt ((ST37.un x1).2.1) y1).1).1) rfl I71_0 T40 (by decide) (fun m h=>(at_fst (at_0 h))) rfl rfl tv fun a S CL=>h_ldA S CL hw le (subR rfl) (fun (c:Unit)=>[.b20 (((gt ((ST37.un x1).2.1) y1).1).1)]) rfl T40 (fun _=>rfl) rfl rfl tv fun ch2 a S CL=>?_
   refine h_loada S CL hw le (subR rfl) rfl .h T40 (s':=[.b20 x2]) rfl rfl rfl tv fun a S CL=>h_eqa S CL hw le (subR rfl) rfl rfl underlying40 underlying5 T5 Q40 rfl rfl tv fun a S CL=>?_
   refine h_done ?_; clear CL hw le
   refine x_thenN ?_
   rcases ite_of h2 with ⟨c3,h3⟩ | ⟨c3,h3⟩
   ·refine c_condT S rfl c3 (c_region (s_fieldAddr S rfl I37_1 T31 (by decide) rfl rfl fun a S=>s_loadSl S rfl .h2 T31 (A:=ch_0_0.2.1.1) (len:=((ST37.un x1).2.1).length) (cap:=ch_0_0.2.1.2) rfl rfl fun a S=>s_mv1 S rfl fun a S=>s_iaddrS S rfl rfl rfl underlying31 T122 c2.1 c2.2 rfl fun p2 a S=>s_ldA S (fun (c:(Unit×Unit×Unit×(Option Addr×Nat)×(Option Addr×Nat))×Unit×Unit)=>(Y122.segs (gt ((ST37.un x1).2.1) y1) (c.1,(),()))) rfl T122 (fun _=>rfl) rfl fun ch3 a S=>?_))
    refine s_store S rfl rfl rfl (s':=(Y122.segs (gt ((ST37.un x1).2.1) y1) (ch3.1,(),()))) .h T122 rfl rfl fun w S=>c_end (wp_ret (x_blockR (x_thenR (x_thenR (x_blockR (x_thenR ?_))))))
    obtain rfl:=sI h3
    exact b_ret1 (d:=(.agg (Y122.segs (gt ((ST37.un x1).2.1) y1) (ch3.1,(),())))) S rfl (resD_cell rfl .h T122 rfl rfl) fun ok=>S.retX (Hx:=[]) hb _ _ ((ch3.1.e4.1,ch3.1.e4.2,ch3.1.e5,ch3.1.t5):W5) .nil ok
   ·refine c_condF S rfl c3 (wp_skip (x_blockN (x_thenN (c_region' (s_bi S rfl fun a S=>s_mv1 S rfl fun a S=>c_end' (x_thenN ?_))))))
    exact ⟨_,(wr .i64 (y1+1)),g22,g23,g24,(S.sb rfl (.c0 (.c0 (.c0 .n)))),h3⟩
  ·refine c_condF S rfl c1 (wp_exit (x_thenX (x_thenX (x_blockX (x_thenN ?_)))))
   exact j1 _ g22 g23 g24 a w (S.sb rfl (.c0 (.c0 (.c0 .n)))) h1
abbrev fb7_.Ty:Type:=ST37→Option ST37
def fb7_.Ctr (s:fb7_.Ty):Prop:=∀ {x1:ST37} {ch_0_0:(Option Addr×Nat)×(Option Addr×Nat)×(Option Addr×Nat)×(Option Addr×Nat)×Unit×(Option Addr×Nat)×Unit×(Option Addr×Nat)} {r:ST37} (h0:s x1=some r) {mi:Mem} {w0:World},CtrB Tryz.prog 81 [(.agg (SY37.segs x1 ch_0_0))] [] (fun (ch:W21)=>((.agg (SY37.segs r ch)):D)) (fun (ch:W21)=>[]) mi w0
def fb7_.f (x1:ST37):Option ST37:=if (!((ST37.un x1).2.2.2.2.2.2.1))=true then (some x1) else (if ((([]:List ST37)).length+((ST37.un x1).2.2.2.2.2.2.2).length)*160≤140737488355328 then (if ((([]:List ST37)++((ST37.un x1).2.2.2.2.2.2.2)).length+([(ST37.mk ((ST37.un x1).1,(ST37.un x1).2.1,(ST37.un x1).2.2.1,(ST37.un x1).2.2.2.1,(ST37.un x1).2.2.2.2.1,(ST37.un x1).2.2.2.2.2.1,(ST37.un x1).2.2.2.2.2.2.1,([]:List ST37)))]).length)*160≤140737488355328 then (some (ST37.mk ((ST37.un x1).1,(ST37.un x1).2.1,(ST37.un x1).2.2.1,(ST37.un x1).2.2.2.1,(ST37.un x1).2.2.2.2.1,(ST37.un x1).2.2.2.2.2.1,(ST37.un x1).2.2.2.2.2.2.1,(([]:List ST37)++((ST37.un x1).2.2.2.2.2.2.2))++[(ST37.mk ((ST37.un x1).1,(ST37.un x1).2.1,(ST37.un x1).2.2.1,(ST37.un x1).2.2.2.1,(ST37.un x1).2.2.2.2.1,(ST37.un x1).2.2.2.2.2.1,(ST37.un x1).2.2.2.2.2.2.1,([]:List ST37)))]))) else none) else none)
theorem fb7_.ok:fb7_.Ctr (fb7_.f):=by
 intro x1 ch_0_0 r h0 mi w0 ok hm
 delta fb7_.f at h0
 refine c_enterZ (n:=24) ok hm func81 rfl rfl rfl fun b0 hb a S=>c_region (s_box S rfl rfl rfl fun g1 a w S=>s_alloc S Z37 rfl ⟨rfl,rfl,rfl,rfl,rfl,rfl,rfl,rfl,tv⟩ rfl fun g2 a w S=>c_end (wp_seq (c_region (s_fieldAddr S rfl I37_6 T4 (by decide) rfl rfl fun a S=>s_load1 S rfl .h1 T4 (v:=(.bool ((ST37.un x1).e7))) rfl rfl fun a S=>s_not S rfl rfl fun a S=>c_end ?_))))
 rcases ite_of h0 with ⟨c1,h1⟩ | ⟨c1,h1⟩
 ·refine c_condT S rfl c1 (c_region (s_loada S rfl .h1 T37 (s':=(SY37.segs x1 ch_0_0)) rfl rfl fun a S=>s_store S rfl rfl rfl (s':=(SY37.segs x1 ch_0_0)) .h T37 rfl rfl fun w S=>c_end (wp_ret (x_thenR ?_))))
  obtain rfl:=sI h1
  exact b_ret1 (d:=(.agg (SY37.segs x1 ch_0_0))) S rfl (resD_cell rfl .h T37 rfl rfl) fun ok=>S.retX (Hx:=[]) hb _ _ (ch_0_0:W21) .nil ok
 ·refine c_condF S rfl c1 (wp_skip (x_thenN (c_region (s_loada S rfl .h1 T37 (s':=(SY37.segs x1 ch_0_0)) rfl rfl fun a S=>s_alloc S Z37 rfl ⟨rfl,rfl,rfl,rfl,rfl,rfl,rfl,rfl,tv⟩ rfl fun g3 a w S=>s_store S rfl rfl rfl (s':=(SY37.segs x1 ch_0_0)) .h T37 rfl rfl fun w S=>c_end (c_region (s_bldSl S (ty':=SY37) (ds:=[]) (z:=(ST37.mk (([]:List L71),([]:List (L71×Bool×Bool)),([]:List (List Int)),([]:List ((List Int)×(List Int))),0,([]:List L100),false,([]:List ST37)))) (c0:=((none,0),(none,0),(none,0),(none,0),(),(none,0),(),(none,0))) (ys:=([]:List ST37)) (cs:=[]) rfl underlying35 J37 Z37 rfl ⟨⟨Nat.le_refl _,Nat.zero_le _,RdS.nil _ _ _,RdS.mono _ _ _⟩,⟨Nat.le_refl _,Nat.zero_le _,RdS.nil _ _ _,RdS.mono _ _ _⟩,⟨Nat.le_refl _,Nat.zero_le _,RdS.nil _ _ _,RdS.mono _ _ _⟩,⟨Nat.le_refl _,Nat.zero_le _,RdS.nil _ _ _,RdS.mono _ _ _⟩,rfl,⟨Nat.le_refl _,Nat.zero_le _,RdS.nil _ _ _,RdS.mono _ _ _⟩,rfl,⟨Nat.le_refl _,Nat.zero_le _,(SE37 _ _ ▸ RdS.nil _ _ _),SM37 _ _⟩,tv⟩ rfl rfl rfl rfl rfl rfl fun g4 a w S=>s_fieldAddr S rfl I37_7 T35 (by decide) rfl rfl fun a S=>s_storeJ S 7 rfl rfl rfl rfl .h1 T35 rfl rfl fun w S=>c_end (c_region (s_bldSl S (ty':=SY37) (ds:=[]) (z:=(ST37.mk (([]:List L71),([]:List (L71×Bool×Bool)),([]:List (List Int)),([]:List ((List Int)×(List Int))),0,([]:List L100),false,([]:List ST37)))) (c0:=((none,0),(none,0),(none,0),(none,0),(),(none,0),(),(none,0))) (ys:=([]:List ST37)) (cs:=[]) rfl underlying35 J37 Z37 rfl ⟨⟨Nat.le_refl _,Nat.zero_le _,RdS.nil _ _ _,RdS.mono _ _ _⟩,⟨Nat.le_refl _,Nat.zero_le _,RdS.nil _ _ _,RdS.mono _ _ _⟩,⟨Nat.le_refl _,Nat.zero_le _,RdS.nil _ _ _,RdS.mono _ _ _⟩,⟨Nat.le_refl _,Nat.zero_le _,RdS.nil _ _ _,RdS.mono _ _ _⟩,rfl,⟨Nat.le_refl _,Nat.zero_le _,RdS.nil _ _ _,RdS.mono _ _ _⟩,rfl,⟨Nat.le_refl _,Nat.zero_le _,(SE37 _ _ ▸ RdS.nil _ _ _),SM37 _ _⟩,tv⟩ rfl rfl rfl rfl rfl rfl fun g5 a w S=>s_as1 S rfl fun a S=>c_end (c_region (s_mv1 S rfl fun a S=>s_fieldAddr S rfl I37_7 T35 (by decide) rfl rfl fun a S=>s_loadSl S rfl .h4 T35 (A:=ch_0_0.e8) (len:=((ST37.un x1).t7).length) (cap:=ch_0_0.t8) rfl rfl fun a S=>?_))))))))))
  obtain ⟨c2,h2⟩:=chk_of h1; clear h1
  refine s_app S (k2:=(((ST37.un x1).t7).length)) (ys:=((ST37.un x1).t7)) rfl (fun _ _=> .h) rfl rfl rfl (RdS.src (SD37 (S.get 15 (.sl ch_0_0.e8 ((ST37.un x1).t7).length ch_0_0.t8 (SR37 ch_0_0.e8 ((ST37.un x1).t7))) rfl).2.2.2.1) (by decide) S.frz) underlying35 J37 c2 rfl fun A1 cp1 a w S=>s_as1 S rfl fun a S=>c_end (c_region (s_mv1 S rfl fun a S=>s_loada S rfl .h2 T37 (s':=[.q Y71 ch_0_0.1.1 ch_0_0.1.2 ((ST37.un x1).1), .q Y122 ch_0_0.2.1.1 ch_0_0.2.1.2 ((ST37.un x1).2.1), .q (Ty.arr .u8 20) ch_0_0.e3.1 ch_0_0.e3.2 ((ST37.un x1).e3), .q Y133 ch_0_0.e4.1 ch_0_0.e4.2 ((ST37.un x1).e4), .i ((ST37.un x1).e5), .q Y100 ch_0_0.e6.1 ch_0_0.e6.2 ((ST37.un x1).e6), .b ((ST37.un x1).e7), .s (ad g4) 0 0]) rfl rfl fun a S=>?_))
  replace S:=S.rowfro .h1
  obtain ⟨m,le1,S,hro⟩:=S
  rw [← SE37] at hro
  replace S:=S.slotFR (R:=SR37 (ad g4) ([]:List ST37)) 18 7 rfl rfl hro (SM37 _ _)
  replace S:=S.slotrR (u:=10) rfl hro (SM37 _ _)
  replace S:=S.cellFR (R:=SR37 (ad g4) ([]:List ST37)) 7 .h1 rfl hro (SM37 _ _)
  refine s_bldSl S (ty':=SY37) (ds:=[(0,(.agg (SY37.segs (ST37.mk ((ST37.un x1).1,(ST37.un x1).2.1,(ST37.un x1).e3,(ST37.un x1).e4,(ST37.un x1).e5,(ST37.un x1).e6,(ST37.un x1).e7,([]:List ST37))) (ch_0_0.1,ch_0_0.2.1,ch_0_0.e3,ch_0_0.e4,(),ch_0_0.e6,(),((ad g4),0)))))]) (z:=(ST37.mk (([]:List L71),([]:List (L71×Bool×Bool)),([]:List (List Int)),([]:List ((List Int)×(List Int))),0,([]:List L100),false,([]:List ST37)))) (c0:=((none,0),(none,0),(none,0),(none,0),(),(none,0),(),(none,0))) (ys:=[(ST37.mk ((ST37.un x1).1,(ST37.un x1).2.1,(ST37.un x1).e3,(ST37.un x1).e4,(ST37.un x1).e5,(ST37.un x1).e6,(ST37.un x1).e7,([]:List ST37)))]) (cs:=[(ch_0_0.1,ch_0_0.2.1,ch_0_0.e3,ch_0_0.e4,(),ch_0_0.e6,(),((ad g4),0))]) rfl underlying35 J37 Z37 rfl ⟨⟨Nat.le_refl _,Nat.zero_le _,RdS.nil _ _ _,RdS.mono _ _ _⟩,⟨Nat.le_refl _,Nat.zero_le _,RdS.nil _ _ _,RdS.mono _ _ _⟩,⟨Nat.le_refl _,Nat.zero_le _,RdS.nil _ _ _,RdS.mono _ _ _⟩,⟨Nat.le_refl _,Nat.zero_le _,RdS.nil _ _ _,RdS.mono _ _ _⟩,rfl,⟨Nat.le_refl _,Nat.zero_le _,RdS.nil _ _ _,RdS.mono _ _ _⟩,rfl,⟨Nat.le_refl _,Nat.zero_le _,(SE37 _ _ ▸ RdS.nil _ _ _),SM37 _ _⟩,tv⟩ rfl rfl rfl rfl rfl rfl fun g6 a w S=>?_
  obtain ⟨c3,h3⟩:=chk_of h2; clear h2
  refine s_app S (k2:=1) (ys:=[(ST37.mk ((ST37.un x1).1,(ST37.un x1).2.1,(ST37.un x1).e3,(ST37.un x1).e4,(ST37.un x1).e5,(ST37.un x1).e6,(ST37.un x1).e7,([]:List ST37)))]) rfl (fun _ _=> .h1) rfl rfl (S.holds _ (Pull.mem .h).1).1 (Res.row.src (S.holds _ (Pull.mem .h).1)) underlying35 J37 c3 rfl fun A2 cp2 a w S=>s_as1 S rfl fun a S=>c_end (c_region (s_mv1 S rfl fun a S=>s_fieldAddr S rfl I37_7 T35 (by decide) rfl rfl fun a S=>s_storeJ S 7 rfl rfl rfl rfl .h4 T35 rfl rfl fun w S=>c_end (c_region (s_loada S rfl .h4 T37 (s':=[.q Y71 ch_0_0.1.1 ch_0_0.1.2 ((ST37.un x1).1), .q Y122 ch_0_0.2.1.1 ch_0_0.2.1.2 ((ST37.un x1).2.1), .q (Ty.arr .u8 20) ch_0_0.e3.1 ch_0_0.e3.2 ((ST37.un x1).e3), .q Y133 ch_0_0.e4.1 ch_0_0.e4.2 ((ST37.un x1).e4), .i ((ST37.un x1).e5), .q Y100 ch_0_0.e6.1 ch_0_0.e6.2 ((ST37.un x1).e6), .b ((ST37.un x1).e7), .s A2 ((0+(((ST37.un x1).t7).length))+1) cp2]) rfl rfl fun a S=>s_store S rfl rfl rfl (s':=[.q Y71 ch_0_0.1.1 ch_0_0.1.2 ((ST37.un x1).1), .q Y122 ch_0_0.2.1.1 ch_0_0.2.1.2 ((ST37.un x1).2.1), .q (Ty.arr .u8 20) ch_0_0.e3.1 ch_0_0.e3.2 ((ST37.un x1).e3), .q Y133 ch_0_0.e4.1 ch_0_0.e4.2 ((ST37.un x1).e4), .i ((ST37.un x1).e5), .q Y100 ch_0_0.e6.1 ch_0_0.e6.2 ((ST37.un x1).e6), .b ((ST37.un x1).e7), .s A2 ((0+(((ST37.un x1).t7).length))+1) cp2]) .h3 T37 rfl rfl fun w S=>c_end (wp_ret ?_)))))
  replace S:=S.rowfro .h1
  obtain ⟨m,le1,S,hro⟩:=S
  rw [← SE37] at hro
  replace S:=S.slotFR (R:=SR37 A2 ((([]:List ST37)++((ST37.un x1).t7))++[(ST37.mk ((ST37.un x1).1,(ST37.un x1).2.1,(ST37.un x1).e3,(ST37.un x1).e4,(ST37.un x1).e5,(ST37.un x1).e6,(ST37.un x1).e7,([]:List ST37)))])) 23 7 rfl rfl hro (SM37 _ _)
  replace S:=S.slotrR (u:=21) rfl hro (SM37 _ _)
  replace S:=S.slotrR (u:=4) rfl hro (SM37 _ _)
  replace S:=S.slotrR (u:=20) rfl hro (SM37 _ _)
  replace S:=S.cellFR (R:=SR37 A2 ((([]:List ST37)++((ST37.un x1).t7))++[(ST37.mk ((ST37.un x1).1,(ST37.un x1).2.1,(ST37.un x1).e3,(ST37.un x1).e4,(ST37.un x1).e5,(ST37.un x1).e6,(ST37.un x1).e7,([]:List ST37)))])) 7 .h2 rfl hro (SM37 _ _)
  replace S:=S.cellFR (R:=SR37 A2 ((([]:List ST37)++((ST37.un x1).t7))++[(ST37.mk ((ST37.un x1).1,(ST37.un x1).2.1,(ST37.un x1).e3,(ST37.un x1).e4,(ST37.un x1).e5,(ST37.un x1).e6,(ST37.un x1).e7,([]:List ST37)))])) 7 .h3 rfl hro (SM37 _ _)
  obtain rfl:=sI h3
  exact b_ret1 (d:=(.agg (SY37.segs (ST37.mk ((ST37.un x1).1,(ST37.un x1).2.1,(ST37.un x1).e3,(ST37.un x1).e4,(ST37.un x1).e5,(ST37.un x1).e6,(ST37.un x1).e7,(([]:List ST37)++((ST37.un x1).t7))++[(ST37.mk ((ST37.un x1).1,(ST37.un x1).2.1,(ST37.un x1).e3,(ST37.un x1).e4,(ST37.un x1).e5,(ST37.un x1).e6,(ST37.un x1).e7,([]:List ST37)))])) (ch_0_0.1,ch_0_0.2.1,ch_0_0.e3,ch_0_0.e4,(),ch_0_0.e6,(),(A2,cp2))))) S rfl (resD_cell rfl .h2 T37 rfl rfl) fun ok=>S.retX (Hx:=[]) hb _ _ ((ch_0_0.1,ch_0_0.2.1,ch_0_0.e3,ch_0_0.e4,(),ch_0_0.e6,(),(A2,cp2)):W21) .nil ok
abbrev fb6_.Ty:Type:=ST37→W20→Option ST37
def fb6_.Ctr (s:fb6_.Ty):Prop:=∀ {x1:ST37} {x2:W20} {ch_0_0:(Option Addr×Nat)×(Option Addr×Nat)×(Option Addr×Nat)×(Option Addr×Nat)×Unit×(Option Addr×Nat)×Unit×(Option Addr×Nat)} {ch_1_0:Option Addr} {ch_1_1:Nat} {ch_1_2:Option Addr} {ch_1_3:Nat} {r:ST37} (h0:s x1 x2=some r) {mi:Mem} {w0:World},CtrB Tryz.prog 74 [(.agg (SY37.segs x1 ch_0_0)),(.agg (Y122.segs x2 (((),(),(),(ch_1_0,ch_1_1),(ch_1_2,ch_1_3)),(),())))] [] (fun (ch:W21)=>((.agg (SY37.segs r ch)):D)) (fun (ch:W21)=>[]) mi w0
def fb6_.j1 (x2:W20)(t1:ST37)(y1:List (L71×Bool×Bool)):Option ST37:=if ((y1).length+([x2]).length)*120≤140737488355328 then (some (ST37.mk ((ST37.un t1).1,y1++[x2],(ST37.un t1).2.2.1,(ST37.un t1).2.2.2.1,(ST37.un t1).2.2.2.2.1,(ST37.un t1).2.2.2.2.2.1,(ST37.un t1).2.2.2.2.2.2.1,(ST37.un t1).2.2.2.2.2.2.2))) else none
def fb6_.j2 (y6:Int)(rec1:Int→(List (L71×Bool×Bool))→Option ST37)(y8:List (L71×Bool×Bool)):Option ST37:=rec1 (wr .i64 (y6+1)) y8
def fb6_.b1 (x2:W20)(t1:ST37)(rec1:Int→(List (L71×Bool×Bool))→Option ST37)(y6:Int)(y7:List (L71×Bool×Bool)):Option ST37:=if (decide (y6<(((ST37.un t1).2.1).length:Int)))=true then (if (0:Int)≤y6∧y6<(((ST37.un t1).2.1).length:Int) then (if (!(decide (((gt ((ST37.un t1).2.1) y6).1).1=x2.1.1)))=true then (if ((y7).length+([gt ((ST37.un t1).2.1) y6]).length)*120≤140737488355328 then (fb6_.j2 y6 rec1 (y7++[gt ((ST37.un t1).2.1) y6])) else none) else (fb6_.j2 y6 rec1 y7)) else none) else (fb6_.j1 x2 t1 y7)
def fb6_.l1 (x2:W20)(t1:ST37):Nat→Int→(List (L71×Bool×Bool))→Option ST37
  | 0,_,_=>none
  | q+1,y6,y7=>fb6_.b1 x2 t1 (fb6_.l1 x2 t1 q) y6 y7
def fb6_.f (k:Nat)(x1:ST37)(x2:W20):Option ST37:=(fb7_.f x1).bind fun t1=>(fb6_.l1 x2 t1 k 0 ([]:List (L71×Bool×Bool)))
theorem fb6_.ok (k:Nat):fb6_.Ctr (fb6_.f k):=by
 intro x1 x2 ch_0_0 ch_1_0 ch_1_1 ch_1_2 ch_1_3 r h0 mi w0 ok hm
 delta fb6_.f at h0
 refine c_enterZ (n:=43) ok hm func74 rfl rfl rfl fun b0 hb a S=>c_region (s_box S rfl rfl rfl fun g1 a w S=>s_box S rfl rfl rfl fun g2 a w S=>s_alloc S Z37 rfl ⟨rfl,rfl,rfl,rfl,rfl,rfl,rfl,rfl,tv⟩ rfl fun g3 a w S=>c_end (c_region (s_loada S rfl .h2 T37 (s':=(SY37.segs x1 ch_0_0)) rfl rfl fun a S=>bindX h0 fun t1 et1 h1=>s_callK S (fb7_.ok (ch_0_0:=ch_0_0) et1) N81 rfl .pre (fun _=> .n) rfl fun ch1 m le1 a w S=>s_store S rfl rfl rfl (s':=(SY37.segs t1 ch1)) .h2 T37 rfl rfl fun w S=>c_end (c_region (s_bldSl S (ty':=Y122) (ds:=[]) (z:=(zt1,false,false)) (c0:=(((),(),(),(none,0),(none,0)),(),())) (ys:=([]:List (L71×Bool×Bool))) (cs:=[]) rfl underlying31 J122 Z122 rfl ⟨rfl,rfl,rfl,⟨Nat.le_refl _,Nat.zero_le _,RdS.nil _ _ _,RdS.mono _ _ _⟩,⟨Nat.le_refl _,Nat.zero_le _,RdS.nil _ _ _,RdS.mono _ _ _⟩,rfl,rfl,tv⟩ rfl rfl rfl rfl rfl rfl fun g4 a w S=>s_as1 S rfl fun a S=>c_end (wp_seq_k fun K1 hK1=>?_))))))
 have j1:∀ m A1 nn1 cp1 y1 g22 g23 g24 cc1 a w,St 43 m b0 [(5,(.s A1 nn1 cp1)),(4,(.p g22)),(3,(.p g23)),(2,(.p g24))] [Res.row Y122 122 A1 nn1 cp1 y1,Res.cells g22 37 [.s none 0 0, .s none 0 0, .s none 0 0, .s none 0 0, .i 0, .s none 0 0, .b false, .s none 0 0],Res.cells g23 122 (Y122.segs x2 (((),(),(),(ch_1_0,ch_1_1),(ch_1_2,ch_1_3)),(),())),Res.cells g24 37 (SY37.segs t1 cc1)] a w→fb6_.j1 x2 t1 y1=some r→K1 a w:=by
  intro m A1 nn1 cp1 y1 g22 g23 g24 cc1 a w S h0
  delta fb6_.j1 at h0
  refine hK1 a w (c_region (s_mv1 S rfl fun a S=>s_loada S rfl .h2 T122 (s':=(Y122.segs x2 (((),(),(),(ch_1_0,ch_1_1),(ch_1_2,ch_1_3)),(),()))) rfl rfl fun a S=>s_bldSl S (ty':=Y122) (ds:=[(0,(.agg (Y122.segs x2 (((),(),(),(ch_1_0,ch_1_1),(ch_1_2,ch_1_3)),(),()))))]) (z:=(zt1,false,false)) (c0:=(((),(),(),(none,0),(none,0)),(),())) (ys:=[x2]) (cs:=[(((),(),(),(ch_1_0,ch_1_1),(ch_1_2,ch_1_3)),(),())]) rfl underlying31 J122 Z122 rfl ⟨rfl,rfl,rfl,⟨Nat.le_refl _,Nat.zero_le _,RdS.nil _ _ _,RdS.mono _ _ _⟩,⟨Nat.le_refl _,Nat.zero_le _,RdS.nil _ _ _,RdS.mono _ _ _⟩,rfl,rfl,tv⟩ rfl rfl rfl rfl rfl rfl fun g25 a w S=>?_))
  obtain ⟨c1,h1⟩:=chk_of h0; clear h0
  refine s_app S (k2:=1) (ys:=[x2]) rfl (fun _ _=> .h1) rfl rfl (S.holds _ (Pull.mem .h).1).1 (Res.row.src (S.holds _ (Pull.mem .h).1)) underlying31 J122 c1 rfl fun A2 cp2 a w S=>s_as1 S rfl fun a S=>c_end (c_region (s_mv1 S rfl fun a S=>s_fieldAddr S rfl I37_1 T31 (by decide) rfl rfl fun a S=>s_storeJ S 1 rfl rfl rfl rfl .h4 T31 rfl rfl fun w S=>c_end (c_region (s_loada S rfl .h4 T37 (s':=[.q Y71 cc1.1.1 cc1.1.2 ((ST37.un t1).1), .s A2 (nn1+1) cp2, .q (Ty.arr .u8 20) cc1.e3.1 cc1.e3.2 ((ST37.un t1).e3), .q Y133 cc1.e4.1 cc1.e4.2 ((ST37.un t1).e4), .i ((ST37.un t1).e5), .q Y100 cc1.e6.1 cc1.e6.2 ((ST37.un t1).e6), .b ((ST37.un t1).e7), .sl cc1.e8 ((ST37.un t1).t7).length cc1.t8 (SR37 cc1.e8 ((ST37.un t1).t7))]) rfl rfl fun a S=>s_store S rfl rfl rfl (s':=[.q Y71 cc1.1.1 cc1.1.2 ((ST37.un t1).1), .s A2 (nn1+1) cp2, .q (Ty.arr .u8 20) cc1.e3.1 cc1.e3.2 ((ST37.un t1).e3), .q Y133 cc1.e4.1 cc1.e4.2 ((ST37.un t1).e4), .i ((ST37.un t1).e5), .q Y100 cc1.e6.1 cc1.e6.2 ((ST37.un t1).e6), .b ((ST37.un t1).e7), .sl cc1.e8 ((ST37.un t1).t7).length cc1.t8 (SR37 cc1.e8 ((ST37.un t1).t7))]) .h2 T37 rfl rfl fun w S=>c_end (wp_ret ?_)))))
  replace S:=S.rowfro .h1
  obtain ⟨m,le1,S,hro⟩:=S
  replace S:=S.slotF 42 1 rfl rfl hro
  replace S:=S.slotro (u:=40) rfl hro
  replace S:=S.slotro (u:=5) rfl hro
  replace S:=S.slotro (u:=39) rfl hro
  replace S:=S.cellF 1 .h1 rfl hro
  replace S:=S.cellF 1 .h3 rfl hro
  obtain rfl:=sI h1
  exact b_ret1 (d:=(.agg (SY37.segs (ST37.mk ((ST37.un t1).1,y1++[x2],(ST37.un t1).e3,(ST37.un t1).e4,(ST37.un t1).e5,(ST37.un t1).e6,(ST37.un t1).e7,(ST37.un t1).t7)) (cc1.1,(A2,cp2),cc1.e3,cc1.e4,(),cc1.e6,(),cc1.t7)))) S rfl (resD_cell rfl .h1 T37 rfl rfl) fun ok=>S.retX (Hx:=[]) hb _ _ ((cc1.1,(A2,cp2),cc1.e3,cc1.e4,(),cc1.e6,(),cc1.t7):W21) .nil ok
 refine c_region (s_fieldAddr S rfl I37_1 T31 (by decide) rfl rfl fun a S=>s_loadSl S rfl .h3 T31 (A:=ch1.2.1.1) (len:=((ST37.un t1).2.1).length) (cap:=ch1.2.1.2) rfl rfl fun a S=>s_lenS S rfl underlying31 rfl fun a S=>s_mv1 S rfl fun a S=>c_end (wp_block ?_))
 refine c_loop (fun q1 a w=>∃ m y6 A3 nn5 cp14 y7 g40 g41 g42 cc3,St 43 m b0 [(13,(.i y6)),(12,(.i (((ST37.un t1).2.1).length:Int))),(5,(.s A3 nn5 cp14)),(4,(.p g40)),(3,(.p g41)),(2,(.p g42))] [Res.row Y122 122 A3 nn5 cp14 y7,Res.cells g40 37 [.s none 0 0, .s none 0 0, .s none 0 0, .s none 0 0, .i 0, .s none 0 0, .b false, .s none 0 0],Res.cells g41 122 (Y122.segs x2 (((),(),(),(ch_1_0,ch_1_1),(ch_1_2,ch_1_3)),(),())),Res.cells g42 37 (SY37.segs t1 cc3)] a w∧fb6_.l1 x2 t1 q1 y6 y7=some r) ?_ ?_ (k:=k) ⟨_,0,(ad g4),0,0,([]:List (L71×Bool×Bool)),g3,g2,g1,ch1,(S.sb rfl (.c0 (.c0 (.c0 (.c0 .n))))),h1⟩
 ·rintro a w ⟨m,y6,A3,nn5,cp14,y7,g40,g41,g42,cc3,S,h0⟩
  exact (nomatch (show (none:Option ST37)=some r from h0))
 ·clear S h1
  rintro q1 a w ⟨m,y6,A3,nn5,cp14,y7,g40,g41,g42,cc3,S,h0⟩
  replace h0:fb6_.b1 x2 t1 (fb6_.l1 x2 t1 q1) y6 y7=some r:=h0
  delta fb6_.b1 at h0
  refine c_region (s_bi S rfl fun a S=>c_end (wp_seq ?_))
  rcases ite_of h0 with ⟨c2,h1⟩ | ⟨c2,h1⟩
  ·refine c_condT S rfl c2 (wp_skip (x_thenN (wp_seq_k fun K2 hK2=>?_)))
   have j2:∀ m A4 nn6 cp16 y8 g44 g45 g46 a w,St 43 m b0 [(5,(.s A4 nn6 cp16)),(13,(.i y6)),(12,(.i (((ST37.un t1).2.1).length:Int))),(4,(.p g44)),(3,(.p g45)),(2,(.p g46))] [Res.row Y122 122 A4 nn6 cp16 y8,Res.cells g44 37 [.s none 0 0, .s none 0 0, .s none 0 0, .s none 0 0, .i 0, .s none 0 0, .b false, .s none 0 0],Res.cells g45 122 (Y122.segs x2 (((),(),(),(ch_1_0,ch_1_1),(ch_1_2,ch_1_3)),(),())),Res.cells g46 37 (SY37.segs t1 cc3)] a w→fb6_.j2 y6 (fb6_.l1 x2 t1 q1) y8=some r→K2 a w:=by
    intro m A4 nn6 cp16 y8 g44 g45 g46 a w S h0
    delta fb6_.j2 at h0
    refine hK2 a w (c_region' (s_bi S rfl fun a S=>s_mv1 S rfl fun a S=>c_end' (x_thenN ?_)))
    exact ⟨_,(wr .i64 (y6+1)),A4,nn6,cp16,y8,g44,g45,g46,cc3,(S.sb rfl (.c0 (.c0 (.c0 (.c0 .n))))),h0⟩
   refine wp_block (c_region (s_mv1 S rfl fun a S=>s_as1 S rfl fun a S=>c_end ?_))
   refine wp_seq (c_hS S (.tk 0 11 .done) 11 (.c2 (.c2 .n)) ⟨Res.stay_cells,Res.stay_cells,tv⟩ [(6,(.i y6)),(3,(.p g41)),(2,(.p g42))] rfl (by kernel_rfl) ?_); clear S; intro w S CL hw le
   refine h_fieldAddr S CL hw le (subR rfl) rfl I37_1 T31 (by decide) rfl rfl rfl tv fun a S CL=>h_loadSl S CL hw le (subR rfl) rfl .h1 T31 (A:=cc3.2.1.1) (len:=((ST37.un t1).2.1).length) (cap:=cc3.2.1.2) rfl rfl rfl tv fun a S CL=>h_mv1 S CL hw le rfl tv fun a S CL=>?_
   obtain ⟨c3,h2⟩:=chk_of h1; clear h1
   refine h_iaddrS S CL hw le (subR rfl) rfl rfl rfl underlying31 T122 c3.1 c3.2 rfl rfl tv fun p1 a S CL=>h_faddrP S CL hw le (subR rfl) (tF:=Y71) (y:=(gt ((ST37.un t1).2.1) y6).1) rfl I122_0 T71 (by decide) (fun m h=>(at_fst (at_0 h))) rfl rfl tv fun a S CL=>h_faddrP S CL hw le (subR rfl) (tF:=(Ty.arr .u8 20)) (y:=((gt ((ST37.un t1).2.1) y6).1).1) rfl I71_0 T40 (by decide) (fun m h=>(at_fst (at_0 h))) rfl rfl tv fun a S CL=>h_ldA S CL hw le (subR rfl) (fun (c:Unit)=>[.b20 (((gt ((ST37.un t1).2.1) y6).1).1)]) rfl T40 (fun _=>rfl) rfl rfl tv fun ch4 a S CL=>?_
   refine h_fieldAddr S CL hw le (subR rfl) rfl I122_0 T71 (by decide) rfl rfl rfl tv fun a S CL=>h_fieldAddr S CL hw le (subR rfl) rfl I71_0 T40 (by decide) rfl rfl rfl tv fun a S CL=>h_loada S CL hw le (subR rfl) rfl .h T40 (s':=[.b20 x2.1.1]) rfl rfl rfl tv fun a S CL=>h_nea S CL hw le (subR rfl) rfl rfl underlying40 underlying5 T5 Q40 rfl rfl tv fun a S CL=>?_
   refine h_done ?_; clear CL hw le
   refine x_thenN ?_
   rcases ite_of h2 with ⟨c4,h3⟩ | ⟨c4,h3⟩
   ·refine c_condT S rfl c4 (c_region' (s_mv1 S rfl fun a S=>s_fieldAddr S rfl I37_1 T31 (by decide) rfl rfl fun a S=>s_loadSl S rfl .h3 T31 (A:=cc3.2.1.1) (len:=((ST37.un t1).2.1).length) (cap:=cc3.2.1.2) rfl rfl fun a S=>s_mv1 S rfl fun a S=>s_iaddrS S rfl rfl rfl underlying31 T122 c3.1 c3.2 rfl fun p2 a S=>s_ldA S (fun (c:(Unit×Unit×Unit×(Option Addr×Nat)×(Option Addr×Nat))×Unit×Unit)=>(Y122.segs (gt ((ST37.un t1).2.1) y6) (c.1,(),()))) rfl T122 (fun _=>rfl) rfl fun ch5 a S=>?_))
    refine s_bldSl S (ty':=Y122) (ds:=[(0,(.agg (Y122.segs (gt ((ST37.un t1).2.1) y6) (ch5.1,(),()))))]) (z:=(zt1,false,false)) (c0:=(((),(),(),(none,0),(none,0)),(),())) (ys:=[gt ((ST37.un t1).2.1) y6]) (cs:=[(ch5.1,(),())]) rfl underlying31 J122 Z122 rfl ⟨rfl,rfl,rfl,⟨Nat.le_refl _,Nat.zero_le _,RdS.nil _ _ _,RdS.mono _ _ _⟩,⟨Nat.le_refl _,Nat.zero_le _,RdS.nil _ _ _,RdS.mono _ _ _⟩,rfl,rfl,tv⟩ rfl rfl rfl rfl rfl rfl fun g47 a w S=>?_
    obtain ⟨c5,h4⟩:=chk_of h3; clear h3
    refine s_app S (k2:=1) (ys:=[gt ((ST37.un t1).2.1) y6]) rfl (fun _ _=> .h1) rfl rfl (S.holds _ (Pull.mem .h).1).1 (Res.row.src (S.holds _ (Pull.mem .h).1)) underlying31 J122 c5 rfl fun A5 cp17 a w S=>s_as1 S rfl fun a S=>c_end' (x_blockN (x_thenN ?_))
    exact j2 _ A5 (nn5+1) cp17 (y7++[gt ((ST37.un t1).2.1) y6]) g40 g41 g42 a w (S.sb rfl (.c1 (.c1 (.c1 (.c1 .n))))) h4
   ·refine c_condF S rfl c4 (wp_skip (x_blockN (x_thenN ?_)))
    exact j2 _ A3 nn5 cp14 y7 g40 g41 g42 a w (S.sb rfl (.c0 (.c0 (.c0 (.c0 .n))))) h3
  ·refine c_condF S rfl c2 (wp_exit (x_thenX (x_thenX (x_blockX (x_thenN ?_)))))
   exact j1 _ A3 nn5 cp14 y7 g40 g41 g42 cc3 a w (S.sb rfl (.c0 (.c0 (.c0 (.c0 .n))))) h1
abbrev fa3_.Ty:Type:=ST37→(List Int)→Int→Option ST37
def fa3_.Ctr (s:fa3_.Ty):Prop:=∀ {x1:ST37} {x2:List Int} {x3:Int} {ch_0_0:(Option Addr×Nat)×(Option Addr×Nat)×(Option Addr×Nat)×(Option Addr×Nat)×Unit×(Option Addr×Nat)×Unit×(Option Addr×Nat)} {r:ST37} (h0:s x1 x2 x3=some r) {mi:Mem} {w0:World},CtrB Tryz.prog 36 [(.agg (SY37.segs x1 ch_0_0)),(.agg [.b20 x2]),(.w x3)] [] (fun (ch:W21)=>((.agg (SY37.segs r ch)):D)) (fun (ch:W21)=>[]) mi w0
def fa3_.f (k:Nat)(x1:ST37)(x2:List Int)(x3:Int):Option ST37:=(fd4_.f k x1 x2).bind fun t1=>((fb6_.f k x1 ((t1.1.1,x3,t1.1.2.2.1,t1.1.2.2.2.1,t1.1.2.2.2.2),t1.2.1,t1.2.2)).bind fun t2=>(some t2))
theorem fa3_.ok (k:Nat):fa3_.Ctr (fa3_.f k):=by
 intro x1 x2 x3 ch_0_0 r h0 mi w0 ok hm
 delta fa3_.f at h0
 refine c_enterZ (n:=17) ok hm func36 rfl rfl rfl fun b0 hb a S=>c_region (s_box S rfl rfl rfl fun g1 a w S=>s_box S rfl rfl rfl fun g2 a w S=>s_alloc S Z37 rfl ⟨rfl,rfl,rfl,rfl,rfl,rfl,rfl,rfl,tv⟩ rfl fun g3 a w S=>c_end (c_region (s_loada S rfl .h2 T37 (s':=(SY37.segs x1 ch_0_0)) rfl rfl fun a S=>s_loada S rfl .h1 T40 (s':=[.b20 x2]) rfl rfl fun a S=>bindX h0 fun t1 et1 h1=>s_callK S (fd4_.ok k (ch_0_0:=ch_0_0) et1) N64 rfl .pre (fun _=> .n) rfl fun ch1 m le1 a w S=>s_alloc S Z122 rfl ⟨rfl,rfl,rfl,rfl,rfl,rfl,rfl,tv⟩ rfl fun g4 a w S=>s_store S rfl rfl rfl (s':=(Y122.segs t1 (((),(),(),(ch1.1,ch1.2.1),ch1.t2),(),()))) .h T122 rfl rfl fun w S=>c_end (c_region (s_mv1 S rfl fun a S=>s_fieldAddr S rfl I122_0 T71 (by decide) rfl rfl fun a S=>s_fieldAddr S rfl I71_1 T41 (by decide) rfl rfl fun a S=>s_storeJ S 1 rfl rfl rfl rfl .h T41 rfl rfl fun w S=>c_end (c_region (s_loada S rfl .h3 T37 (s':=(SY37.segs x1 ch_0_0)) rfl rfl fun a S=>s_loada S rfl .h T122 (s':=(Y122.segs ((t1.1.1,x3,t1.1.e3,t1.1.e4,t1.1.t4),t1.2.1,t1.t2) (((),(),(),(ch1.1,ch1.2.1),ch1.t2),(),()))) rfl rfl fun a S=>bindX h1 fun t2 et2 h2=>s_callK S (fb6_.ok k (ch_0_0:=ch_0_0) et2) N74 rfl .pre (fun _=> .n) rfl fun ch2 m le1 a w S=>s_store S rfl rfl rfl (s':=(SY37.segs t2 ch2)) .h1 T37 rfl rfl fun w S=>c_end (wp_ret ?_))))))))
 obtain rfl:=sI h2
 exact b_ret1 (d:=(.agg (SY37.segs t2 ch2))) S rfl (resD_cell rfl .h1 T37 rfl rfl) fun ok=>S.retX (Hx:=[]) hb _ _ (ch2:W21) .nil ok
abbrev fc3_.Ty:Type:=W2→(List Int)→(List Int)→Option W9
def fc3_.Ctr (s:fc3_.Ty):Prop:=∀ {x1:W2} {x2:List Int} {x3:List Int} {ch_0:W3} {r:W9} (h0:s x1 x2 x3=some r) {mi:Mem} {w0:World},CtrB Tryz.prog 37 [(.v (.pointer (some ⟨ch_0.1,0,none⟩))),(.agg [.b20 x2]),(.a4 x3)] (MS1 x1 ch_0) (fun (ch:W7)=>((.tup []):D)) (fun (ch:W7)=>(MS1 (x1.1,r.2.1,x1.e3,r.e4,r.e5,r.t5) (ch_0.1,ch_0.2.1,ch_0.e3,ch.1,ch.2.1,ch.e3,ch.e4,ch.e5,ch.e6,ch.e7,ch.e8,ch.e9,ch.e10,ch.e11,ch.e12,ch.t12))) mi w0
def fc3_.f (k:Nat)(x1:W2)(x2:List Int)(x3:List Int):Option W9:=(fh6_.f k x1 x2).bind fun t1=>(if t1.1.isSome=true then ((fd1_.f (x1.1,t1.2.2.1,x1.2.2.1,t1.2.2.2.2.1,t1.2.2.2.2.2.1,t1.2.2.2.2.2.2) (Clo.c75 (((atE t1.2.2.1.2.1 (t1.1.getD 0)).2.1).2.2.1) t1.1)).bind fun t2=>(some ((),(t1.2.2.1.1,t1.2.2.1.2.1.set (t1.1.getD 0) ((atE t1.2.2.1.2.1 (t1.1.getD 0)).1,(((atE t1.2.2.1.2.1 (t1.1.getD 0)).2.1).1,((atE t1.2.2.1.2.1 (t1.1.getD 0)).2.1).2.1,x3,((atE t1.2.2.1.2.1 (t1.1.getD 0)).2.1).2.2.2.1,((atE t1.2.2.1.2.1 (t1.1.getD 0)).2.1).2.2.2.2),(atE t1.2.2.1.2.1 (t1.1.getD 0)).2.2.1,(atE t1.2.2.1.2.1 (t1.1.getD 0)).2.2.2.1,(atE t1.2.2.1.2.1 (t1.1.getD 0)).2.2.2.2.1,(atE t1.2.2.1.2.1 (t1.1.getD 0)).2.2.2.2.2.1,(atE t1.2.2.1.2.1 (t1.1.getD 0)).2.2.2.2.2.2),t1.2.2.1.2.2.1,t1.2.2.1.2.2.2),(),t1.2.2.2.2.1,t2.2.2.2.2.1,t1.2.2.2.2.2.2))) else none)
theorem fc3_.ok (k:Nat):fc3_.Ctr (fc3_.f k):=by
 intro x1 x2 x3 ch_0 r h0 mi w0 ok hm
 delta fc3_.f at h0
 refine c_enterZ (n:=26) ok hm func37 rfl rfl rfl fun b0 hb a S=>c_region (s_box S rfl rfl rfl fun g1 a w S=>s_box S rfl rfl rfl fun g2 a w S=>c_end (wp_seq (c_region (s_mv1 S rfl fun a S=>s_eqp S (b:=false) rfl rfl underlying26 rfl rfl fun a S=>c_end (c_condF S rfl rfl (wp_skip (x_thenN (c_region (s_mv1 S rfl fun a S=>s_loada S rfl .h1 T40 (s':=[.b20 x2]) rfl rfl fun a S=>bindX h0 fun t1 et1 h1=>s_callK S (fh6_.ok k (ch_0:=ch_0) et1) N56 rfl (.sk (.sk .pre)) (fun _=> .c8) rfl fun ch1 m le1 a w S=>s_alloc S Z111 rfl rfl rfl fun g3 a w S=>s_storeJ S 0 rfl rfl rfl rfl .h T111 rfl rfl fun w S=>c_end (c_region (s_loadM S rfl .h T111 (v:=(ptrV ch1.2.1 t1.1)) rfl rfl fun a S=>?_)))))))))))
 obtain ⟨c1,h2⟩:=chk_of h1; clear h1
 have hl1:=S.slotPlt (u:=13) c1 rfl
 replace S:=S.slotP (u:=13) c1 rfl
 refine s_nilchk S rfl rfl fun a S=>s_fieldAddr S rfl I110_1 T71 (by decide) rfl rfl fun a S=>s_fieldAddr S rfl I71_2 T43 (by decide) rfl rfl fun a S=>?_
 replace S:=S.famOpen (i:=(t1.1.getD 0)) hl1 .h3
 have hS:=S.structOpen (T:=(YE110 ch1.e3 ch1.e4)) (fun _=> .h) (((),(),(),(none,0),(none,0)),((),(),(),(none,0),(none,0)),(),(),(),(),())
 clear S; obtain ⟨ch2,S⟩:=hS
 refine s_loada S rfl .h T43 (s':=[.w4 (((atE t1.e3.2.1 (t1.1.getD 0)).2.1).e3)]) rfl rfl fun a S=>?_
 replace S:=S.structClose (T:=(YE110 ch1.e3 ch1.e4)) (e:=atE t1.e3.2.1 (t1.1.getD 0)) (ch2:((YE110 ch1.e3 ch1.e4)).Ch) rfl .h
 replace S:=S.famShut hl1 .h .h3
 refine s_alloc S Z43 rfl ⟨rfl,tv⟩ rfl fun g4 a w S=>s_storeJ S 0 rfl rfl rfl rfl .h T43 rfl rfl fun w S=>c_end (c_region (s_mv1 S rfl fun a S=>?_))
 replace S:=S.freeze .h
 obtain ⟨m,le1,S⟩:=S
 replace S:=S.freeze .h1
 obtain ⟨m,le1,S⟩:=S
 replace S:=S.slotAt (u:=7) (g:=g4) (t:=43) (T:=(Ty.arr .u64 4)) (x:=((atE t1.e3.2.1 (t1.1.getD 0)).2.1).e3) (c:=(():((Ty.arr .u64 4)).Ch)) .h rfl rfl
 replace S:=S.slotAt (u:=6) (g:=g3) (t:=111) (T:=(Ty.pid ch1.2.1)) (x:=t1.1) (c:=(():((Ty.pid ch1.2.1)).Ch)) .h1 rfl rfl
 refine s_mkFn S (ds:=[(.pt ⟨g4,0,none⟩ (At (Ty.arr .u64 4) ⟨g4,0,none⟩ (((atE t1.e3.2.1 (t1.1.getD 0)).2.1).e3))),(.pt ⟨g3,0,none⟩ (At (Ty.pid ch1.2.1) ⟨g3,0,none⟩ t1.1))]) rfl rfl fun a S=>?_
 replace S:=S.slotFn (u:=19) (V:=cloV) (R:=cloR ch_0.1 ch1.2.1 ch1.e3 ch1.e4) (Clo.c75 (((atE t1.e3.2.1 (t1.1.getD 0)).2.1).e3) t1.1) ([⟨g4,0,none⟩,⟨g3,0,none⟩]:List Addr) rfl (fun h=>⟨h.1.1,h.2.1.1,tv⟩) (cloM _ _ _ _ _ _) rfl
 replace S:=S.slot (u:=7) (d':= .v (.pointer (ad g4))) rfl rfl rfl
 replace S:=S.slot (u:=6) (d':= .v (.pointer (ad g3))) rfl rfl rfl
 refine bindX h2 fun t2 et2 h3=>s_callK S (fd1_.ok (ch_0:=(ch_0.1,ch_0.2.1,ch_0.e3,ch1.1,ch1.2.1,ch1.e3,ch1.e4,ch1.e5,ch1.e6,ch1.e7,ch1.e8,ch1.e9,ch1.e10,ch1.e11,ch1.e12,ch1.t12)) et2) N68 rfl (.sk (.sk .pre)) (fun _=> .c8) rfl fun ch3 m le1 a w S=>c_end (c_region' (s_loadMF S rfl .h9 T111 (v:=(ptrV ch1.2.1 t1.1)) rfl rfl fun a S=>s_loada S rfl .h10 T43 (s':=[.w4 x3]) rfl rfl fun a S=>?_))
 have hl1:=S.slotPlt (u:=21) c1 rfl
 replace S:=S.slotP (u:=21) c1 rfl
 refine s_nilchk S rfl rfl fun a S=>s_fieldAddr S rfl I110_1 T71 (by decide) rfl rfl fun a S=>s_fieldAddr S rfl I71_2 T43 (by decide) rfl rfl fun a S=>?_
 replace S:=S.famOpen (i:=(t1.1.getD 0)) hl1 .h2
 have hS:=S.structOpen (T:=(YE110 ch1.e3 ch1.e4)) (fun _=> .h) (((),(),(),(none,0),(none,0)),((),(),(),(none,0),(none,0)),(),(),(),(),())
 clear S; obtain ⟨ch4,S⟩:=hS
 refine s_storeJ S 7 rfl rfl rfl rfl .h T43 rfl rfl fun w S=>?_
 replace S:=S.structClose (T:=(YE110 ch1.e3 ch1.e4)) (e:=((atE t1.e3.2.1 (t1.1.getD 0)).1,(((atE t1.e3.2.1 (t1.1.getD 0)).2.1).1,((atE t1.e3.2.1 (t1.1.getD 0)).2.1).2.1,x3,((atE t1.e3.2.1 (t1.1.getD 0)).2.1).e4,((atE t1.e3.2.1 (t1.1.getD 0)).2.1).t4),(atE t1.e3.2.1 (t1.1.getD 0)).e3,(atE t1.e3.2.1 (t1.1.getD 0)).e4,(atE t1.e3.2.1 (t1.1.getD 0)).e5,(atE t1.e3.2.1 (t1.1.getD 0)).e6,(atE t1.e3.2.1 (t1.1.getD 0)).t6)) (ch4:((YE110 ch1.e3 ch1.e4)).Ch) rfl .h
 replace S:=S.famClose hl1 .h .h2
 refine c_end' (b_end ?_)
 obtain rfl:=sI h3
 exact b_ret0 S rfl (S.retX (Hx:=[]) hb _ _ ((ch1.1,ch1.2.1,ch1.e3,ch1.e4,ch1.e5,ch1.e6,ch1.e7,ch3.1,ch3.2.1,ch3.t2,ch1.e11,ch1.e12,ch1.t12):W7) (.c0 (.c0 (.c0 (.c0 (.c0 (.c0 (.c0 (.c0 .n)))))))) tv)
abbrev fa0_.Ty:Type:=ST37→(List Int)→(List Int)→Option ST37
def fa0_.Ctr (s:fa0_.Ty):Prop:=∀ {x1:ST37} {x2:List Int} {x3:List Int} {ch_0_0:(Option Addr×Nat)×(Option Addr×Nat)×(Option Addr×Nat)×(Option Addr×Nat)×Unit×(Option Addr×Nat)×Unit×(Option Addr×Nat)} {r:ST37} (h0:s x1 x2 x3=some r) {mi:Mem} {w0:World},CtrB Tryz.prog 38 [(.agg (SY37.segs x1 ch_0_0)),(.agg [.b20 x2]),(.a4 x3)] [] (fun (ch:W21)=>((.agg (SY37.segs r ch)):D)) (fun (ch:W21)=>[]) mi w0
def fa0_.f (k:Nat)(x1:ST37)(x2:List Int)(x3:List Int):Option ST37:=(fd4_.f k x1 x2).bind fun t1=>((fb6_.f k x1 ((t1.1.1,t1.1.2.1,x3,t1.1.2.2.2.1,t1.1.2.2.2.2),t1.2.1,t1.2.2)).bind fun t2=>(some t2))
theorem fa0_.ok (k:Nat):fa0_.Ctr (fa0_.f k):=by
 intro x1 x2 x3 ch_0_0 r h0 mi w0 ok hm
 delta fa0_.f at h0
 refine c_enterZ (n:=17) ok hm func38 rfl rfl rfl fun b0 hb a S=>c_region (s_box S rfl rfl rfl fun g1 a w S=>s_box S rfl rfl rfl fun g2 a w S=>s_box S rfl rfl rfl fun g3 a w S=>s_alloc S Z37 rfl ⟨rfl,rfl,rfl,rfl,rfl,rfl,rfl,rfl,tv⟩ rfl fun g4 a w S=>c_end (c_region (s_loada S rfl .h3 T37 (s':=(SY37.segs x1 ch_0_0)) rfl rfl fun a S=>s_loada S rfl .h2 T40 (s':=[.b20 x2]) rfl rfl fun a S=>bindX h0 fun t1 et1 h1=>s_callK S (fd4_.ok k (ch_0_0:=ch_0_0) et1) N64 rfl .pre (fun _=> .n) rfl fun ch1 m le1 a w S=>s_alloc S Z122 rfl ⟨rfl,rfl,rfl,rfl,rfl,rfl,rfl,tv⟩ rfl fun g5 a w S=>s_store S rfl rfl rfl (s':=(Y122.segs t1 (((),(),(),(ch1.1,ch1.2.1),ch1.t2),(),()))) .h T122 rfl rfl fun w S=>c_end (c_region (s_loada S rfl .h2 T43 (s':=[.w4 x3]) rfl rfl fun a S=>s_fieldAddr S rfl I122_0 T71 (by decide) rfl rfl fun a S=>s_fieldAddr S rfl I71_2 T43 (by decide) rfl rfl fun a S=>s_storeJ S 2 rfl rfl rfl rfl .h T43 rfl rfl fun w S=>c_end (c_region (s_loada S rfl .h4 T37 (s':=(SY37.segs x1 ch_0_0)) rfl rfl fun a S=>s_loada S rfl .h T122 (s':=(Y122.segs ((t1.1.1,t1.1.2.1,x3,t1.1.e4,t1.1.t4),t1.2.1,t1.t2) (((),(),(),(ch1.1,ch1.2.1),ch1.t2),(),()))) rfl rfl fun a S=>bindX h1 fun t2 et2 h2=>s_callK S (fb6_.ok k (ch_0_0:=ch_0_0) et2) N74 rfl .pre (fun _=> .n) rfl fun ch2 m le1 a w S=>s_store S rfl rfl rfl (s':=(SY37.segs t2 ch2)) .h1 T37 rfl rfl fun w S=>c_end (wp_ret ?_))))))))
 obtain rfl:=sI h2
 exact b_ret1 (d:=(.agg (SY37.segs t2 ch2))) S rfl (resD_cell rfl .h1 T37 rfl rfl) fun ok=>S.retX (Hx:=[]) hb _ _ (ch2:W21) .nil ok
abbrev fe1_.Ty:Type:=W2→(List Int)→(List Int)→Option W9
def fe1_.Ctr (s:fe1_.Ty):Prop:=∀ {x1:W2} {x2:List Int} {x3:List Int} {ch_0:W3} {ch_2_0:Option Addr} {ch_2_1:Nat} {r:W9} (h0:s x1 x2 x3=some r) {mi:Mem} {w0:World},CtrB Tryz.prog 39 [(.v (.pointer (some ⟨ch_0.1,0,none⟩))),(.agg [.b20 x2]),(.q yb ch_2_0 ch_2_1 x3)] (MS1 x1 ch_0) (fun (ch:W7)=>((.tup []):D)) (fun (ch:W7)=>(MS1 (x1.1,r.2.1,x1.e3,r.e4,r.e5,r.t5) (ch_0.1,ch_0.2.1,ch_0.e3,ch.1,ch.2.1,ch.e3,ch.e4,ch.e5,ch.e6,ch.e7,ch.e8,ch.e9,ch.e10,ch.e11,ch.e12,ch.t12))) mi w0
def fe1_.f (k:Nat)(x1:W2)(x2:List Int)(x3:List Int):Option W9:=(fh6_.f k x1 x2).bind fun t1=>(if t1.1.isSome=true then ((fd1_.f (x1.1,t1.2.2.1,x1.2.2.1,t1.2.2.2.2.1,t1.2.2.2.2.2.1,t1.2.2.2.2.2.2) (Clo.c76 (((atE t1.2.2.1.2.1 (t1.1.getD 0)).2.1).2.2.2.1) t1.1)).bind fun t2=>((fc_.f x3).bind fun t3=>(some ((),(t1.2.2.1.1,t1.2.2.1.2.1.set (t1.1.getD 0) ((atE t1.2.2.1.2.1 (t1.1.getD 0)).1,(((atE t1.2.2.1.2.1 (t1.1.getD 0)).2.1).1,((atE t1.2.2.1.2.1 (t1.1.getD 0)).2.1).2.1,((atE t1.2.2.1.2.1 (t1.1.getD 0)).2.1).2.2.1,t3,((atE t1.2.2.1.2.1 (t1.1.getD 0)).2.1).2.2.2.2),(atE t1.2.2.1.2.1 (t1.1.getD 0)).2.2.1,(atE t1.2.2.1.2.1 (t1.1.getD 0)).2.2.2.1,(atE t1.2.2.1.2.1 (t1.1.getD 0)).2.2.2.2.1,(atE t1.2.2.1.2.1 (t1.1.getD 0)).2.2.2.2.2.1,(atE t1.2.2.1.2.1 (t1.1.getD 0)).2.2.2.2.2.2),t1.2.2.1.2.2.1,t1.2.2.1.2.2.2),(),t1.2.2.2.2.1,t2.2.2.2.2.1,t1.2.2.2.2.2.2)))) else none)
theorem fe1_.ok (k:Nat):fe1_.Ctr (fe1_.f k):=by
 intro x1 x2 x3 ch_0 ch_2_0 ch_2_1 r h0 mi w0 ok hm
 delta fe1_.f at h0
 refine c_enterZ (n:=27) ok hm func39 rfl rfl rfl fun b0 hb a S=>c_region (s_box S rfl rfl rfl fun g1 a w S=>c_end (wp_seq (c_region (s_mv1 S rfl fun a S=>s_eqp S (b:=false) rfl rfl underlying26 rfl rfl fun a S=>c_end (c_condF S rfl rfl (wp_skip (x_thenN (c_region (s_mv1 S rfl fun a S=>s_loada S rfl .h T40 (s':=[.b20 x2]) rfl rfl fun a S=>bindX h0 fun t1 et1 h1=>s_callK S (fh6_.ok k (ch_0:=ch_0) et1) N56 rfl (.sk .pre) (fun _=> .c8) rfl fun ch1 m le1 a w S=>s_alloc S Z111 rfl rfl rfl fun g2 a w S=>s_storeJ S 0 rfl rfl rfl rfl .h T111 rfl rfl fun w S=>c_end (c_region (s_loadM S rfl .h T111 (v:=(ptrV ch1.2.1 t1.1)) rfl rfl fun a S=>?_)))))))))))
 obtain ⟨c1,h2⟩:=chk_of h1; clear h1
 have hl1:=S.slotPlt (u:=13) c1 rfl
 replace S:=S.slotP (u:=13) c1 rfl
 refine s_nilchk S rfl rfl fun a S=>s_fieldAddr S rfl I110_1 T71 (by decide) rfl rfl fun a S=>s_fieldAddr S rfl I71_3 T44 (by decide) rfl rfl fun a S=>?_
 replace S:=S.famOpen (i:=(t1.1.getD 0)) hl1 .h3
 have hS:=S.structOpen (T:=(YE110 ch1.e3 ch1.e4)) (fun _=> .h) (((),(),(),(none,0),(none,0)),((),(),(),(none,0),(none,0)),(),(),(),(),())
 clear S; obtain ⟨ch2,S⟩:=hS
 refine s_loadSl S rfl .h T44 (A:=ch2.2.1.e4.1) (len:=(((atE t1.e3.2.1 (t1.1.getD 0)).2.1).e4).length) (cap:=ch2.2.1.e4.2) rfl rfl fun a S=>?_
 replace S:=S.structClose (T:=(YE110 ch1.e3 ch1.e4)) (e:=atE t1.e3.2.1 (t1.1.getD 0)) (ch2:((YE110 ch1.e3 ch1.e4)).Ch) rfl .h
 replace S:=S.famShut hl1 .h .h3
 refine s_alloc S Z44 rfl rfl rfl fun g3 a w S=>s_storeJ S 0 rfl rfl rfl rfl .h T44 rfl rfl fun w S=>c_end (c_region (s_mv1 S rfl fun a S=>?_))
 replace S:=S.freeze .h
 obtain ⟨m,le1,S⟩:=S
 replace S:=S.freeze .h1
 obtain ⟨m,le1,S⟩:=S
 replace S:=S.slotAt (u:=7) (g:=g3) (t:=44) (T:=(Ty.slice yb)) (x:=((atE t1.e3.2.1 (t1.1.getD 0)).2.1).e4) (c:=(ch2.2.1.e4:((Ty.slice yb)).Ch)) .h rfl rfl
 replace S:=S.slotAt (u:=6) (g:=g2) (t:=111) (T:=(Ty.pid ch1.2.1)) (x:=t1.1) (c:=(():((Ty.pid ch1.2.1)).Ch)) .h1 rfl rfl
 refine s_mkFn S (ds:=[(.pt ⟨g3,0,none⟩ (At (Ty.slice yb) ⟨g3,0,none⟩ (((atE t1.e3.2.1 (t1.1.getD 0)).2.1).e4))),(.pt ⟨g2,0,none⟩ (At (Ty.pid ch1.2.1) ⟨g2,0,none⟩ t1.1))]) rfl rfl fun a S=>?_
 replace S:=S.slotFn (u:=19) (V:=cloV) (R:=cloR ch_0.1 ch1.2.1 ch1.e3 ch1.e4) (Clo.c76 (((atE t1.e3.2.1 (t1.1.getD 0)).2.1).e4) t1.1) ([⟨g3,0,none⟩,⟨g2,0,none⟩]:List Addr) rfl (fun h=>⟨h.1.1,h.2.1.1,tv⟩) (cloM _ _ _ _ _ _) rfl
 replace S:=S.slot (u:=7) (d':= .v (.pointer (ad g3))) rfl rfl rfl
 replace S:=S.slot (u:=6) (d':= .v (.pointer (ad g2))) rfl rfl rfl
 refine bindX h2 fun t2 et2 h3=>s_callK S (fd1_.ok (ch_0:=(ch_0.1,ch_0.2.1,ch_0.e3,ch1.1,ch1.2.1,ch1.e3,ch1.e4,ch1.e5,ch1.e6,ch1.e7,ch1.e8,ch1.e9,ch1.e10,ch1.e11,ch1.e12,ch1.t12)) et2) N68 rfl (.sk (.sk .pre)) (fun _=> .c8) rfl fun ch3 m le1 a w S=>c_end ?_
 have hl1:=S.slotPlt (u:=12) c1 rfl
 replace S:=S.slotP (u:=12) c1 rfl
 replace S:=S.froP (s1:=[]) (s2:=[]) c1 .h9
 replace S:=S.famOpen (i:=(t1.1.getD 0)) hl1 .h2
 have hS:=S.structOpen (T:=(YE110 ch1.e3 ch1.e4)) (fun _=> .h) (((),(),(),(none,0),(none,0)),((),(),(),(none,0),(none,0)),(),(),(),(),())
 clear S; obtain ⟨ch4,S⟩:=hS
 refine c_hS S (.take 0 (.take 1 (.alts (.run 2 true (.tk 3 3 (.alts (.run 6 false .done .nil))) .nil)))) 6 (.c10 .n) ⟨Res.stay_fro,tv⟩ [(6,(.p g2)),(2,(.q yb ch_2_0 ch_2_1 x3))] rfl (by kernel_rfl) fun w S CL hw le=>?_
 refine h_load1F S CL hw le (subR rfl) rfl .h T111 (v:=(.pointer (some ⟨(bAt ch1.2.1 (t1.1.getD 0)),0,none⟩))) rfl rfl rfl tv fun a S CL=>h_mv1 S CL hw le rfl tv fun a S CL=>h_run' S rfl tv (bindX h3 fun t3 et3 h4=>s_callK S (fc_.ok et3) N33 rfl .pre (fun _=> .c1) rfl fun ch5 m le1 a w S=>?_)
 replace le:=le.trans le1
 refine CL.bk hw S (.c11 .n) le fun hw=>h_nilchk S CL hw le (subR rfl) rfl rfl rfl rfl tv fun a S CL=>h_fieldAddr S CL hw le (subR rfl) rfl I110_1 T71 (by decide) rfl rfl rfl tv fun a S CL=>h_fieldAddr S CL hw le (subR rfl) rfl I71_3 T44 (by decide) rfl rfl rfl tv fun a S CL=>h_run' S rfl tv (s_storeJ S 8 rfl rfl rfl rfl .h1 T44 rfl rfl fun w S=>?_)
 refine h_back ⟨fun h=>(nomatch h),?_⟩
 refine h_done ?_; clear CL hw le
 replace S:=S.rowfro .h
 obtain ⟨m,le1,S,hro⟩:=S
 replace S:=S.slotro (u:=23) rfl hro
 replace S:=S.cellF 8 .h rfl hro
 replace S:=S.structClose (T:=(YE110 ch1.e3 ch1.e4)) (e:=((atE t1.e3.2.1 (t1.1.getD 0)).1,(((atE t1.e3.2.1 (t1.1.getD 0)).2.1).1,((atE t1.e3.2.1 (t1.1.getD 0)).2.1).2.1,((atE t1.e3.2.1 (t1.1.getD 0)).2.1).e3,t3,((atE t1.e3.2.1 (t1.1.getD 0)).2.1).t4),(atE t1.e3.2.1 (t1.1.getD 0)).e3,(atE t1.e3.2.1 (t1.1.getD 0)).e4,(atE t1.e3.2.1 (t1.1.getD 0)).e5,(atE t1.e3.2.1 (t1.1.getD 0)).e6,(atE t1.e3.2.1 (t1.1.getD 0)).t6)) ((ch4.1,((),(),(),(ch5.1,ch5.t2),ch4.2.1.t4),(),(),(),(),()):((YE110 ch1.e3 ch1.e4)).Ch) rfl .h
 replace S:=S.famClose hl1 .h .h2
 replace S:=S.slotPx (u:=24) c1 hl1 rfl
 replace S:=S.slotPx (u:=21) c1 hl1 rfl
 replace S:=S.slotPx (u:=12) c1 hl1 rfl
 replace S:=S.slotPx (u:=14) c1 hl1 rfl
 replace S:=S.slotPx (u:=13) c1 hl1 rfl
 replace S:=S.froPB (x:=t1.1) (G:=ch1.2.1) (s1:=[]) (s2:=[]) c1 hl1 .h9
 refine b_end ?_
 obtain rfl:=sI h4
 exact b_ret0 S rfl (S.retX (Hx:=[]) hb _ _ ((ch1.1,ch1.2.1,ch1.e3,ch1.e4,ch1.e5,ch1.e6,ch1.e7,ch3.1,ch3.2.1,ch3.t2,ch1.e11,ch1.e12,ch1.t12):W7) (.c0 (.c0 (.c0 (.c0 (.c0 (.c0 (.c0 (.c0 .n)))))))) tv)
abbrev fa4_.Ty:Type:=ST37→(List Int)→(List Int)→Option ST37
def fa4_.Ctr (s:fa4_.Ty):Prop:=∀ {x1:ST37} {x2:List Int} {x3:List Int} {ch_0_0:(Option Addr×Nat)×(Option Addr×Nat)×(Option Addr×Nat)×(Option Addr×Nat)×Unit×(Option Addr×Nat)×Unit×(Option Addr×Nat)} {ch_2_0:Option Addr} {ch_2_1:Nat} {r:ST37} (h0:s x1 x2 x3=some r) {mi:Mem} {w0:World},CtrB Tryz.prog 40 [(.agg (SY37.segs x1 ch_0_0)),(.agg [.b20 x2]),(.q yb ch_2_0 ch_2_1 x3)] [] (fun (ch:W21)=>((.agg (SY37.segs r ch)):D)) (fun (ch:W21)=>[]) mi w0
def fa4_.f (k:Nat)(x1:ST37)(x2:List Int)(x3:List Int):Option ST37:=(fd4_.f k x1 x2).bind fun t1=>(if ((([]:List Int)).length+(x3).length)*1≤140737488355328 then ((fb6_.f k x1 ((t1.1.1,t1.1.2.1,t1.1.2.2.1,([]:List Int)++x3,t1.1.2.2.2.2),t1.2.1,t1.2.2)).bind fun t2=>(some t2)) else none)
theorem fa4_.ok (k:Nat):fa4_.Ctr (fa4_.f k):=by
 intro x1 x2 x3 ch_0_0 ch_2_0 ch_2_1 r h0 mi w0 ok hm
 delta fa4_.f at h0
 refine c_enterZ (n:=22) ok hm func40 rfl rfl rfl fun b0 hb a S=>c_region (s_box S rfl rfl rfl fun g1 a w S=>s_box S rfl rfl rfl fun g2 a w S=>s_alloc S Z37 rfl ⟨rfl,rfl,rfl,rfl,rfl,rfl,rfl,rfl,tv⟩ rfl fun g3 a w S=>c_end (c_region (s_loada S rfl .h2 T37 (s':=(SY37.segs x1 ch_0_0)) rfl rfl fun a S=>s_loada S rfl .h1 T40 (s':=[.b20 x2]) rfl rfl fun a S=>bindX h0 fun t1 et1 h1=>s_callK S (fd4_.ok k (ch_0_0:=ch_0_0) et1) N64 rfl .pre (fun _=> .n) rfl fun ch1 m le1 a w S=>s_alloc S Z122 rfl ⟨rfl,rfl,rfl,rfl,rfl,rfl,rfl,tv⟩ rfl fun g4 a w S=>s_store S rfl rfl rfl (s':=(Y122.segs t1 (((),(),(),(ch1.1,ch1.2.1),ch1.t2),(),()))) .h T122 rfl rfl fun w S=>c_end (c_region (s_bldSl S (ty':=yb) (ds:=[]) (z:=0) (c0:=()) (ys:=([]:List Int)) (cs:=[]) rfl underlying44 J5 Z5 rfl ⟨rfl,tv⟩ rfl rfl rfl rfl rfl rfl fun g5 a w S=>s_as1 S rfl fun a S=>c_end (c_region (s_mv2 S rfl fun a S=>?_)))))))
 obtain ⟨c1,h2⟩:=chk_of h1; clear h1
 refine s_app S (k2:=((x3).length)) (ys:=x3) rfl (fun _ _=> .h) rfl rfl rfl (RdS.src (S.get 14 (.q yb ch_2_0 ch_2_1 x3) rfl).2.2.2.1 (by decide) S.frz) underlying44 J5 c1 rfl fun A1 cp1 a w S=>s_as1 S rfl fun a S=>c_end (c_region (s_mv1 S rfl fun a S=>s_fieldAddr S rfl I122_0 T71 (by decide) rfl rfl fun a S=>s_fieldAddr S rfl I71_3 T44 (by decide) rfl rfl fun a S=>s_storeJ S 3 rfl rfl rfl rfl .h1 T44 rfl rfl fun w S=>c_end (c_region (s_loada S rfl .h4 T37 (s':=(SY37.segs x1 ch_0_0)) rfl rfl fun a S=>s_loada S rfl .h1 T122 (s':=[.b20 t1.1.1, .w t1.1.2.1, .w4 t1.1.e3, .s A1 (0+((x3).length)) cp1, .q Y83 ch1.e3 ch1.t3 t1.1.t4, .b t1.2.1, .b t1.t2]) rfl rfl fun a S=>?_))))
 replace S:=S.rowfro .h
 obtain ⟨m,le1,S,hro⟩:=S
 replace S:=S.slotF 20 3 rfl rfl hro
 replace S:=S.slotro (u:=16) rfl hro
 replace S:=S.slotro (u:=8) rfl hro
 replace S:=S.slotro (u:=15) rfl hro
 replace S:=S.cellF 3 .h rfl hro
 refine bindX h2 fun t2 et2 h3=>s_callK S (fb6_.ok k (ch_0_0:=ch_0_0) et2) N74 rfl .pre (fun _=> .n) rfl fun ch2 m le1 a w S=>s_store S rfl rfl rfl (s':=(SY37.segs t2 ch2)) .h1 T37 rfl rfl fun w S=>c_end (wp_ret ?_)
 obtain rfl:=sI h3
 exact b_ret1 (d:=(.agg (SY37.segs t2 ch2))) S rfl (resD_cell rfl .h1 T37 rfl rfl) fun ok=>S.retX (Hx:=[]) hb _ _ (ch2:W21) .nil ok
abbrev fg9_.Ty:Type:=W2→(List Int)→Option W9
def fg9_.Ctr (s:fg9_.Ty):Prop:=∀ {x1:W2} {x2:List Int} {ch_0:W3} {r:W9} (h0:s x1 x2=some r) {mi:Mem} {w0:World},CtrB Tryz.prog 41 [(.v (.pointer (some ⟨ch_0.1,0,none⟩))),(.agg [.b20 x2])] (MS1 x1 ch_0) (fun (ch:W7)=>((.tup []):D)) (fun (ch:W7)=>(MS1 (x1.1,r.2.1,x1.e3,r.e4,r.e5,r.t5) (ch_0.1,ch_0.2.1,ch_0.e3,ch.1,ch.2.1,ch.e3,ch.e4,ch.e5,ch.e6,ch.e7,ch.e8,ch.e9,ch.e10,ch.e11,ch.e12,ch.t12))) mi w0
def fg9_.j1 (x1:W2)(t1:W6):Option W9:=(fd1_.f (x1.1,t1.2.2.1,x1.2.2.1,t1.2.2.2.2.1,t1.2.2.2.2.2.1,t1.2.2.2.2.2.2) (Clo.c77 ((atE t1.2.2.1.2.1 (t1.1.getD 0)).2.2.1) ((atE t1.2.2.1.2.1 (t1.1.getD 0)).2.2.2.1) t1.1)).bind fun t2=>(some ((),(t1.2.2.1.1,t1.2.2.1.2.1.set (t1.1.getD 0) ((atE t1.2.2.1.2.1 (t1.1.getD 0)).1,(atE t1.2.2.1.2.1 (t1.1.getD 0)).2.1,true,t1.2.2.1.2.2.1.length,(atE t1.2.2.1.2.1 (t1.1.getD 0)).2.2.2.2.1,(atE t1.2.2.1.2.1 (t1.1.getD 0)).2.2.2.2.2.1,(atE t1.2.2.1.2.1 (t1.1.getD 0)).2.2.2.2.2.2),t1.2.2.1.2.2.1++[([]:List ((List Int)×(List Int)))],t1.2.2.1.2.2.2),(),t1.2.2.2.2.1,t2.2.2.2.2.1,t1.2.2.2.2.2.2))
def fg9_.f (k:Nat)(x1:W2)(x2:List Int):Option W9:=(fh6_.f k x1 x2).bind fun t1=>(if t1.1.isSome=true then (fg9_.j1 x1 t1) else none)
theorem fg9_.ok (k:Nat):fg9_.Ctr (fg9_.f k):=by
 intro x1 x2 ch_0 r h0 mi w0 ok hm
 delta fg9_.f at h0
 refine c_enterZ (n:=30) ok hm func41 rfl rfl rfl fun b0 hb a S=>c_region (s_box S rfl rfl rfl fun g1 a w S=>c_end (wp_seq (c_region (s_mv1 S rfl fun a S=>s_eqp S (b:=false) rfl rfl underlying26 rfl rfl fun a S=>c_end (c_condF S rfl rfl (wp_skip (x_thenN (c_region (s_mv1 S rfl fun a S=>s_loada S rfl .h T40 (s':=[.b20 x2]) rfl rfl fun a S=>bindX h0 fun t1 et1 h1=>s_callK S (fh6_.ok k (ch_0:=ch_0) et1) N56 rfl (.sk .pre) (fun _=> .c8) rfl fun ch1 m le1 a w S=>s_alloc S Z111 rfl rfl rfl fun g2 a w S=>s_storeJ S 0 rfl rfl rfl rfl .h T111 rfl rfl fun w S=>c_end ?_)))))))))
 obtain ⟨c1,h2⟩:=chk_of h1; clear h1
 have hl1:=S.slotPlt (u:=11) c1 rfl
 replace S:=S.slotP (u:=11) c1 rfl
 replace S:=S.cellP (s1:=[]) (s2:=[]) c1 .h
 replace S:=S.famOpen (i:=(t1.1.getD 0)) hl1 .h3
 have hS:=S.structOpen (T:=(YE110 ch1.e3 ch1.e4)) (fun _=> .h) (((),(),(),(none,0),(none,0)),((),(),(),(none,0),(none,0)),(),(),(),(),())
 clear S; obtain ⟨ch2,S⟩:=hS
 refine wp_seq_k fun K1 hK1=>?_
 have j1:∀ m g5 g6 g7 a w,St 30 m b0 [(6,(.p g5)),(5,(.p g6)),(4,(.p g7)),(0,(.v (.pointer (some ⟨ch_0.1,0,none⟩))))] ([Res.cells g5 107 [.rf (.map (some (bAt ch1.e3 ((atE t1.e3.2.1 (t1.1.getD 0)).e4)))) (ltR ((atE t1.e3.2.1 (t1.1.getD 0)).e4) ch1.e3)],Res.cells g6 4 [.b ((atE t1.e3.2.1 (t1.1.getD 0)).e3)],Res.cells g7 111 [.rf (ptrV ch1.2.1 t1.1) (ptrR ch1.2.1 t1.1)]]++MS1 (x1.1,t1.e3,x1.e3,t1.e5,t1.e6,t1.t6) (ch_0.1,ch_0.2.1,ch_0.e3,ch1.1,ch1.2.1,ch1.e3,ch1.e4,ch1.e5,ch1.e6,ch1.e7,ch1.e8,ch1.e9,ch1.e10,ch1.e11,ch1.e12,ch1.t12)) a w→fg9_.j1 x1 t1=some r→K1 a w:=by
  intro m g5 g6 g7 a w S h0
  delta fg9_.j1 at h0
  refine hK1 a w (c_region (s_mv1 S rfl fun a S=>?_))
  replace S:=S.freeze .h1
  obtain ⟨m,le1,S⟩:=S
  replace S:=S.freeze .h
  obtain ⟨m,le1,S⟩:=S
  replace S:=S.freeze .h2
  obtain ⟨m,le1,S⟩:=S
  replace S:=S.slotAt (u:=5) (g:=g6) (t:=4) (T:=Ty.bool) (x:=(atE t1.e3.2.1 (t1.1.getD 0)).e3) (c:=(():(Ty.bool).Ch)) .h1 rfl rfl
  replace S:=S.slotAt (u:=6) (g:=g5) (t:=107) (T:=(Ty.mid ch1.e3)) (x:=(atE t1.e3.2.1 (t1.1.getD 0)).e4) (c:=(():((Ty.mid ch1.e3)).Ch)) .h rfl rfl
  replace S:=S.slotAt (u:=4) (g:=g7) (t:=111) (T:=(Ty.pid ch1.2.1)) (x:=t1.1) (c:=(():((Ty.pid ch1.2.1)).Ch)) .h2 rfl rfl
  refine s_mkFn S (ds:=[(.pt ⟨g6,0,none⟩ (At Ty.bool ⟨g6,0,none⟩ ((atE t1.e3.2.1 (t1.1.getD 0)).e3))),(.pt ⟨g5,0,none⟩ (At (Ty.mid ch1.e3) ⟨g5,0,none⟩ ((atE t1.e3.2.1 (t1.1.getD 0)).e4))),(.pt ⟨g7,0,none⟩ (At (Ty.pid ch1.2.1) ⟨g7,0,none⟩ t1.1))]) rfl rfl fun a S=>?_
  replace S:=S.slotFn (u:=21) (V:=cloV) (R:=cloR ch_0.1 ch1.2.1 ch1.e3 ch1.e4) (Clo.c77 ((atE t1.e3.2.1 (t1.1.getD 0)).e3) ((atE t1.e3.2.1 (t1.1.getD 0)).e4) t1.1) ([⟨g6,0,none⟩,⟨g5,0,none⟩,⟨g7,0,none⟩]:List Addr) rfl (fun h=>⟨h.1.1,h.2.1.1,h.2.2.1.1,tv⟩) (cloM _ _ _ _ _ _) rfl
  replace S:=S.slot (u:=5) (d':= .v (.pointer (ad g6))) rfl rfl rfl
  replace S:=S.slot (u:=6) (d':= .v (.pointer (ad g5))) rfl rfl rfl
  replace S:=S.slot (u:=4) (d':= .v (.pointer (ad g7))) rfl rfl rfl
  refine bindX h0 fun t2 et2 h1=>s_callK S (fd1_.ok (ch_0:=(ch_0.1,ch_0.2.1,ch_0.e3,ch1.1,ch1.2.1,ch1.e3,ch1.e4,ch1.e5,ch1.e6,ch1.e7,ch1.e8,ch1.e9,ch1.e10,ch1.e11,ch1.e12,ch1.t12)) et2) N68 rfl (.sk (.sk (.sk .pre))) (fun _=> .c8) rfl fun ch3 m le1 a w S=>c_end ?_
  have hl1:=S.froPlt (s1:=[]) (s2:=[]) c1 .h10
  replace S:=S.froP (s1:=[]) (s2:=[]) c1 .h10
  replace S:=S.famOpen (i:=(t1.1.getD 0)) hl1 .h2
  have hS:=S.structOpen (T:=(YE110 ch1.e3 ch1.e4)) (fun _=> .h) (((),(),(),(none,0),(none,0)),((),(),(),(none,0),(none,0)),(),(),(),(),())
  clear S; obtain ⟨ch4,S⟩:=hS
  refine c_heldS S (.take 0 (.take 1 (.take 3 (.take 4 (.alts (.run 2 true (.alts (.run 5 true (.take 6 (.take 7 (.alts (.run 8 false .done .nil)))) .nil)) (.run 5 true (.alts (.run 2 true (.take 6 (.take 7 (.alts (.run 8 false .done .nil)))) .nil)) .nil))))))) 8 [Res.fro g7 111 [.one (.pointer (some ⟨(bAt ch1.2.1 (t1.1.getD 0)),0,none⟩))]] (.c11 .n) ⟨Res.stay_fro,tv⟩ [(4,(.p g7))] ⟨rfl,tv⟩ (by kernel_rfl) (by kernel_rfl) fun w S CL hw le=>?_
  refine h_load1F S CL hw le ⟨rfl,tv⟩ rfl .h T111 (v:=(.pointer (some ⟨(bAt ch1.2.1 (t1.1.getD 0)),0,none⟩))) rfl rfl rfl tv fun a S CL=>h_load1F S CL hw le (subR rfl) rfl .h T111 (v:=(.pointer (some ⟨(bAt ch1.2.1 (t1.1.getD 0)),0,none⟩))) rfl rfl rfl tv fun a S CL=>h_nilchk S CL hw le (subR rfl) rfl rfl rfl rfl tv fun a S CL=>h_fieldAddr S CL hw le (subR rfl) rfl I110_2 T4 (by decide) rfl rfl rfl tv fun a S CL=>h_alts ?_
  refine h_runO S rfl tv ?_ ?_
  ·refine s_makeMap S true (Ty.arr .u64 4) true (Ty.arr .u64 4) rfl fun g8 a w S=>CL.bk hw S (.c12 .n) le fun hw=>h_run' S rfl tv (s_storeJ S 10 rfl rfl rfl rfl .h1 T4 rfl rfl fun w S=>CL.bk hw S (.c12 .n) le fun hw=>h_nilchk S CL hw le (subR rfl) rfl rfl rfl rfl tv fun a S CL=>h_fieldAddr S CL hw le (subR rfl) rfl I110_3 T107 (by decide) rfl rfl rfl tv fun a S CL=>h_run' S rfl tv (s_storeJ S 11 rfl rfl rfl rfl .h1 T107 rfl rfl fun w S=>?_))
   refine h_back ⟨fun h=>(nomatch h),?_⟩
   refine h_done ?_; clear CL hw le
   have hS:=S.famAdd .h .h4
   clear S; obtain ⟨S,hn1⟩:=hS
   replace S:=S.cellMid (s1:=[.b20 (((atE t1.e3.2.1 (t1.1.getD 0)).1).1), .w (((atE t1.e3.2.1 (t1.1.getD 0)).1).2.1), .w4 (((atE t1.e3.2.1 (t1.1.getD 0)).1).e3), .q yb ch4.1.e4.1 ch4.1.e4.2 (((atE t1.e3.2.1 (t1.1.getD 0)).1).e4), .q Y83 ch4.1.e5 ch4.1.t5 (((atE t1.e3.2.1 (t1.1.getD 0)).1).t4), .b20 (((atE t1.e3.2.1 (t1.1.getD 0)).2.1).1), .w (((atE t1.e3.2.1 (t1.1.getD 0)).2.1).2.1), .w4 (((atE t1.e3.2.1 (t1.1.getD 0)).2.1).e3), .q yb ch4.2.1.e4.1 ch4.2.1.e4.2 (((atE t1.e3.2.1 (t1.1.getD 0)).2.1).e4), .q Y83 ch4.2.1.e5 ch4.2.1.t5 (((atE t1.e3.2.1 (t1.1.getD 0)).2.1).t4), .b true]) (s2:=[.b ((atE t1.e3.2.1 (t1.1.getD 0)).e5), .b ((atE t1.e3.2.1 (t1.1.getD 0)).e6), .rf (.map (some (bAt ch1.e4 ((atE t1.e3.2.1 (t1.1.getD 0)).t6)))) (ltR ((atE t1.e3.2.1 (t1.1.getD 0)).t6) ch1.e4)]) (bAt_last _ _ hn1) (by rw [hn1]; simp) .h
   replace S:=S.famSub (F':=Res.struct (YE110 (ch1.e3++[g8]) ch1.e4) 110) (hF':=one_struct _ _) (fun _ _ _ _ h=>struct_sub (YS110_0 ch1.e3 ch1.e4 g8) _ _ _ _ _ h) .h3
   replace S:=S.rowSub (YCs_1 ch_0.1 ch1.2.1 ch1.e3 ch1.e4 g8) .h7
   replace S:=S.structClose (T:=(YE110 (ch1.e3++[g8]) ch1.e4)) (e:=((atE t1.e3.2.1 (t1.1.getD 0)).1,(atE t1.e3.2.1 (t1.1.getD 0)).2.1,true,t1.e3.e3.length,(atE t1.e3.2.1 (t1.1.getD 0)).e5,(atE t1.e3.2.1 (t1.1.getD 0)).e6,(atE t1.e3.2.1 (t1.1.getD 0)).t6)) (ch4:((YE110 (ch1.e3++[g8]) ch1.e4)).Ch) rfl .h
   replace S:=S.famClose hl1 .h .h2
   replace S:=S.slotPx (u:=28) c1 hl1 rfl
   replace S:=S.slotPx (u:=26) c1 hl1 rfl
   replace S:=S.slotPx (u:=24) c1 hl1 rfl
   replace S:=S.slotPx (u:=23) c1 hl1 rfl
   replace S:=S.froPB (x:=t1.1) (G:=ch1.2.1) (s1:=[]) (s2:=[]) c1 hl1 .h10
   refine b_end ?_
   obtain rfl:=sI h1
   exact b_ret0 S rfl (S.retX (Hx:=[]) hb _ _ ((ch1.1,ch1.2.1,(ch1.e3++[g8]),ch1.e4,ch1.e5,ch1.e6,ch1.e7,ch3.1,ch3.2.1,ch3.t2,ch1.e11,ch1.e12,ch1.t12):W7) (.c0 (.c0 (.c0 (.c0 (.c0 (.c0 (.c0 (.c0 .n)))))))) tv)
  refine h_runO S rfl tv ?_ ?_
  ·refine s_storeJ S 10 rfl rfl rfl rfl .h T4 rfl rfl fun w S=>CL.bk hw S (.c11 .n) le fun hw=>h_run' S rfl tv (s_makeMap S true (Ty.arr .u64 4) true (Ty.arr .u64 4) rfl fun g8 a w S=>CL.bk hw S (.c12 .n) le fun hw=>h_nilchk S CL hw le (subR rfl) rfl rfl rfl rfl tv fun a S CL=>h_fieldAddr S CL hw le (subR rfl) rfl I110_3 T107 (by decide) rfl rfl rfl tv fun a S CL=>h_run' S rfl tv (s_storeJ S 11 rfl rfl rfl rfl .h1 T107 rfl rfl fun w S=>?_))
   refine h_back ⟨fun h=>(nomatch h),?_⟩
   refine h_done ?_; clear CL hw le
   have hS:=S.famAdd .h .h4
   clear S; obtain ⟨S,hn1⟩:=hS
   replace S:=S.cellMid (s1:=[.b20 (((atE t1.e3.2.1 (t1.1.getD 0)).1).1), .w (((atE t1.e3.2.1 (t1.1.getD 0)).1).2.1), .w4 (((atE t1.e3.2.1 (t1.1.getD 0)).1).e3), .q yb ch4.1.e4.1 ch4.1.e4.2 (((atE t1.e3.2.1 (t1.1.getD 0)).1).e4), .q Y83 ch4.1.e5 ch4.1.t5 (((atE t1.e3.2.1 (t1.1.getD 0)).1).t4), .b20 (((atE t1.e3.2.1 (t1.1.getD 0)).2.1).1), .w (((atE t1.e3.2.1 (t1.1.getD 0)).2.1).2.1), .w4 (((atE t1.e3.2.1 (t1.1.getD 0)).2.1).e3), .q yb ch4.2.1.e4.1 ch4.2.1.e4.2 (((atE t1.e3.2.1 (t1.1.getD 0)).2.1).e4), .q Y83 ch4.2.1.e5 ch4.2.1.t5 (((atE t1.e3.2.1 (t1.1.getD 0)).2.1).t4), .b true]) (s2:=[.b ((atE t1.e3.2.1 (t1.1.getD 0)).e5), .b ((atE t1.e3.2.1 (t1.1.getD 0)).e6), .rf (.map (some (bAt ch1.e4 ((atE t1.e3.2.1 (t1.1.getD 0)).t6)))) (ltR ((atE t1.e3.2.1 (t1.1.getD 0)).t6) ch1.e4)]) (bAt_last _ _ hn1) (by rw [hn1]; simp) .h
   replace S:=S.famSub (F':=Res.struct (YE110 (ch1.e3++[g8]) ch1.e4) 110) (hF':=one_struct _ _) (fun _ _ _ _ h=>struct_sub (YS110_0 ch1.e3 ch1.e4 g8) _ _ _ _ _ h) .h3
   replace S:=S.rowSub (YCs_1 ch_0.1 ch1.2.1 ch1.e3 ch1.e4 g8) .h7
   replace S:=S.structClose (T:=(YE110 (ch1.e3++[g8]) ch1.e4)) (e:=((atE t1.e3.2.1 (t1.1.getD 0)).1,(atE t1.e3.2.1 (t1.1.getD 0)).2.1,true,t1.e3.e3.length,(atE t1.e3.2.1 (t1.1.getD 0)).e5,(atE t1.e3.2.1 (t1.1.getD 0)).e6,(atE t1.e3.2.1 (t1.1.getD 0)).t6)) (ch4:((YE110 (ch1.e3++[g8]) ch1.e4)).Ch) rfl .h
   replace S:=S.famClose hl1 .h .h2
   replace S:=S.slotPx (u:=28) c1 hl1 rfl
   replace S:=S.slotPx (u:=26) c1 hl1 rfl
   replace S:=S.slotPx (u:=24) c1 hl1 rfl
   replace S:=S.slotPx (u:=23) c1 hl1 rfl
   replace S:=S.froPB (x:=t1.1) (G:=ch1.2.1) (s1:=[]) (s2:=[]) c1 hl1 .h10
   refine b_end ?_
   obtain rfl:=sI h1
   exact b_ret0 S rfl (S.retX (Hx:=[]) hb _ _ ((ch1.1,ch1.2.1,(ch1.e3++[g8]),ch1.e4,ch1.e5,ch1.e6,ch1.e7,ch3.1,ch3.2.1,ch3.t2,ch1.e11,ch1.e12,ch1.t12):W7) (.c0 (.c0 (.c0 (.c0 (.c0 (.c0 (.c0 (.c0 .n)))))))) tv)
  exact h_nil
 refine c_heldS S (.take 0 (.take 1 (.take 2 (.take 3 (.take 4 (.take 5 (.take 6 (.take 7 (.alts (.run 8 true (.alts (.run 9 true (.alts (.run 10 true (.alts (.run 11 false .done .nil)) .nil)) .nil)) (.run 9 true (.alts (.run 8 true (.alts (.run 10 true (.alts (.run 11 false .done .nil)) .nil)) .nil)) .nil))))))))))) 11 [Res.cells (bAt ch1.2.1 (t1.1.getD 0)) 110 [.b20 (((atE t1.e3.2.1 (t1.1.getD 0)).1).1), .w (((atE t1.e3.2.1 (t1.1.getD 0)).1).2.1), .w4 (((atE t1.e3.2.1 (t1.1.getD 0)).1).e3), .q yb ch2.1.e4.1 ch2.1.e4.2 (((atE t1.e3.2.1 (t1.1.getD 0)).1).e4), .q Y83 ch2.1.e5 ch2.1.t5 (((atE t1.e3.2.1 (t1.1.getD 0)).1).t4), .b20 (((atE t1.e3.2.1 (t1.1.getD 0)).2.1).1), .w (((atE t1.e3.2.1 (t1.1.getD 0)).2.1).2.1), .w4 (((atE t1.e3.2.1 (t1.1.getD 0)).2.1).e3), .q yb ch2.2.1.e4.1 ch2.2.1.e4.2 (((atE t1.e3.2.1 (t1.1.getD 0)).2.1).e4), .q Y83 ch2.2.1.e5 ch2.2.1.t5 (((atE t1.e3.2.1 (t1.1.getD 0)).2.1).t4), .b ((atE t1.e3.2.1 (t1.1.getD 0)).e3), .rf (.map (some (bAt ch1.e3 ((atE t1.e3.2.1 (t1.1.getD 0)).e4)))) (ltR ((atE t1.e3.2.1 (t1.1.getD 0)).e4) ch1.e3), .b ((atE t1.e3.2.1 (t1.1.getD 0)).e5), .b ((atE t1.e3.2.1 (t1.1.getD 0)).e6), .rf (.map (some (bAt ch1.e4 ((atE t1.e3.2.1 (t1.1.getD 0)).t6)))) (ltR ((atE t1.e3.2.1 (t1.1.getD 0)).t6) ch1.e4)],Res.cells g2 111 [.one (.pointer (some ⟨(bAt ch1.2.1 (t1.1.getD 0)),0,none⟩))]] (.c0 (.c0 .n)) ⟨Res.stay_cells,Res.stay_cells,tv⟩ [(4,(.p g2))] ⟨rfl,tv⟩ (by kernel_rfl) (by kernel_rfl) fun w S CL hw le=>?_
 refine h_load1 S CL hw le ⟨rfl,tv⟩ rfl .h1 T111 (v:=(.pointer (some ⟨(bAt ch1.2.1 (t1.1.getD 0)),0,none⟩))) rfl rfl rfl tv fun a S CL=>h_nilchk S CL hw le (subR rfl) rfl rfl rfl rfl tv fun a S CL=>h_fieldAddr S CL hw le (subR rfl) rfl I110_2 T4 (by decide) rfl rfl rfl tv fun a S CL=>h_load1 S CL hw le (subR rfl) rfl .h T4 (v:=(.bool ((atE t1.e3.2.1 (t1.1.getD 0)).e3))) rfl rfl rfl tv fun a S CL=>h_load1 S CL hw le (subR rfl) rfl .h1 T111 (v:=(.pointer (some ⟨(bAt ch1.2.1 (t1.1.getD 0)),0,none⟩))) rfl rfl rfl tv fun a S CL=>h_nilchk S CL hw le (subR rfl) rfl rfl rfl rfl tv fun a S CL=>h_fieldAddr S CL hw le (subR rfl) rfl I110_3 T107 (by decide) rfl rfl rfl tv fun a S CL=>h_loadM S CL hw le (subR rfl) rfl .h T107 (v:=(.map (some (bAt ch1.e3 ((atE t1.e3.2.1 (t1.1.getD 0)).e4))))) rfl rfl rfl tv fun a S CL=>h_alts ?_
 refine h_runO S rfl tv ?_ ?_
 ·refine s_alloc S Z4 rfl rfl rfl fun g9 a w S=>CL.bk hw S (.c1 (.c1 .n)) le fun hw=>h_run' S rfl tv (s_alloc S Z107 rfl rfl rfl fun g10 a w S=>CL.bk hw S (.c2 (.c2 .n)) le fun hw=>h_run' S rfl tv (s_storeJ S 0 rfl rfl rfl rfl .h1 T4 rfl rfl fun w S=>CL.bk hw S (.c2 (.c2 .n)) le fun hw=>h_run' S rfl tv (s_storeJ S 0 rfl rfl rfl rfl .h T107 rfl rfl fun w S=>?_)))
  refine h_back ⟨fun h=>(nomatch h),?_⟩
  refine h_done ?_; clear CL hw le
  replace S:=S.structClose (T:=(YE110 ch1.e3 ch1.e4)) (e:=atE t1.e3.2.1 (t1.1.getD 0)) (ch2:((YE110 ch1.e3 ch1.e4)).Ch) rfl .h2
  replace S:=S.famShut hl1 .h2 .h5
  replace S:=S.slotPx (u:=17) c1 hl1 rfl
  replace S:=S.slotPx (u:=16) c1 hl1 rfl
  replace S:=S.slotPx (u:=13) c1 hl1 rfl
  replace S:=S.slotPx (u:=12) c1 hl1 rfl
  replace S:=S.slotPx (u:=11) c1 hl1 rfl
  replace S:=S.cellPB (x:=t1.1) (G:=ch1.2.1) (s1:=[]) (s2:=[]) c1 hl1 .h2
  refine x_thenN ?_
  exact j1 _ g10 g9 g2 a w (S.sb rfl (.c0 (.c0 (.c0 (.c0 (.c0 (.c0 (.c0 (.c0 (.c0 (.c0 (.c0 .n)))))))))))) h2
 refine h_runO S rfl tv ?_ ?_
 ·refine s_alloc S Z107 rfl rfl rfl fun g9 a w S=>CL.bk hw S (.c1 (.c1 .n)) le fun hw=>h_run' S rfl tv (s_alloc S Z4 rfl rfl rfl fun g10 a w S=>CL.bk hw S (.c2 (.c2 .n)) le fun hw=>h_run' S rfl tv (s_storeJ S 0 rfl rfl rfl rfl .h T4 rfl rfl fun w S=>CL.bk hw S (.c2 (.c2 .n)) le fun hw=>h_run' S rfl tv (s_storeJ S 0 rfl rfl rfl rfl .h1 T107 rfl rfl fun w S=>?_)))
  refine h_back ⟨fun h=>(nomatch h),?_⟩
  refine h_done ?_; clear CL hw le
  replace S:=S.structClose (T:=(YE110 ch1.e3 ch1.e4)) (e:=atE t1.e3.2.1 (t1.1.getD 0)) (ch2:((YE110 ch1.e3 ch1.e4)).Ch) rfl .h2
  replace S:=S.famShut hl1 .h2 .h5
  replace S:=S.slotPx (u:=17) c1 hl1 rfl
  replace S:=S.slotPx (u:=16) c1 hl1 rfl
  replace S:=S.slotPx (u:=13) c1 hl1 rfl
  replace S:=S.slotPx (u:=12) c1 hl1 rfl
  replace S:=S.slotPx (u:=11) c1 hl1 rfl
  replace S:=S.cellPB (x:=t1.1) (G:=ch1.2.1) (s1:=[]) (s2:=[]) c1 hl1 .h2
  refine x_thenN ?_
  exact j1 _ g9 g10 g2 a w (S.sb rfl (.c1 (.c0 (.c0 (.c0 (.c0 (.c0 (.c0 (.c0 (.c0 (.c0 (.c0 .n)))))))))))) h2
 exact h_nil
abbrev fb5_.Ty:Type:=ST37→(List Int)→Option ST37
def fb5_.Ctr (s:fb5_.Ty):Prop:=∀ {x1:ST37} {x2:List Int} {ch_0_0:(Option Addr×Nat)×(Option Addr×Nat)×(Option Addr×Nat)×(Option Addr×Nat)×Unit×(Option Addr×Nat)×Unit×(Option Addr×Nat)} {r:ST37} (h0:s x1 x2=some r) {mi:Mem} {w0:World},CtrB Tryz.prog 42 [(.agg (SY37.segs x1 ch_0_0)),(.agg [.b20 x2])] [] (fun (ch:W21)=>((.agg (SY37.segs r ch)):D)) (fun (ch:W21)=>[]) mi w0
def fb5_.f (k:Nat)(x1:ST37)(x2:List Int):Option ST37:=(fd4_.f k x1 x2).bind fun t1=>((fb6_.f k x1 ((t1.1.1,t1.1.2.1,t1.1.2.2.1,t1.1.2.2.2.1,([]:List ((List Int)×(List Int)))),true,t1.2.2)).bind fun t2=>(some t2))
theorem fb5_.ok (k:Nat):fb5_.Ctr (fb5_.f k):=by
 intro x1 x2 ch_0_0 r h0 mi w0 ok hm
 delta fb5_.f at h0
 refine c_enterZ (n:=16) ok hm func42 rfl rfl rfl fun b0 hb a S=>c_region (s_box S rfl rfl rfl fun g1 a w S=>s_box S rfl rfl rfl fun g2 a w S=>s_alloc S Z37 rfl ⟨rfl,rfl,rfl,rfl,rfl,rfl,rfl,rfl,tv⟩ rfl fun g3 a w S=>c_end (c_region (s_loada S rfl .h2 T37 (s':=(SY37.segs x1 ch_0_0)) rfl rfl fun a S=>s_loada S rfl .h1 T40 (s':=[.b20 x2]) rfl rfl fun a S=>bindX h0 fun t1 et1 h1=>s_callK S (fd4_.ok k (ch_0_0:=ch_0_0) et1) N64 rfl .pre (fun _=> .n) rfl fun ch1 m le1 a w S=>s_alloc S Z122 rfl ⟨rfl,rfl,rfl,rfl,rfl,rfl,rfl,tv⟩ rfl fun g4 a w S=>s_store S rfl rfl rfl (s':=(Y122.segs t1 (((),(),(),(ch1.1,ch1.2.1),ch1.t2),(),()))) .h T122 rfl rfl fun w S=>c_end (c_region (s_fieldAddr S rfl I122_1 T4 (by decide) rfl rfl fun a S=>s_storeJ S 5 rfl rfl rfl rfl .h T4 rfl rfl fun w S=>c_end (c_region (s_bldSl S (ty':=Y83) (ds:=[]) (z:=([0,0,0,0],[0,0,0,0])) (c0:=((),())) (ys:=([]:List ((List Int)×(List Int)))) (cs:=[]) rfl underlying69 J83 Z83 rfl ⟨rfl,rfl,tv⟩ rfl rfl rfl rfl rfl rfl fun g5 a w S=>s_fieldAddr S rfl I122_0 T71 (by decide) rfl rfl fun a S=>s_fieldAddr S rfl I71_4 T69 (by decide) rfl rfl fun a S=>s_storeJ S 4 rfl rfl rfl rfl .h1 T69 rfl rfl fun w S=>c_end (c_region (s_loada S rfl .h4 T37 (s':=(SY37.segs x1 ch_0_0)) rfl rfl fun a S=>s_loada S rfl .h1 T122 (s':=[.b20 t1.1.1, .w t1.1.2.1, .w4 t1.1.e3, .q yb ch1.1 ch1.2.1 t1.1.e4, .s (ad g5) 0 0, .b true, .b t1.t2]) rfl rfl fun a S=>?_)))))))))
 replace S:=S.rowfro .h
 obtain ⟨m,le1,S,hro⟩:=S
 replace S:=S.slotF 14 4 rfl rfl hro
 replace S:=S.slotro (u:=10) rfl hro
 replace S:=S.cellF 4 .h rfl hro
 refine bindX h1 fun t2 et2 h2=>s_callK S (fb6_.ok k (ch_0_0:=ch_0_0) et2) N74 rfl .pre (fun _=> .n) rfl fun ch2 m le1 a w S=>s_store S rfl rfl rfl (s':=(SY37.segs t2 ch2)) .h1 T37 rfl rfl fun w S=>c_end (wp_ret ?_)
 obtain rfl:=sI h2
 exact b_ret1 (d:=(.agg (SY37.segs t2 ch2))) S rfl (resD_cell rfl .h1 T37 rfl rfl) fun ok=>S.retX (Hx:=[]) hb _ _ (ch2:W21) .nil ok
end
end GW
