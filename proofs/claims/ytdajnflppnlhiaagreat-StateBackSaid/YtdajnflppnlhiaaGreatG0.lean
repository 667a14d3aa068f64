import Derived.Test.YtdajnflppnlhiaaGreatProg
import Derived.Test.YtdajnflppnlhiaaGreatGF
set_option linter.unusedVariables false
set_option linter.unusedSimpArgs false
set_option maxRecDepth 10000
set_option maxHeartbeats 4000000
namespace GW
open Go Go.RowKit Go.Proofs Go.Proofs.Tryz
noncomputable section
abbrev fh4_.Ty:Type:=W1→(List Int)→Option (List Int)
def fh4_.Ctr (s:fh4_.Ty):Prop:=∀ {x1:W1} {x2:List Int} {ch_0_0:Option Addr} {ch_0_1:Nat} {ch_0_2:Option Addr} {ch_0_3:Nat} {r:List Int} (h0:s x1 x2=some r) {mi:Mem} {w0:World},CtrB Tryz.prog 100 [(.agg (Y71.segs x1 ((),(),(),(ch_0_0,ch_0_1),(ch_0_2,ch_0_3)))),(.a4 x2)] [] (fun (ch:Unit)=>((.a4 r):D)) (fun (ch:Unit)=>[]) mi w0
def fh4_.j1:Option (List Int):=some [0,0,0,0]
def fh4_.b1 (x1:W1)(x2:List Int)(rec1:Int→Option (List Int))(y1:Int):Option (List Int):=if (decide (y1<((x1.2.2.2.2).length:Int)))=true then (if (0:Int)≤y1∧y1<((x1.2.2.2.2).length:Int) then (if (decide ((gt x1.2.2.2.2 y1).1=x2))=true then (some ((gt x1.2.2.2.2 y1).2)) else (rec1 (wr .i64 (y1+1)))) else none) else fh4_.j1
def fh4_.l1 (x1:W1)(x2:List Int):Nat→Int→Option (List Int)
  | 0,_=>none
  | q+1,y1=>fh4_.b1 x1 x2 (fh4_.l1 x1 x2 q) y1
def fh4_.f (k:Nat)(x1:W1)(x2:List Int):Option (List Int):=fh4_.l1 x1 x2 k 0
theorem fh4_.ok (k:Nat):fh4_.Ctr (fh4_.f k):=by
 intro x1 x2 ch_0_0 ch_0_1 ch_0_2 ch_0_3 r h0 mi w0 ok hm
 delta fh4_.f at h0
 refine c_enterZ (n:=28) ok hm func100 rfl rfl rfl fun b0 hb a S=>c_region (s_box S rfl rfl rfl fun g1 a w S=>s_box S rfl rfl rfl fun g2 a w S=>s_alloc S Z43 rfl ⟨rfl,tv⟩ rfl fun g3 a w S=>c_end (wp_seq_k fun K1 hK1=>?_))
 have j1:∀ m g13 a w,St 28 m b0 [(4,(.p g13))] [Res.cells g13 43 [.w4 [0,0,0,0]]] a w→fh4_.j1=some r→K1 a w:=by
  intro m g13 a w S h0
  delta fh4_.j1 at h0
  refine hK1 a w (c_region (s_build S (ds:=[]) (dv:=(.a4 [0,0,0,0])) rfl (fun _=>by kernel_rfl) ⟨rfl,tv⟩ rfl fun a S=>s_storeJ S 0 rfl rfl rfl rfl .h T43 rfl rfl fun w S=>c_end (wp_ret ?_)))
  obtain rfl:=sI h0
  exact b_ret1 (d:=(.a4 [0,0,0,0])) S rfl (resD_cell rfl .h T43 rfl rfl) (S.rt hb)
 refine c_region (s_fieldAddr S rfl I71_4 T69 (by decide) rfl rfl fun a S=>s_loadSl S rfl .h2 T69 (A:=ch_0_2) (len:=(x1.t4).length) (cap:=ch_0_3) rfl rfl fun a S=>s_lenS S rfl underlying69 rfl fun a S=>s_mv1 S rfl fun a S=>c_end (wp_block ?_))
 refine c_loop (fun q1 a w=>∃ m y1 g20 g21 g22,St 28 m b0 [(9,(.i y1)),(8,(.i ((x1.t4).length:Int))),(4,(.p g20)),(3,(.p g21)),(2,(.p g22))] [Res.cells g20 43 [.w4 [0,0,0,0]],Res.cells g21 43 [.w4 x2],Res.cells g22 71 (Y71.segs x1 ((),(),(),(ch_0_0,ch_0_1),(ch_0_2,ch_0_3)))] a w∧fh4_.l1 x1 x2 q1 y1=some r) ?_ ?_ (k:=k) ⟨_,0,g3,g2,g1,(S.sb rfl (.c0 (.c0 (.c0 .n)))),h0⟩
 ·rintro a w ⟨m,y1,g20,g21,g22,S,h0⟩
  exact (nomatch (show (none:Option (List Int))=some r from h0))
 ·clear S h0
  rintro q1 a w ⟨m,y1,g20,g21,g22,S,h0⟩
  replace h0:fh4_.b1 x1 x2 (fh4_.l1 x1 x2 q1) y1=some r:=h0
  delta fh4_.b1 at h0
  refine c_region (s_bi S rfl fun a S=>c_end (wp_seq ?_))
  rcases ite_of h0 with ⟨c1,h1⟩ | ⟨c1,h1⟩
  ·refine c_condT S rfl c1 (wp_skip (x_thenN (wp_seq (wp_block (c_region (s_mv1 S rfl fun a S=>s_as1 S rfl fun a S=>c_end ?_))))))
   refine wp_seq (c_hS S (.tk 0 8 .done) 8 (.c1 (.c1 .n)) ⟨Res.stay_cells,Res.stay_cells,tv⟩ [(5,(.i y1)),(3,(.p g21)),(2,(.p g22))] rfl (by kernel_rfl) ?_); clear S; intro w S CL hw le
   refine h_fieldAddr S CL hw le (subR rfl) rfl I71_4 T69 (by decide) rfl rfl rfl tv fun a S CL=>h_loadSl S CL hw le (subR rfl) rfl .h1 T69 (A:=ch_0_2) (len:=(x1.t4).length) (cap:=ch_0_3) rfl rfl rfl tv fun a S CL=>h_mv1 S CL hw le rfl tv fun a S CL=>?_
   obtain ⟨c2,h2⟩:=chk_of h1; clear h1
   refine h_iaddrS S CL hw le (subR rfl) rfl rfl rfl underlying69 T83 c2.1 c2.2 rfl rfl tv fun p1 a S CL=>h_faddrP S CL hw le (subR rfl) (tF:=(Ty.arr .u64 4)) (y:=(gt x1.t4 y1).1) rfl I83_0 T43 (by decide) (fun m h=>(at_fst (at_0 h))) rfl rfl tv fun a S CL=>h_ldA S CL hw le (subR rfl) (fun (c:Unit)=>[.w4 ((gt x1.t4 y1).1)]) rfl T43 (fun _=>rfl) rfl rfl tv fun ch1 a S CL=>?_
   refine h_loada S CL hw le (subR rfl) rfl .h T43 (s':=[.w4 x2]) rfl rfl rfl tv fun a S CL=>h_eqa S CL hw le (subR rfl) rfl rfl underlying43 underlying41 T41 Q43 rfl rfl tv fun a S CL=>?_
   refine h_done ?_; clear CL hw le
   refine x_thenN ?_
   rcases ite_of h2 with ⟨c3,h3⟩ | ⟨c3,h3⟩
   ·refine c_condT S rfl c3 (c_region (s_fieldAddr S rfl I71_4 T69 (by decide) rfl rfl fun a S=>s_loadSl S rfl .h2 T69 (A:=ch_0_2) (len:=(x1.t4).length) (cap:=ch_0_3) rfl rfl fun a S=>s_mv1 S rfl fun a S=>s_iaddrS S rfl rfl rfl underlying69 T83 c2.1 c2.2 rfl fun p2 a S=>s_faddrP S (tF:=(Ty.arr .u64 4)) (y:=(gt x1.t4 y1).2) rfl I83_1 T43 (by decide) (fun m h=>(at_snd (at_0 h))) rfl fun a S=>s_ldA S (fun (c:Unit)=>[.w4 ((gt x1.t4 y1).2)]) rfl T43 (fun _=>rfl) rfl fun ch2 a S=>?_))
    refine s_storeJ S 0 rfl rfl rfl rfl .h T43 rfl rfl fun w S=>c_end (wp_ret (x_blockR (x_thenR (x_thenR (x_blockR (x_thenR ?_))))))
    obtain rfl:=sI h3
    exact b_ret1 (d:=(.a4 ((gt x1.t4 y1).2))) S rfl (resD_cell rfl .h T43 rfl rfl) (S.rt hb)
   ·refine c_condF S rfl c3 (wp_skip (x_blockN (x_thenN (c_region' (s_bi S rfl fun a S=>s_mv1 S rfl fun a S=>c_end' (x_thenN ?_))))))
    exact ⟨_,(wr .i64 (y1+1)),g20,g21,g22,(S.sb rfl (.c0 (.c0 (.c0 .n)))),h3⟩
  ·refine c_condF S rfl c1 (wp_exit (x_thenX (x_thenX (x_blockX (x_thenN ?_)))))
   exact j1 _ g20 a w (S.sub ⟨rfl,tv⟩ (.c0 .n)) h1
abbrev fb6_.Ty:Type:=ST37→(List Int)→(List Int)→Option (List Int)
def fb6_.Ctr (s:fb6_.Ty):Prop:=∀ {x1:ST37} {x2:List Int} {x3:List Int} {ch_0_0:(Option Addr×Nat)×(Option Addr×Nat)×(Option Addr×Nat)×(Option Addr×Nat)×Unit×(Option Addr×Nat)×Unit×(Option Addr×Nat)} {r:List Int} (h0:s x1 x2 x3=some r) {mi:Mem} {w0:World},CtrB Tryz.prog 66 [(.agg (SY37.segs x1 ch_0_0)),(.agg [.b20 x2]),(.a4 x3)] [] (fun (ch:Unit)=>((.a4 r):D)) (fun (ch:Unit)=>[]) mi w0
def fb6_.f (k:Nat)(x1:ST37)(x2:List Int)(x3:List Int):Option (List Int):=(fd9_.f k x1 x2).bind fun t1=>((fh4_.f k t1.1 x3).bind fun t2=>(some t2))
theorem fb6_.ok (k:Nat):fb6_.Ctr (fb6_.f k):=by
 intro x1 x2 x3 ch_0_0 r h0 mi w0 ok hm
 delta fb6_.f at h0
 refine c_enterZ (n:=13) ok hm func66 rfl rfl rfl fun b0 hb a S=>c_region (s_box S rfl rfl rfl fun g1 a w S=>s_box S rfl rfl rfl fun g2 a w S=>s_box S rfl rfl rfl fun g3 a w S=>s_alloc S Z43 rfl ⟨rfl,tv⟩ rfl fun g4 a w S=>c_end ?_)
 refine wp_seq (c_hS S (.take 0 (.take 1 (.take 4 (.alts (.run 2 true (.alts (.run 3 true (.alts (.run 5 true (.alts (.run 6 false .done .nil)) .nil)) .nil)) .nil))))) 6 (.c1 (.c1 (.c1 .n))) ⟨Res.stay_cells,Res.stay_cells,Res.stay_cells,tv⟩ [(5,(.p g3)),(4,(.p g2)),(3,(.p g1))] rfl (by kernel_rfl) ?_); clear S; intro w S CL hw le
 refine h_loada S CL hw le (subR rfl) rfl .h2 T37 (s':=(SY37.segs x1 ch_0_0)) rfl rfl rfl tv fun a S CL=>h_loada S CL hw le (subR rfl) rfl .h1 T40 (s':=[.b20 x2]) rfl rfl rfl tv fun a S CL=>h_loada S CL hw le (subR rfl) rfl .h T43 (s':=[.w4 x3]) rfl rfl rfl tv fun a S CL=>h_run' S rfl tv (bindX h0 fun t1 et1 h1=>s_callK S (fd9_.ok k (ch_0_0:=ch_0_0) et1) N64 rfl .pre (fun _=> .n) rfl fun ch1 m le1 a w S=>?_)
 replace le:=le.trans le1
 refine CL.bk hw S (.c1 (.c1 (.c1 .n))) le fun hw=>h_run' S rfl tv (s_fielda S rfl I122_0 T71 (s':=(Y71.segs t1.1 ((),(),(),(ch1.1,ch1.2.1),ch1.t2))) rfl rfl fun a S=>CL.bk hw S (.c1 (.c1 (.c1 .n))) le fun hw=>h_run' S rfl tv (bindX h1 fun t2 et2 h2=>s_callK S (fh4_.ok k et2) N100 rfl .pre (fun _=> .n) rfl fun ch2 m le1 a w S=>?_))
 replace le:=le.trans le1
 refine CL.bk hw S (.c1 (.c1 (.c1 .n))) le fun hw=>h_run' S rfl tv (s_store S rfl rfl rfl (s':=[.w4 t2]) .h T43 rfl rfl fun w S=>?_)
 refine h_back ⟨fun h=>(nomatch h),?_⟩
 refine h_done ?_; clear CL hw le
 refine x_thenN (wp_ret ?_)
 obtain rfl:=sI h2
 exact b_ret1 (d:=(.a4 t2)) S rfl (resD_cell rfl .h T43 rfl rfl) (S.rt hb)
abbrev fb1_.Ty:Type:=ST37→(List Int)→(List Int)→Option (List Int)
def fb1_.Ctr (s:fb1_.Ty):Prop:=∀ {x1:ST37} {x2:List Int} {x3:List Int} {ch_0_0:(Option Addr×Nat)×(Option Addr×Nat)×(Option Addr×Nat)×(Option Addr×Nat)×Unit×(Option Addr×Nat)×Unit×(Option Addr×Nat)} {r:List Int} (h0:s x1 x2 x3=some r) {mi:Mem} {w0:World},CtrB Tryz.prog 67 [(.agg (SY37.segs x1 ch_0_0)),(.agg [.b20 x2]),(.a4 x3)] [] (fun (ch:Unit)=>((.a4 r):D)) (fun (ch:Unit)=>[]) mi w0
def fb1_.f (k:Nat)(x1:ST37)(x2:List Int)(x3:List Int):Option (List Int):=(fd9_.f k x1 x2).bind fun t1=>(if t1.2.1=true then (some [0,0,0,0]) else ((fb7_.f k x1 x2).bind fun t2=>((fh4_.f k t2 x3).bind fun t3=>(some t3))))
theorem fb1_.ok (k:Nat):fb1_.Ctr (fb1_.f k):=by
 intro x1 x2 x3 ch_0_0 r h0 mi w0 ok hm
 delta fb1_.f at h0
 refine c_enterZ (n:=17) ok hm func67 rfl rfl rfl fun b0 hb a S=>c_region (s_box S rfl rfl rfl fun g1 a w S=>s_box S rfl rfl rfl fun g2 a w S=>s_box S rfl rfl rfl fun g3 a w S=>s_alloc S Z43 rfl ⟨rfl,tv⟩ rfl fun g4 a w S=>c_end (wp_seq (c_region (s_loada S rfl .h3 T37 (s':=(SY37.segs x1 ch_0_0)) rfl rfl fun a S=>s_loada S rfl .h2 T40 (s':=[.b20 x2]) rfl rfl fun a S=>bindX h0 fun t1 et1 h1=>s_callK S (fd9_.ok k (ch_0_0:=ch_0_0) et1) N64 rfl .pre (fun _=> .n) rfl fun ch1 m le1 a w S=>s_field1 S rfl I122_1 T4 (v:=(.bool t1.2.1)) rfl rfl fun a S=>c_end ?_))))
 rcases ite_of h1 with ⟨c1,h2⟩ | ⟨c1,h2⟩
 ·refine c_condT S rfl c1 (c_region (s_build S (ds:=[]) (dv:=(.a4 [0,0,0,0])) rfl (fun _=>by kernel_rfl) ⟨rfl,tv⟩ rfl fun a S=>s_storeJ S 0 rfl rfl rfl rfl .h T43 rfl rfl fun w S=>c_end (wp_ret (x_thenR ?_))))
  obtain rfl:=sI h2
  exact b_ret1 (d:=(.a4 [0,0,0,0])) S rfl (resD_cell rfl .h T43 rfl rfl) (S.rt hb)
 ·refine c_condF S rfl c1 (wp_skip (x_thenN ?_))
  refine wp_seq (c_hS S (.take 0 (.take 1 (.take 3 (.alts (.run 2 true (.alts (.run 4 true (.alts (.run 5 false .done .nil)) .nil)) .nil))))) 5 (.c1 (.c1 (.c1 .n))) ⟨Res.stay_cells,Res.stay_cells,Res.stay_cells,tv⟩ [(5,(.p g3)),(4,(.p g2)),(3,(.p g1))] rfl (by kernel_rfl) ?_); clear S; intro w S CL hw le
  refine h_loada S CL hw le (subR rfl) rfl .h2 T37 (s':=(SY37.segs x1 ch_0_0)) rfl rfl rfl tv fun a S CL=>h_loada S CL hw le (subR rfl) rfl .h1 T40 (s':=[.b20 x2]) rfl rfl rfl tv fun a S CL=>h_loada S CL hw le (subR rfl) rfl .h T43 (s':=[.w4 x3]) rfl rfl rfl tv fun a S CL=>h_run' S rfl tv (bindX h2 fun t2 et2 h3=>s_callK S (fb7_.ok k (ch_0_0:=ch_0_0) et2) N87 rfl .pre (fun _=> .n) rfl fun ch2 m le1 a w S=>?_)
  replace le:=le.trans le1
  refine CL.bk hw S (.c1 (.c1 (.c1 .n))) le fun hw=>h_run' S rfl tv (bindX h3 fun t3 et3 h4=>s_callK S (fh4_.ok k et3) N100 rfl .pre (fun _=> .n) rfl fun ch3 m le1 a w S=>?_)
  replace le:=le.trans le1
  refine CL.bk hw S (.c1 (.c1 (.c1 .n))) le fun hw=>h_run' S rfl tv (s_store S rfl rfl rfl (s':=[.w4 t3]) .h T43 rfl rfl fun w S=>?_)
  refine h_back ⟨fun h=>(nomatch h),?_⟩
  refine h_done ?_; clear CL hw le
  refine x_thenN (wp_ret ?_)
  obtain rfl:=sI h4
  exact b_ret1 (d:=(.a4 t3)) S rfl (resD_cell rfl .h T43 rfl rfl) (S.rt hb)
abbrev fd2_.Ty:Type:=W2→(List Int)→Option W22
def fd2_.Ctr (s:fd2_.Ty):Prop:=∀ {x1:W2} {x2:List Int} {ch_0:W3} {r:W22} (h0:s x1 x2=some r) {mi:Mem} {w0:World},CtrB Tryz.prog 25 [(.v (.pointer (some ⟨ch_0.1,0,none⟩))),(.agg [.b20 x2])] (MS1 x1 ch_0) (fun (ch:W7)=>((.b r.1):D)) (fun (ch:W7)=>(MS1 (x1.1,r.e3,x1.e3,r.e5,r.e6,r.t6) (ch_0.1,ch_0.2.1,ch_0.e3,ch.1,ch.2.1,ch.e3,ch.e4,ch.e5,ch.e6,ch.e7,ch.e8,ch.e9,ch.e10,ch.e11,ch.e12,ch.t12))) mi w0
def fd2_.f (k:Nat)(x1:W2)(x2:List Int):Option W22:=(fi5_.f k x1 x2).bind fun t1=>(if t1.1.isSome=true then (some ((atE t1.2.2.1.2.1 (t1.1.getD 0)).2.2.2.2.1,((),t1.2.2.1,(),t1.2.2.2.2.1,t1.2.2.2.2.2.1,t1.2.2.2.2.2.2))) else none)
theorem fd2_.ok (k:Nat):fd2_.Ctr (fd2_.f k):=by
 intro x1 x2 ch_0 r h0 mi w0 ok hm
 delta fd2_.f at h0
 refine c_enterZ (n:=15) ok hm func25 rfl rfl rfl fun b0 hb a S=>c_region (s_box S rfl rfl rfl fun g1 a w S=>s_as1 S rfl fun a S=>c_end (c_region (s_mv1 S rfl fun a S=>s_nep S (b:=true) rfl rfl underlying26 rfl rfl fun a S=>s_mv1 S rfl fun a S=>s_gT S (b:=true) rfl rfl rfl (s_mv1 S rfl fun a S=>s_gT S (b:=true) rfl rfl rfl (s_loada S rfl .h T40 (s':=[.b20 x2]) rfl rfl fun a S=>s_gT S (b:=true) rfl rfl rfl (bindX h0 fun t1 et1 h1=>s_callK S (fi5_.ok k (ch_0:=ch_0) et1) N56 rfl (.sk .pre) (fun _=> .c8) rfl fun ch1 m le1 a w S=>s_gT S (b:=true) rfl rfl rfl ?_))))))
 obtain ⟨c1,h2⟩:=chk_of h1; clear h1
 have hl1:=S.slotPlt (u:=10) c1 rfl
 replace S:=S.slotP (u:=10) c1 rfl
 refine s_nilchk S rfl rfl fun a S=>s_gT S (b:=true) rfl rfl rfl (s_fieldAddr S rfl I110_4 T4 (by decide) rfl rfl fun a S=>s_gT S (b:=true) rfl rfl rfl ?_)
 replace S:=S.famOpen (i:=(t1.1.getD 0)) hl1 .h2
 have hS:=S.structOpen (T:=(YE110 ch1.e3 ch1.e4)) (fun _=> .h) (((),(),(),(none,0),(none,0)),((),(),(),(none,0),(none,0)),(),(),(),(),())
 clear S; obtain ⟨ch2,S⟩:=hS
 refine s_load1 S rfl .h T4 (v:=(.bool ((atE t1.e3.2.1 (t1.1.getD 0)).e5))) rfl rfl fun a S=>?_
 replace S:=S.structClose (T:=(YE110 ch1.e3 ch1.e4)) (e:=atE t1.e3.2.1 (t1.1.getD 0)) (ch2:((YE110 ch1.e3 ch1.e4)).Ch) rfl .h
 replace S:=S.famShut hl1 .h .h2
 refine s_pick S (b:=true) (hc_of rfl rfl) rfl rfl fun a S=>s_as1 S rfl fun a S=>c_end (wp_ret ?_)
 obtain rfl:=sI h2
 exact b_ret1 (d:=(.b ((atE t1.e3.2.1 (t1.1.getD 0)).e5))) S rfl rfl fun ok=>S.retX (Hx:=[]) hb _ _ (ch1:W7) (.c0 (.c0 (.c0 (.c0 (.c0 (.c0 (.c0 (.c0 .n)))))))) ok
abbrev fh0_.Ty:Type:=W2→ST37→(List Int)→(List Int)→Option W22
def fh0_.Ctr (s:fh0_.Ty):Prop:=∀ {x1:W2} {x2:ST37} {x3:List Int} {x4:List Int} {ch_0:W3} {ch_1_0:(Option Addr×Nat)×(Option Addr×Nat)×(Option Addr×Nat)×(Option Addr×Nat)×Unit×(Option Addr×Nat)×Unit×(Option Addr×Nat)} {r:W22} (h0:s x1 x2 x3 x4=some r) {mi:Mem} {w0:World},CtrB Tryz.prog 27 [(.v (.pointer (some ⟨ch_0.1,0,none⟩))),(.agg (SY37.segs x2 ch_1_0)),(.agg [.b20 x3]),(.a4 x4)] (MS1 x1 ch_0) (fun (ch:W7)=>((.b r.1):D)) (fun (ch:W7)=>(MS1 (x1.1,r.e3,x1.e3,r.e5,r.e6,r.t6) (ch_0.1,ch_0.2.1,ch_0.e3,ch.1,ch.2.1,ch.e3,ch.e4,ch.e5,ch.e6,ch.e7,ch.e8,ch.e9,ch.e10,ch.e11,ch.e12,ch.t12))) mi w0
def fh0_.f (k:Nat)(x1:W2)(x2:ST37)(x3:List Int)(x4:List Int):Option W22:=(fd9_.f k x2 x3).bind fun t1=>((fg1_.f k x1 x3).bind fun t2=>((fb5_.f k x2 x3).bind fun t3=>(if (t2.1==t3)=true then ((ff9_.f k (x1.1,t2.2.2.1,x1.2.2.1,t2.2.2.2.2.1,t2.2.2.2.2.2.1,t2.2.2.2.2.2.2) x3).bind fun t4=>(if (t4.1==t1.1.2.1)=true then ((fe9_.f k (x1.1,t4.2.2.1,x1.2.2.1,t4.2.2.2.2.1,t4.2.2.2.2.2.1,t4.2.2.2.2.2.2) x3).bind fun t5=>(if (decide (t5.1=t1.1.2.2.1))=true then ((fh7_.f k (x1.1,t5.2.2.1,x1.2.2.1,t5.2.2.2.2.1,t5.2.2.2.2.2.1,t5.2.2.2.2.2.2) x3).bind fun t6=>(if ((bstr t6.1).toList==(bstr t1.1.2.2.2.1).toList)=true then ((fh1_.f k (x1.1,t6.2.2.1,x1.2.2.1,t6.2.2.2.2.1,t6.2.2.2.2.2.1,t6.2.2.2.2.2.2) x3 x4).bind fun t7=>((fb6_.f k x2 x3 x4).bind fun t8=>(if (decide (t7.1=t8))=true then ((fg0_.f k (x1.1,t7.2.2.1,x1.2.2.1,t7.2.2.2.2.1,t7.2.2.2.2.2.1,t7.2.2.2.2.2.2) x3 x4).bind fun t9=>((fb1_.f k x2 x3 x4).bind fun t10=>(if (decide (t9.1=t10))=true then ((fd2_.f k (x1.1,t9.2.2.1,x1.2.2.1,t9.2.2.2.2.1,t9.2.2.2.2.2.1,t9.2.2.2.2.2.2) x3).bind fun t11=>(some (t11.1==t1.2.2,((),t11.2.2.1,(),t11.2.2.2.2.1,t11.2.2.2.2.2.1,t11.2.2.2.2.2.2)))) else (some (false,((),t9.2.2.1,(),t9.2.2.2.2.1,t9.2.2.2.2.2.1,t9.2.2.2.2.2.2)))))) else (some (false,((),t7.2.2.1,(),t7.2.2.2.2.1,t7.2.2.2.2.2.1,t7.2.2.2.2.2.2)))))) else (some (false,((),t6.2.2.1,(),t6.2.2.2.2.1,t6.2.2.2.2.2.1,t6.2.2.2.2.2.2))))) else (some (false,((),t5.2.2.1,(),t5.2.2.2.2.1,t5.2.2.2.2.2.1,t5.2.2.2.2.2.2))))) else (some (false,((),t4.2.2.1,(),t4.2.2.2.2.1,t4.2.2.2.2.2.1,t4.2.2.2.2.2.2))))) else (some (false,((),t2.2.2.1,(),t2.2.2.2.2.1,t2.2.2.2.2.2.1,t2.2.2.2.2.2.2))))))
theorem fh0_.ok (k:Nat):fh0_.Ctr (fh0_.f k):=by
 intro x1 x2 x3 x4 ch_0 ch_1_0 r h0 mi w0 ok hm
 delta fh0_.f at h0
 refine c_enterZ (n:=79) ok hm func27 rfl rfl rfl fun b0 hb a S=>c_region (s_box S rfl rfl rfl fun g1 a w S=>s_box S rfl rfl rfl fun g2 a w S=>s_box S rfl rfl rfl fun g3 a w S=>s_as1 S rfl fun a S=>c_end (c_region (s_loada S rfl .h2 T37 (s':=(SY37.segs x2 ch_1_0)) rfl rfl fun a S=>s_loada S rfl .h1 T40 (s':=[.b20 x3]) rfl rfl fun a S=>bindX h0 fun t1 et1 h1=>s_callK S (fd9_.ok k (ch_0_0:=ch_1_0) et1) N64 rfl .pre (fun _=> .n) rfl fun ch1 m le1 a w S=>s_alloc S Z122 rfl ⟨rfl,rfl,rfl,rfl,rfl,rfl,rfl,tv⟩ rfl fun g4 a w S=>s_store S rfl rfl rfl (s':=(Y122.segs t1 (((),(),(),(ch1.1,ch1.2.1),ch1.t2),(),()))) .h T122 rfl rfl fun w S=>c_end ?_)))
 refine wp_seq (c_hS S (.take 0 (.take 1 (.take 3 (.take 4 (.alts (.run 2 true (.alts (.run 5 true (.tk 6 4 (.tk 11 3 (.alts (.run 10 true (.tk 14 5 (.tk 20 3 (.alts (.run 19 true (.tk 23 5 (.tk 30 4 (.alts (.run 28 true (.alts (.run 29 true (.tk 34 6 (.tk 41 3 (.alts (.run 40 true (.alts (.run 44 true (.tk 45 6 (.tk 52 3 (.alts (.run 51 true (.alts (.run 55 true (.tk 56 5 (.take 62 (.take 63 (.alts (.run 61 true (.tk 64 3 .done) .nil))))) .nil)) .nil)))) .nil)) .nil)))) .nil)) .nil)))) .nil)))) .nil)))) .nil)) .nil)))))) 67 (.c0 (.c0 (.c0 (.c0 .n)))) ⟨Res.stay_cells,Res.stay_cells,Res.stay_cells,Res.stay_cells,tv⟩ [(9,(.p g4)),(7,(.p g3)),(6,(.p g2)),(5,(.p g1)),(0,(.v (.pointer (some ⟨ch_0.1,0,none⟩))))] rfl (by kernel_rfl) ?_); clear S; intro w S CL hw le
 refine h_mv1 S CL hw le rfl tv fun a S CL=>h_loada S CL hw le (subR rfl) rfl .h2 T40 (s':=[.b20 x3]) rfl rfl rfl tv fun a S CL=>h_loada S CL hw le (subR rfl) rfl .h3 T37 (s':=(SY37.segs x2 ch_1_0)) rfl rfl rfl tv fun a S CL=>h_loada S CL hw le (subR rfl) rfl .h2 T40 (s':=[.b20 x3]) rfl rfl rfl tv fun a S CL=>h_run' S rfl tv (bindX h1 fun t2 et2 h2=>s_callK S (fg1_.ok k (ch_0:=ch_0) et2) N17 rfl (.sk (.sk (.sk (.sk .pre)))) (fun _=> .c8) rfl fun ch2 m le1 a w S=>?_)
 replace le:=le.trans le1
 refine CL.bk hw S (.c8 (.c8 (.c8 (.c8 .n)))) le fun hw=>?_
 replace CL:=CL.add (t:=15) (d:=(.b t2.1)) S rfl rfl
 refine h_run' S rfl tv (bindX h2 fun t3 et3 h3=>s_callK S (fb5_.ok k (ch_0_0:=ch_1_0) et3) N65 rfl .pre (fun _=> .n) rfl fun ch3 m le1 a w S=>?_)
 replace le:=le.trans le1
 refine CL.bk hw S (.c8 (.c8 (.c8 (.c8 .n)))) le fun hw=>?_
 replace CL:=CL.add (t:=18) (d:=(.b t3)) S rfl rfl
 refine h_eqb S CL hw le (subR rfl) rfl rfl underlying4 rfl rfl tv fun a S CL=>h_mv1 S CL hw le rfl tv fun a S CL=>?_
 rcases ite_of h3 with ⟨c1,h4⟩ | ⟨c1,h4⟩
 ·refine h_mv1 S CL hw le rfl ⟨_,_,rfl,rfl,c1⟩ fun a S CL=>h_loada S CL hw le (subR rfl) rfl .h2 T40 (s':=[.b20 x3]) rfl rfl rfl ⟨_,_,rfl,rfl,c1⟩ fun a S CL=>h_fieldAddr S CL hw le (subR rfl) rfl I122_0 T71 (by decide) rfl rfl rfl ⟨_,_,rfl,rfl,c1⟩ fun a S CL=>h_fieldAddr S CL hw le (subR rfl) rfl I71_1 T41 (by decide) rfl rfl rfl ⟨_,_,rfl,rfl,c1⟩ fun a S CL=>h_load1 S CL hw le (subR rfl) rfl .h T41 (v:=(.int .u64 t1.1.2.1)) rfl rfl rfl ⟨_,_,rfl,rfl,c1⟩ fun a S CL=>h_run' S rfl ⟨_,_,rfl,rfl,c1⟩ (bindX h4 fun t4 et4 h5=>s_callK S (ff9_.ok k (ch_0:=(ch_0.1,ch_0.2.1,ch_0.e3,ch2.1,ch2.2.1,ch2.e3,ch2.e4,ch2.e5,ch2.e6,ch2.e7,ch2.e8,ch2.e9,ch2.e10,ch2.e11,ch2.e12,ch2.t12)) et4) N18 rfl .pre (fun _=> .c8) rfl fun ch4 m le1 a w S=>?_)
  replace le:=le.trans le1
  refine CL.bk hw S (.c8 (.c8 (.c8 (.c8 .n)))) le fun hw=>?_
  replace CL:=CL.add (t:=23) (d:=(.w t4.1)) S rfl rfl
  refine h_bin S CL hw le (subR rfl) rfl rfl rfl rfl rfl ⟨_,_,rfl,rfl,c1⟩ fun a S CL=>h_pick S CL hw le (subR rfl) (b:=true) (hc_of rfl c1) rfl rfl rfl tv fun a S CL=>h_mv1 S CL hw le rfl tv fun a S CL=>?_
  rcases ite_of h5 with ⟨c2,h6⟩ | ⟨c2,h6⟩
  ·refine h_mv1 S CL hw le rfl ⟨_,_,rfl,rfl,c2⟩ fun a S CL=>h_loada S CL hw le (subR rfl) rfl .h2 T40 (s':=[.b20 x3]) rfl rfl rfl ⟨_,_,rfl,rfl,c2⟩ fun a S CL=>h_fieldAddr S CL hw le (subR rfl) rfl I122_0 T71 (by decide) rfl rfl rfl ⟨_,_,rfl,rfl,c2⟩ fun a S CL=>h_fieldAddr S CL hw le (subR rfl) rfl I71_2 T43 (by decide) rfl rfl rfl ⟨_,_,rfl,rfl,c2⟩ fun a S CL=>h_loada S CL hw le (subR rfl) rfl .h T43 (s':=[.w4 t1.1.e3]) rfl rfl rfl ⟨_,_,rfl,rfl,c2⟩ fun a S CL=>h_run' S rfl ⟨_,_,rfl,rfl,c2⟩ (bindX h6 fun t5 et5 h7=>s_callK S (fe9_.ok k (ch_0:=(ch_0.1,ch_0.2.1,ch_0.e3,ch4.1,ch4.2.1,ch4.e3,ch4.e4,ch4.e5,ch4.e6,ch4.e7,ch4.e8,ch4.e9,ch4.e10,ch4.e11,ch4.e12,ch4.t12)) et5) N19 rfl .pre (fun _=> .c8) rfl fun ch5 m le1 a w S=>?_)
   replace le:=le.trans le1
   refine CL.bk hw S (.c8 (.c8 (.c8 (.c8 .n)))) le fun hw=>?_
   replace CL:=CL.add (t:=32) (d:=(.a4 t5.1)) S rfl rfl
   refine h_eqa S CL hw le (subR rfl) rfl rfl underlying43 underlying41 T41 Q43 rfl rfl ⟨_,_,rfl,rfl,c2⟩ fun a S CL=>h_pick S CL hw le (subR rfl) (b:=true) (hc_of rfl c2) rfl rfl rfl tv fun a S CL=>h_mv1 S CL hw le rfl tv fun a S CL=>?_
   rcases ite_of h7 with ⟨c3,h8⟩ | ⟨c3,h8⟩
   ·refine h_mv1 S CL hw le rfl ⟨_,_,rfl,rfl,c3⟩ fun a S CL=>h_loada S CL hw le (subR rfl) rfl .h2 T40 (s':=[.b20 x3]) rfl rfl rfl ⟨_,_,rfl,rfl,c3⟩ fun a S CL=>h_fieldAddr S CL hw le (subR rfl) rfl I122_0 T71 (by decide) rfl rfl rfl ⟨_,_,rfl,rfl,c3⟩ fun a S CL=>h_fieldAddr S CL hw le (subR rfl) rfl I71_3 T44 (by decide) rfl rfl rfl ⟨_,_,rfl,rfl,c3⟩ fun a S CL=>h_loadSl S CL hw le (subR rfl) rfl .h T44 (A:=ch1.1) (len:=(t1.1.e4).length) (cap:=ch1.2.1) rfl rfl rfl ⟨_,_,rfl,rfl,c3⟩ fun a S CL=>h_strS S CL hw le (subR rfl) rfl rfl underlying44 underlying5 underlying9 rfl rfl ⟨_,_,rfl,rfl,c3⟩ fun a S CL=>h_run' S rfl ⟨_,_,rfl,rfl,c3⟩ (bindX h8 fun t6 et6 h9=>s_callK S (fh7_.ok k (ch_0:=(ch_0.1,ch_0.2.1,ch_0.e3,ch5.1,ch5.2.1,ch5.e3,ch5.e4,ch5.e5,ch5.e6,ch5.e7,ch5.e8,ch5.e9,ch5.e10,ch5.e11,ch5.e12,ch5.t12)) et6) N20 rfl .pre (fun _=> .c9) rfl fun ch6 m le1 a w S=>?_)
    replace le:=le.trans le1
    refine CL.bk hw S (.c9 (.c9 (.c9 (.c9 .n)))) le fun hw=>h_run' S rfl ⟨_,_,rfl,rfl,c3⟩ ?_
    replace S:=S.rowfro .h
    obtain ⟨m,le1,S,hro⟩:=S
    replace le:=le.trans le1
    replace S:=S.slotro (u:=41) rfl hro
    refine s_strS S rfl rfl underlying44 underlying5 underlying9 rfl fun a S=>CL.bk hw S (.c8 (.c8 (.c8 (.c8 .n)))) le fun hw=>?_
    replace CL:=CL.add (t:=42) (d:=(.v (.string (bstr t6.1)))) S rfl rfl
    refine h_eqT S CL hw le (subR rfl) rfl rfl rfl rfl ⟨_,_,rfl,rfl,c3⟩ fun a S CL=>h_pick S CL hw le (subR rfl) (b:=true) (hc_of rfl c3) rfl rfl rfl tv fun a S CL=>h_mv1 S CL hw le rfl tv fun a S CL=>?_
    rcases ite_of h9 with ⟨c4,h10⟩ | ⟨c4,h10⟩
    ·refine h_mv1 S CL hw le rfl ⟨_,_,rfl,rfl,c4⟩ fun a S CL=>h_loada S CL hw le (subR rfl) rfl .h2 T40 (s':=[.b20 x3]) rfl rfl rfl ⟨_,_,rfl,rfl,c4⟩ fun a S CL=>h_loada S CL hw le (subR rfl) rfl .h1 T43 (s':=[.w4 x4]) rfl rfl rfl ⟨_,_,rfl,rfl,c4⟩ fun a S CL=>h_loada S CL hw le (subR rfl) rfl .h3 T37 (s':=(SY37.segs x2 ch_1_0)) rfl rfl rfl ⟨_,_,rfl,rfl,c4⟩ fun a S CL=>h_loada S CL hw le (subR rfl) rfl .h2 T40 (s':=[.b20 x3]) rfl rfl rfl ⟨_,_,rfl,rfl,c4⟩ fun a S CL=>h_loada S CL hw le (subR rfl) rfl .h1 T43 (s':=[.w4 x4]) rfl rfl rfl ⟨_,_,rfl,rfl,c4⟩ fun a S CL=>h_run' S rfl ⟨_,_,rfl,rfl,c4⟩ (bindX h10 fun t7 et7 h11=>s_callK S (fh1_.ok k (ch_0:=(ch_0.1,ch_0.2.1,ch_0.e3,ch6.e4,ch6.e5,ch6.e6,ch6.e7,ch6.e8,ch6.e9,ch6.e10,ch6.e11,ch6.e12,ch6.e13,ch6.e14,ch6.e15,ch6.t15)) et7) N21 rfl .pre (fun _=> .c8) rfl fun ch7 m le1 a w S=>?_)
     replace le:=le.trans le1
     refine CL.bk hw S (.c8 (.c8 (.c8 (.c8 .n)))) le fun hw=>?_
     replace CL:=CL.add (t:=53) (d:=(.a4 t7.1)) S rfl rfl
     refine h_run' S rfl ⟨_,_,rfl,rfl,c4⟩ (bindX h11 fun t8 et8 h12=>s_callK S (fb6_.ok k (ch_0_0:=ch_1_0) et8) N66 rfl .pre (fun _=> .n) rfl fun ch8 m le1 a w S=>?_)
     replace le:=le.trans le1
     refine CL.bk hw S (.c8 (.c8 (.c8 (.c8 .n)))) le fun hw=>?_
     replace CL:=CL.add (t:=57) (d:=(.a4 t8)) S rfl rfl
     refine h_eqa S CL hw le (subR rfl) rfl rfl underlying43 underlying41 T41 Q43 rfl rfl ⟨_,_,rfl,rfl,c4⟩ fun a S CL=>h_pick S CL hw le (subR rfl) (b:=true) (hc_of rfl c4) rfl rfl rfl tv fun a S CL=>h_mv1 S CL hw le rfl tv fun a S CL=>?_
     rcases ite_of h12 with ⟨c5,h13⟩ | ⟨c5,h13⟩
     ·refine h_mv1 S CL hw le rfl ⟨_,_,rfl,rfl,c5⟩ fun a S CL=>h_loada S CL hw le (subR rfl) rfl .h2 T40 (s':=[.b20 x3]) rfl rfl rfl ⟨_,_,rfl,rfl,c5⟩ fun a S CL=>h_loada S CL hw le (subR rfl) rfl .h1 T43 (s':=[.w4 x4]) rfl rfl rfl ⟨_,_,rfl,rfl,c5⟩ fun a S CL=>h_loada S CL hw le (subR rfl) rfl .h3 T37 (s':=(SY37.segs x2 ch_1_0)) rfl rfl rfl ⟨_,_,rfl,rfl,c5⟩ fun a S CL=>h_loada S CL hw le (subR rfl) rfl .h2 T40 (s':=[.b20 x3]) rfl rfl rfl ⟨_,_,rfl,rfl,c5⟩ fun a S CL=>h_loada S CL hw le (subR rfl) rfl .h1 T43 (s':=[.w4 x4]) rfl rfl rfl ⟨_,_,rfl,rfl,c5⟩ fun a S CL=>h_run' S rfl ⟨_,_,rfl,rfl,c5⟩ (bindX h13 fun t9 et9 h14=>s_callK S (fg0_.ok k (ch_0:=(ch_0.1,ch_0.2.1,ch_0.e3,ch7.1,ch7.2.1,ch7.e3,ch7.e4,ch7.e5,ch7.e6,ch7.e7,ch7.e8,ch7.e9,ch7.e10,ch7.e11,ch7.e12,ch7.t12)) et9) N22 rfl .pre (fun _=> .c8) rfl fun ch9 m le1 a w S=>?_)
      replace le:=le.trans le1
      refine CL.bk hw S (.c8 (.c8 (.c8 (.c8 .n)))) le fun hw=>?_
      replace CL:=CL.add (t:=64) (d:=(.a4 t9.1)) S rfl rfl
      refine h_run' S rfl ⟨_,_,rfl,rfl,c5⟩ (bindX h14 fun t10 et10 h15=>s_callK S (fb1_.ok k (ch_0_0:=ch_1_0) et10) N67 rfl .pre (fun _=> .n) rfl fun ch10 m le1 a w S=>?_)
      replace le:=le.trans le1
      refine CL.bk hw S (.c8 (.c8 (.c8 (.c8 .n)))) le fun hw=>?_
      replace CL:=CL.add (t:=68) (d:=(.a4 t10)) S rfl rfl
      refine h_eqa S CL hw le (subR rfl) rfl rfl underlying43 underlying41 T41 Q43 rfl rfl ⟨_,_,rfl,rfl,c5⟩ fun a S CL=>h_pick S CL hw le (subR rfl) (b:=true) (hc_of rfl c5) rfl rfl rfl tv fun a S CL=>h_mv1 S CL hw le rfl tv fun a S CL=>?_
      rcases ite_of h15 with ⟨c6,h16⟩ | ⟨c6,h16⟩
      ·refine h_mv1 S CL hw le rfl ⟨_,_,rfl,rfl,c6⟩ fun a S CL=>h_loada S CL hw le (subR rfl) rfl .h2 T40 (s':=[.b20 x3]) rfl rfl rfl ⟨_,_,rfl,rfl,c6⟩ fun a S CL=>h_fieldAddr S CL hw le (subR rfl) rfl I122_2 T4 (by decide) rfl rfl rfl ⟨_,_,rfl,rfl,c6⟩ fun a S CL=>h_load1 S CL hw le (subR rfl) rfl .h T4 (v:=(.bool t1.t2)) rfl rfl rfl ⟨_,_,rfl,rfl,c6⟩ fun a S CL=>h_run' S rfl ⟨_,_,rfl,rfl,c6⟩ (bindX h16 fun t11 et11 h17=>s_callK S (fd2_.ok k (ch_0:=(ch_0.1,ch_0.2.1,ch_0.e3,ch9.1,ch9.2.1,ch9.e3,ch9.e4,ch9.e5,ch9.e6,ch9.e7,ch9.e8,ch9.e9,ch9.e10,ch9.e11,ch9.e12,ch9.t12)) et11) N25 rfl .pre (fun _=> .c8) rfl fun ch11 m le1 a w S=>?_)
       replace le:=le.trans le1
       refine CL.bk hw S (.c8 (.c8 (.c8 (.c8 .n)))) le fun hw=>?_
       replace CL:=CL.add (t:=74) (d:=(.b t11.1)) S rfl rfl
       refine h_eqb S CL hw le (subR rfl) rfl rfl underlying4 rfl rfl ⟨_,_,rfl,rfl,c6⟩ fun a S CL=>h_pick S CL hw le (subR rfl) (b:=true) (hc_of rfl c6) rfl rfl rfl tv fun a S CL=>h_assign S CL hw le (subR rfl) rfl rfl rfl tv fun a S CL=>?_
       refine h_done ?_; clear CL hw le
       refine x_thenN (wp_ret ?_)
       obtain rfl:=sI h17
       exact b_ret1 (d:=(.b (t11.1==t1.t2))) S rfl rfl fun ok=>S.retX (Hx:=[]) hb _ _ (ch11:W7) (.c0 (.c0 (.c0 (.c0 (.c0 (.c0 (.c0 (.c0 .n)))))))) ok
      ·refine h_sk4 S CL rfl (ne_bool c6) fun a S CL=>h_skipRt S rfl rfl rfl (ne_bool c6) rfl fun a S=>CL.bk hw S (.c8 (.c8 (.c8 (.c8 .n)))) le fun hw=>?_
       replace CL:=CL.add (t:=74) (d:= .u) S rfl rfl
       refine h_sk1 S CL rfl (ne_bool c6) fun a S CL=>h_pick S CL hw le (subR rfl) (b:=false) (hc_of rfl c6) rfl rfl rfl tv fun a S CL=>h_assign S CL hw le (subR rfl) rfl rfl rfl tv fun a S CL=>?_
       refine h_done ?_; clear CL hw le
       refine x_thenN (wp_ret ?_)
       obtain rfl:=sI h16
       exact b_ret1 (d:=(.b false)) S rfl rfl fun ok=>S.retX (Hx:=[]) hb _ _ (ch9:W7) (.c0 (.c0 (.c0 (.c0 (.c0 (.c0 (.c0 (.c0 .n)))))))) ok
     ·refine h_sk4 S CL rfl (ne_bool c5) fun a S CL=>h_sk2 S CL rfl (ne_bool c5) fun a S CL=>h_skipRt S rfl rfl rfl (ne_bool c5) rfl fun a S=>CL.bk hw S (.c8 (.c8 (.c8 (.c8 .n)))) le fun hw=>?_
      replace CL:=CL.add (t:=64) (d:= .u) S rfl rfl
      refine h_skipRt S rfl rfl rfl (ne_bool c5) rfl fun a S=>CL.bk hw S (.c8 (.c8 (.c8 (.c8 .n)))) le fun hw=>?_
      replace CL:=CL.add (t:=68) (d:= .u) S rfl rfl
      refine h_sk1 S CL rfl (ne_bool c5) fun a S CL=>h_pick S CL hw le (subR rfl) (b:=false) (hc_of rfl c5) rfl rfl rfl tv fun a S CL=>h_mv1 S CL hw le rfl tv fun a S CL=>h_skip S CL rfl rfl rfl (ne_bool rfl) rfl fun a S CL=>h_skip S CL rfl rfl rfl (ne_bool rfl) rfl fun a S CL=>h_skip S CL rfl rfl rfl (ne_bool rfl) rfl fun a S CL=>h_skip S CL rfl rfl rfl (ne_bool rfl) rfl fun a S CL=>h_skipRt S rfl rfl rfl (ne_bool rfl) rfl fun a S=>CL.bk hw S (.c8 (.c8 (.c8 (.c8 .n)))) le fun hw=>?_
      replace CL:=CL.add (t:=74) (d:= .u) S rfl rfl
      refine h_skip S CL rfl rfl rfl (ne_bool rfl) rfl fun a S CL=>h_pick S CL hw le (subR rfl) (b:=false) (hc_of rfl rfl) rfl rfl rfl tv fun a S CL=>h_assign S CL hw le (subR rfl) rfl rfl rfl tv fun a S CL=>?_
      refine h_done ?_; clear CL hw le
      refine x_thenN (wp_ret ?_)
      obtain rfl:=sI h13
      exact b_ret1 (d:=(.b false)) S rfl rfl fun ok=>S.retX (Hx:=[]) hb _ _ (ch7:W7) (.c0 (.c0 (.c0 (.c0 (.c0 (.c0 (.c0 (.c0 .n)))))))) ok
    ·refine h_sk4 S CL rfl (ne_bool c4) fun a S CL=>h_sk2 S CL rfl (ne_bool c4) fun a S CL=>h_skipRt S rfl rfl rfl (ne_bool c4) rfl fun a S=>CL.bk hw S (.c8 (.c8 (.c8 (.c8 .n)))) le fun hw=>?_
     replace CL:=CL.add (t:=53) (d:= .u) S rfl rfl
     refine h_skipRt S rfl rfl rfl (ne_bool c4) rfl fun a S=>CL.bk hw S (.c8 (.c8 (.c8 (.c8 .n)))) le fun hw=>?_
     replace CL:=CL.add (t:=57) (d:= .u) S rfl rfl
     refine h_sk1 S CL rfl (ne_bool c4) fun a S CL=>h_pick S CL hw le (subR rfl) (b:=false) (hc_of rfl c4) rfl rfl rfl tv fun a S CL=>h_mv1 S CL hw le rfl tv fun a S CL=>h_skip S CL rfl rfl rfl (ne_bool rfl) rfl fun a S CL=>h_skip S CL rfl rfl rfl (ne_bool rfl) rfl fun a S CL=>h_skip S CL rfl rfl rfl (ne_bool rfl) rfl fun a S CL=>h_skip S CL rfl rfl rfl (ne_bool rfl) rfl fun a S CL=>h_skip S CL rfl rfl rfl (ne_bool rfl) rfl fun a S CL=>h_skip S CL rfl rfl rfl (ne_bool rfl) rfl fun a S CL=>h_skipRt S rfl rfl rfl (ne_bool rfl) rfl fun a S=>CL.bk hw S (.c8 (.c8 (.c8 (.c8 .n)))) le fun hw=>?_
     replace CL:=CL.add (t:=64) (d:= .u) S rfl rfl
     refine h_skipRt S rfl rfl rfl (ne_bool rfl) rfl fun a S=>CL.bk hw S (.c8 (.c8 (.c8 (.c8 .n)))) le fun hw=>?_
     replace CL:=CL.add (t:=68) (d:= .u) S rfl rfl
     refine h_skip S CL rfl rfl rfl (ne_bool rfl) rfl fun a S CL=>h_pick S CL hw le (subR rfl) (b:=false) (hc_of rfl rfl) rfl rfl rfl tv fun a S CL=>h_mv1 S CL hw le rfl tv fun a S CL=>h_skip S CL rfl rfl rfl (ne_bool rfl) rfl fun a S CL=>h_skip S CL rfl rfl rfl (ne_bool rfl) rfl fun a S CL=>h_skip S CL rfl rfl rfl (ne_bool rfl) rfl fun a S CL=>h_skip S CL rfl rfl rfl (ne_bool rfl) rfl fun a S CL=>h_skipRt S rfl rfl rfl (ne_bool rfl) rfl fun a S=>CL.bk hw S (.c8 (.c8 (.c8 (.c8 .n)))) le fun hw=>?_
     replace CL:=CL.add (t:=74) (d:= .u) S rfl rfl
     refine h_skip S CL rfl rfl rfl (ne_bool rfl) rfl fun a S CL=>h_pick S CL hw le (subR rfl) (b:=false) (hc_of rfl rfl) rfl rfl rfl tv fun a S CL=>h_assign S CL hw le (subR rfl) rfl rfl rfl tv fun a S CL=>?_
     refine h_done ?_; clear CL hw le
     refine x_thenN (wp_ret ?_)
     obtain rfl:=sI h10
     exact b_ret1 (d:=(.b false)) S rfl rfl fun ok=>S.retX (Hx:=[]) hb _ _ (ch6.t3:W7) (.c0 (.c0 (.c0 (.c0 (.c0 (.c0 (.c0 (.c0 .n)))))))) ok
   ·refine h_sk4 S CL rfl (ne_bool c3) fun a S CL=>h_sk2 S CL rfl (ne_bool c3) fun a S CL=>h_skipRt S rfl rfl rfl (ne_bool c3) rfl fun a S=>CL.bk hw S (.c8 (.c8 (.c8 (.c8 .n)))) le fun hw=>h_skipRt S rfl rfl rfl (ne_bool c3) rfl fun a S=>CL.bk hw S (.c8 (.c8 (.c8 (.c8 .n)))) le fun hw=>?_
    replace CL:=CL.add (t:=42) (d:= .u) S rfl rfl
    refine h_sk1 S CL rfl (ne_bool c3) fun a S CL=>h_pick S CL hw le (subR rfl) (b:=false) (hc_of rfl c3) rfl rfl rfl tv fun a S CL=>h_mv1 S CL hw le rfl tv fun a S CL=>h_skip S CL rfl rfl rfl (ne_bool rfl) rfl fun a S CL=>h_skip S CL rfl rfl rfl (ne_bool rfl) rfl fun a S CL=>h_skip S CL rfl rfl rfl (ne_bool rfl) rfl fun a S CL=>h_skip S CL rfl rfl rfl (ne_bool rfl) rfl fun a S CL=>h_skip S CL rfl rfl rfl (ne_bool rfl) rfl fun a S CL=>h_skip S CL rfl rfl rfl (ne_bool rfl) rfl fun a S CL=>h_skipRt S rfl rfl rfl (ne_bool rfl) rfl fun a S=>CL.bk hw S (.c8 (.c8 (.c8 (.c8 .n)))) le fun hw=>?_
    replace CL:=CL.add (t:=53) (d:= .u) S rfl rfl
    refine h_skipRt S rfl rfl rfl (ne_bool rfl) rfl fun a S=>CL.bk hw S (.c8 (.c8 (.c8 (.c8 .n)))) le fun hw=>?_
    replace CL:=CL.add (t:=57) (d:= .u) S rfl rfl
    refine h_skip S CL rfl rfl rfl (ne_bool rfl) rfl fun a S CL=>h_pick S CL hw le (subR rfl) (b:=false) (hc_of rfl rfl) rfl rfl rfl tv fun a S CL=>h_mv1 S CL hw le rfl tv fun a S CL=>h_skip S CL rfl rfl rfl (ne_bool rfl) rfl fun a S CL=>h_skip S CL rfl rfl rfl (ne_bool rfl) rfl fun a S CL=>h_skip S CL rfl rfl rfl (ne_bool rfl) rfl fun a S CL=>h_skip S CL rfl rfl rfl (ne_bool rfl) rfl fun a S CL=>h_skip S CL rfl rfl rfl (ne_bool rfl) rfl fun a S CL=>h_skip S CL rfl rfl rfl (ne_bool rfl) rfl fun a S CL=>h_skipRt S rfl rfl rfl (ne_bool rfl) rfl fun a S=>CL.bk hw S (.c8 (.c8 (.c8 (.c8 .n)))) le fun hw=>?_
    replace CL:=CL.add (t:=64) (d:= .u) S rfl rfl
    refine h_skipRt S rfl rfl rfl (ne_bool rfl) rfl fun a S=>CL.bk hw S (.c8 (.c8 (.c8 (.c8 .n)))) le fun hw=>?_
    replace CL:=CL.add (t:=68) (d:= .u) S rfl rfl
    refine h_skip S CL rfl rfl rfl (ne_bool rfl) rfl fun a S CL=>h_pick S CL hw le (subR rfl) (b:=false) (hc_of rfl rfl) rfl rfl rfl tv fun a S CL=>h_mv1 S CL hw le rfl tv fun a S CL=>h_skip S CL rfl rfl rfl (ne_bool rfl) rfl fun a S CL=>h_skip S CL rfl rfl rfl (ne_bool rfl) rfl fun a S CL=>h_skip S CL rfl rfl rfl (ne_bool rfl) rfl fun a S CL=>h_skip S CL rfl rfl rfl (ne_bool rfl) rfl fun a S CL=>h_skipRt S rfl rfl rfl (ne_bool rfl) rfl fun a S=>CL.bk hw S (.c8 (.c8 (.c8 (.c8 .n)))) le fun hw=>?_
    replace CL:=CL.add (t:=74) (d:= .u) S rfl rfl
    refine h_skip S CL rfl rfl rfl (ne_bool rfl) rfl fun a S CL=>h_pick S CL hw le (subR rfl) (b:=false) (hc_of rfl rfl) rfl rfl rfl tv fun a S CL=>h_assign S CL hw le (subR rfl) rfl rfl rfl tv fun a S CL=>?_
    refine h_done ?_; clear CL hw le
    refine x_thenN (wp_ret ?_)
    obtain rfl:=sI h8
    exact b_ret1 (d:=(.b false)) S rfl rfl fun ok=>S.retX (Hx:=[]) hb _ _ (ch5:W7) (.c0 (.c0 (.c0 (.c0 (.c0 (.c0 (.c0 (.c0 .n)))))))) ok
  ·refine h_sk4 S CL rfl (ne_bool c2) fun a S CL=>h_sk1 S CL rfl (ne_bool c2) fun a S CL=>h_skipRt S rfl rfl rfl (ne_bool c2) rfl fun a S=>CL.bk hw S (.c8 (.c8 (.c8 (.c8 .n)))) le fun hw=>?_
   replace CL:=CL.add (t:=32) (d:= .u) S rfl rfl
   refine h_sk1 S CL rfl (ne_bool c2) fun a S CL=>h_pick S CL hw le (subR rfl) (b:=false) (hc_of rfl c2) rfl rfl rfl tv fun a S CL=>h_mv1 S CL hw le rfl tv fun a S CL=>h_skip S CL rfl rfl rfl (ne_bool rfl) rfl fun a S CL=>h_skip S CL rfl rfl rfl (ne_bool rfl) rfl fun a S CL=>h_skip S CL rfl rfl rfl (ne_bool rfl) rfl fun a S CL=>h_skip S CL rfl rfl rfl (ne_bool rfl) rfl fun a S CL=>h_skip S CL rfl rfl rfl (ne_bool rfl) rfl fun a S CL=>h_skip S CL rfl rfl rfl (ne_bool rfl) rfl fun a S CL=>h_skipRt S rfl rfl rfl (ne_bool rfl) rfl fun a S=>CL.bk hw S (.c8 (.c8 (.c8 (.c8 .n)))) le fun hw=>h_skipRt S rfl rfl rfl (ne_bool rfl) rfl fun a S=>CL.bk hw S (.c8 (.c8 (.c8 (.c8 .n)))) le fun hw=>?_
   replace CL:=CL.add (t:=42) (d:= .u) S rfl rfl
   refine h_skip S CL rfl rfl rfl (ne_bool rfl) rfl fun a S CL=>h_pick S CL hw le (subR rfl) (b:=false) (hc_of rfl rfl) rfl rfl rfl tv fun a S CL=>h_mv1 S CL hw le rfl tv fun a S CL=>h_skip S CL rfl rfl rfl (ne_bool rfl) rfl fun a S CL=>h_skip S CL rfl rfl rfl (ne_bool rfl) rfl fun a S CL=>h_skip S CL rfl rfl rfl (ne_bool rfl) rfl fun a S CL=>h_skip S CL rfl rfl rfl (ne_bool rfl) rfl fun a S CL=>h_skip S CL rfl rfl rfl (ne_bool rfl) rfl fun a S CL=>h_skip S CL rfl rfl rfl (ne_bool rfl) rfl fun a S CL=>h_skipRt S rfl rfl rfl (ne_bool rfl) rfl fun a S=>CL.bk hw S (.c8 (.c8 (.c8 (.c8 .n)))) le fun hw=>?_
   replace CL:=CL.add (t:=53) (d:= .u) S rfl rfl
   refine h_skipRt S rfl rfl rfl (ne_bool rfl) rfl fun a S=>CL.bk hw S (.c8 (.c8 (.c8 (.c8 .n)))) le fun hw=>?_
   replace CL:=CL.add (t:=57) (d:= .u) S rfl rfl
   refine h_skip S CL rfl rfl rfl (ne_bool rfl) rfl fun a S CL=>h_pick S CL hw le (subR rfl) (b:=false) (hc_of rfl rfl) rfl rfl rfl tv fun a S CL=>h_mv1 S CL hw le rfl tv fun a S CL=>h_skip S CL rfl rfl rfl (ne_bool rfl) rfl fun a S CL=>h_skip S CL rfl rfl rfl (ne_bool rfl) rfl fun a S CL=>h_skip S CL rfl rfl rfl (ne_bool rfl) rfl fun a S CL=>h_skip S CL rfl rfl rfl (ne_bool rfl) rfl fun a S CL=>h_skip S CL rfl rfl rfl (ne_bool rfl) rfl fun a S CL=>h_skip S CL rfl rfl rfl (ne_bool rfl) rfl fun a S CL=>h_skipRt S rfl rfl rfl (ne_bool rfl) rfl fun a S=>CL.bk hw S (.c8 (.c8 (.c8 (.c8 .n)))) le fun hw=>?_
   replace CL:=CL.add (t:=64) (d:= .u) S rfl rfl
   refine h_skipRt S rfl rfl rfl (ne_bool rfl) rfl fun a S=>CL.bk hw S (.c8 (.c8 (.c8 (.c8 .n)))) le fun hw=>?_
   replace CL:=CL.add (t:=68) (d:= .u) S rfl rfl
   refine h_skip S CL rfl rfl rfl (ne_bool rfl) rfl fun a S CL=>h_pick S CL hw le (subR rfl) (b:=false) (hc_of rfl rfl) rfl rfl rfl tv fun a S CL=>h_mv1 S CL hw le rfl tv fun a S CL=>h_skip S CL rfl rfl rfl (ne_bool rfl) rfl fun a S CL=>h_skip S CL rfl rfl rfl (ne_bool rfl) rfl fun a S CL=>h_skip S CL rfl rfl rfl (ne_bool rfl) rfl fun a S CL=>h_skip S CL rfl rfl rfl (ne_bool rfl) rfl fun a S CL=>h_skipRt S rfl rfl rfl (ne_bool rfl) rfl fun a S=>CL.bk hw S (.c8 (.c8 (.c8 (.c8 .n)))) le fun hw=>?_
   replace CL:=CL.add (t:=74) (d:= .u) S rfl rfl
   refine h_skip S CL rfl rfl rfl (ne_bool rfl) rfl fun a S CL=>h_pick S CL hw le (subR rfl) (b:=false) (hc_of rfl rfl) rfl rfl rfl tv fun a S CL=>h_assign S CL hw le (subR rfl) rfl rfl rfl tv fun a S CL=>?_
   refine h_done ?_; clear CL hw le
   refine x_thenN (wp_ret ?_)
   obtain rfl:=sI h6
   exact b_ret1 (d:=(.b false)) S rfl rfl fun ok=>S.retX (Hx:=[]) hb _ _ (ch4:W7) (.c0 (.c0 (.c0 (.c0 (.c0 (.c0 (.c0 (.c0 .n)))))))) ok
 ·refine h_sk4 S CL rfl (ne_bool c1) fun a S CL=>h_sk1 S CL rfl (ne_bool c1) fun a S CL=>h_skipRt S rfl rfl rfl (ne_bool c1) rfl fun a S=>CL.bk hw S (.c8 (.c8 (.c8 (.c8 .n)))) le fun hw=>?_
  replace CL:=CL.add (t:=23) (d:= .u) S rfl rfl
  refine h_sk1 S CL rfl (ne_bool c1) fun a S CL=>h_pick S CL hw le (subR rfl) (b:=false) (hc_of rfl c1) rfl rfl rfl tv fun a S CL=>h_mv1 S CL hw le rfl tv fun a S CL=>h_skip S CL rfl rfl rfl (ne_bool rfl) rfl fun a S CL=>h_skip S CL rfl rfl rfl (ne_bool rfl) rfl fun a S CL=>h_skip S CL rfl rfl rfl (ne_bool rfl) rfl fun a S CL=>h_skip S CL rfl rfl rfl (ne_bool rfl) rfl fun a S CL=>h_skip S CL rfl rfl rfl (ne_bool rfl) rfl fun a S CL=>h_skipRt S rfl rfl rfl (ne_bool rfl) rfl fun a S=>CL.bk hw S (.c8 (.c8 (.c8 (.c8 .n)))) le fun hw=>?_
  replace CL:=CL.add (t:=32) (d:= .u) S rfl rfl
  refine h_skip S CL rfl rfl rfl (ne_bool rfl) rfl fun a S CL=>h_pick S CL hw le (subR rfl) (b:=false) (hc_of rfl rfl) rfl rfl rfl tv fun a S CL=>h_mv1 S CL hw le rfl tv fun a S CL=>h_skip S CL rfl rfl rfl (ne_bool rfl) rfl fun a S CL=>h_skip S CL rfl rfl rfl (ne_bool rfl) rfl fun a S CL=>h_skip S CL rfl rfl rfl (ne_bool rfl) rfl fun a S CL=>h_skip S CL rfl rfl rfl (ne_bool rfl) rfl fun a S CL=>h_skip S CL rfl rfl rfl (ne_bool rfl) rfl fun a S CL=>h_skip S CL rfl rfl rfl (ne_bool rfl) rfl fun a S CL=>h_skipRt S rfl rfl rfl (ne_bool rfl) rfl fun a S=>CL.bk hw S (.c8 (.c8 (.c8 (.c8 .n)))) le fun hw=>h_skipRt S rfl rfl rfl (ne_bool rfl) rfl fun a S=>CL.bk hw S (.c8 (.c8 (.c8 (.c8 .n)))) le fun hw=>?_
  replace CL:=CL.add (t:=42) (d:= .u) S rfl rfl
  refine h_skip S CL rfl rfl rfl (ne_bool rfl) rfl fun a S CL=>h_pick S CL hw le (subR rfl) (b:=false) (hc_of rfl rfl) rfl rfl rfl tv fun a S CL=>h_mv1 S CL hw le rfl tv fun a S CL=>h_skip S CL rfl rfl rfl (ne_bool rfl) rfl fun a S CL=>h_skip S CL rfl rfl rfl (ne_bool rfl) rfl fun a S CL=>h_skip S CL rfl rfl rfl (ne_bool rfl) rfl fun a S CL=>h_skip S CL rfl rfl rfl (ne_bool rfl) rfl fun a S CL=>h_skip S CL rfl rfl rfl (ne_bool rfl) rfl fun a S CL=>h_skip S CL rfl rfl rfl (ne_bool rfl) rfl fun a S CL=>h_skipRt S rfl rfl rfl (ne_bool rfl) rfl fun a S=>CL.bk hw S (.c8 (.c8 (.c8 (.c8 .n)))) le fun hw=>?_
  replace CL:=CL.add (t:=53) (d:= .u) S rfl rfl
  refine h_skipRt S rfl rfl rfl (ne_bool rfl) rfl fun a S=>CL.bk hw S (.c8 (.c8 (.c8 (.c8 .n)))) le fun hw=>?_
  replace CL:=CL.add (t:=57) (d:= .u) S rfl rfl
  refine h_skip S CL rfl rfl rfl (ne_bool rfl) rfl fun a S CL=>h_pick S CL hw le (subR rfl) (b:=false) (hc_of rfl rfl) rfl rfl rfl tv fun a S CL=>h_mv1 S CL hw le rfl tv fun a S CL=>h_skip S CL rfl rfl rfl (ne_bool rfl) rfl fun a S CL=>h_skip S CL rfl rfl rfl (ne_bool rfl) rfl fun a S CL=>h_skip S CL rfl rfl rfl (ne_bool rfl) rfl fun a S CL=>h_skip S CL rfl rfl rfl (ne_bool rfl) rfl fun a S CL=>h_skip S CL rfl rfl rfl (ne_bool rfl) rfl fun a S CL=>h_skip S CL rfl rfl rfl (ne_bool rfl) rfl fun a S CL=>h_skipRt S rfl rfl rfl (ne_bool rfl) rfl fun a S=>CL.bk hw S (.c8 (.c8 (.c8 (.c8 .n)))) le fun hw=>?_
  replace CL:=CL.add (t:=64) (d:= .u) S rfl rfl
  refine h_skipRt S rfl rfl rfl (ne_bool rfl) rfl fun a S=>CL.bk hw S (.c8 (.c8 (.c8 (.c8 .n)))) le fun hw=>?_
  replace CL:=CL.add (t:=68) (d:= .u) S rfl rfl
  refine h_skip S CL rfl rfl rfl (ne_bool rfl) rfl fun a S CL=>h_pick S CL hw le (subR rfl) (b:=false) (hc_of rfl rfl) rfl rfl rfl tv fun a S CL=>h_mv1 S CL hw le rfl tv fun a S CL=>h_skip S CL rfl rfl rfl (ne_bool rfl) rfl fun a S CL=>h_skip S CL rfl rfl rfl (ne_bool rfl) rfl fun a S CL=>h_skip S CL rfl rfl rfl (ne_bool rfl) rfl fun a S CL=>h_skip S CL rfl rfl rfl (ne_bool rfl) rfl fun a S CL=>h_skipRt S rfl rfl rfl (ne_bool rfl) rfl fun a S=>CL.bk hw S (.c8 (.c8 (.c8 (.c8 .n)))) le fun hw=>?_
  replace CL:=CL.add (t:=74) (d:= .u) S rfl rfl
  refine h_skip S CL rfl rfl rfl (ne_bool rfl) rfl fun a S CL=>h_pick S CL hw le (subR rfl) (b:=false) (hc_of rfl rfl) rfl rfl rfl tv fun a S CL=>h_assign S CL hw le (subR rfl) rfl rfl rfl tv fun a S CL=>?_
  refine h_done ?_; clear CL hw le
  refine x_thenN (wp_ret ?_)
  obtain rfl:=sI h4
  exact b_ret1 (d:=(.b false)) S rfl rfl fun ok=>S.retX (Hx:=[]) hb _ _ (ch2:W7) (.c0 (.c0 (.c0 (.c0 (.c0 (.c0 (.c0 (.c0 .n)))))))) ok
abbrev fd_.Ty:Type:=(List L71)→(List L46)→(List Int)→(List Int)→Option Bool
def fd_.Ctr (s:fd_.Ty):Prop:=∀ {x1:List L71} {x2:List L46} {x3:List Int} {x4:List Int} {ch_0_0:Option Addr} {ch_0_1:Nat} {ch_1_0:Option Addr} {ch_1_1:Nat} {r:Bool} (h0:s x1 x2 x3 x4=some r) {mi:Mem} {w0:World},CtrB Tryz.prog 6 [(.q Y71 ch_0_0 ch_0_1 x1),(.q Y46 ch_1_0 ch_1_1 x2),(.agg [.b20 x3]),(.a4 x4)] [] (fun (ch:Unit)=>((.b r):D)) (fun (ch:Unit)=>[]) mi w0
def fd_.j1 (k:Nat)(x1:List L71)(x3:List Int)(x4:List Int)(y1:ST37)(y2:List L71)(y3:W15)(y4:List L110)(y5:W16)(y6:W17)(y7:Int)(y8:List L100)(y9:List Clo)(y10:List (List Int)):Option Bool:=(fh2_.f k (y2,(y3,y4,y5,y6),y7,y8,y9,y10) (-1)).bind fun t7=>((fh6_.f t7).bind fun t8=>((fh2_.f k t7 t8).bind fun t9=>((fi2_.f k t9 y1).bind fun t10=>(if (!t10)=true then (some false) else ((fh2_.f k t9 0).bind fun t11=>((fh6_.f t11).bind fun t12=>(if (t12==0)=true then ((fi2_.f k t11 (ST37.mk (x1,([]:List (L71×Bool×Bool)),([]:List (List Int)),([]:List ((List Int)×(List Int))),0,([]:List L100),true,([]:List ST37)))).bind fun t13=>(if t13=true then ((fh0_.f k t11 (ST37.mk (x1,([]:List (L71×Bool×Bool)),([]:List (List Int)),([]:List ((List Int)×(List Int))),0,([]:List L100),true,([]:List ST37))) x3 x4).bind fun t14=>(if t14.1=true then ((fg3_.f k (t11.1,t14.2.2.1,t11.2.2.1,t14.2.2.2.2.1,t14.2.2.2.2.2.1,t14.2.2.2.2.2.2) x3).bind fun t15=>(if t15.1=true then ((fd5_.f k (t11.1,t15.2.2.1,t11.2.2.1,t15.2.2.2.2.1,t15.2.2.2.2.2.1,t15.2.2.2.2.2.2) x3 x4).bind fun t16=>(some t16.1)) else (some false))) else (some false))) else (some false))) else (some false))))))))
def fd_.j2 (y46:Int)(rec1:(List (List Int))→Int→ST37→(List L71)→W15→(List L110)→W16→W17→Int→(List L100)→(List Clo)→(List (List Int))→Option Bool)(y57:List (List Int))(y58:ST37)(y59:List L71)(y60:W15)(y61:List L110)(y62:W16)(y63:W17)(y64:Int)(y65:List L100)(y66:List Clo)(y67:List (List Int)):Option Bool:=rec1 y57 (wr .i64 (y46+1)) y58 y59 y60 y61 y62 y63 y64 y65 y66 y67
def fd_.b1 (k:Nat)(x1:List L71)(x3:List Int)(x4:List Int)(t17:List L46)(rec1:(List (List Int))→Int→ST37→(List L71)→W15→(List L110)→W16→W17→Int→(List L100)→(List Clo)→(List (List Int))→Option Bool)(y45:List (List Int))(y46:Int)(y47:ST37)(y48:List L71)(y49:W15)(y50:List L110)(y51:W16)(y52:W17)(y53:Int)(y54:List L100)(y55:List Clo)(y56:List (List Int)):Option Bool:=if (decide (y46<((t17).length:Int)))=true then (if (0:Int)≤y46∧y46<((t17).length:Int) then (if (decide (((gt t17 y46).1)≤10))=true then ((fg6_.f k (y48,(y49,y50,y51,y52),y53,y54,y55,y56) y47 y45 (gt t17 y46)).bind fun t19=>(fd_.j2 y46 rec1 t19.2.2.1 t19.2.1 t19.2.2.2.1 t19.2.2.2.2.1.1 t19.2.2.2.2.1.2.1 t19.2.2.2.2.1.2.2.1 t19.2.2.2.2.1.2.2.2 t19.2.2.2.2.2.1 t19.2.2.2.2.2.2.1 t19.2.2.2.2.2.2.2.1 t19.2.2.2.2.2.2.2.2)) else (fd_.j2 y46 rec1 y45 y47 y48 y49 y50 y51 y52 y53 y54 y55 y56)) else none) else (fd_.j1 k x1 x3 x4 y47 y48 y49 y50 y51 y52 y53 y54 y55 y56)
def fd_.l1 (k:Nat)(x1:List L71)(x3:List Int)(x4:List Int)(t17:List L46):Nat→(List (List Int))→Int→ST37→(List L71)→W15→(List L110)→W16→W17→Int→(List L100)→(List Clo)→(List (List Int))→Option Bool
  | 0,_,_,_,_,_,_,_,_,_,_,_,_=>none
  | q+1,y45,y46,y47,y48,y49,y50,y51,y52,y53,y54,y55,y56=>fd_.b1 k x1 x3 x4 t17 (fd_.l1 k x1 x3 x4 t17 q) y45 y46 y47 y48 y49 y50 y51 y52 y53 y54 y55 y56
def fd_.f (k:Nat)(x1:List L71)(x2:List L46)(x3:List Int)(x4:List Int):Option Bool:=(fg_.f k x1).bind fun t1=>(if (!t1)=true then ((ff5_.f k).bind fun t2=>(some t2)) else ((fj5_.f k x1).bind fun t3=>((fi7_.f t3).bind fun t4=>((ff5_.f k).bind fun t5=>(if (!t5)=true then (some false) else ((fi0_.f k x2).bind fun t17=>(fd_.l1 k x1 x3 x4 t17 k ([]:List (List Int)) 0 (ST37.mk (x1,([]:List (L71×Bool×Bool)),([]:List (List Int)),([]:List ((List Int)×(List Int))),0,([]:List L100),true,([]:List ST37))) t4.1 t4.2.1.1 t4.2.1.2.1 t4.2.1.2.2.1 t4.2.1.2.2.2 t4.2.2.1 t4.2.2.2.1 t4.2.2.2.2.1 t4.2.2.2.2.2)))))))
theorem fd_.ok (k:Nat):fd_.Ctr (fd_.f k):=by
 intro x1 x2 x3 x4 ch_0_0 ch_0_1 ch_1_0 ch_1_1 r h0 mi w0 ok hm
 delta fd_.f at h0
 refine c_enterZ (n:=89) ok hm func6 rfl rfl rfl fun b0 hb a S=>c_region (s_box S rfl rfl rfl fun g1 a w S=>s_box S rfl rfl rfl fun g2 a w S=>s_as1 S rfl fun a S=>c_end (wp_seq (c_region (s_mv1 S rfl fun a S=>bindX h0 fun t1 et1 h1=>s_callK S (fg_.ok k et1) N7 rfl .pre (fun _=> .n) rfl fun ch1 m le1 a w S=>s_not S rfl rfl fun a S=>c_end ?_))))
 rcases ite_of h1 with ⟨c1,h2⟩ | ⟨c1,h2⟩
 ·refine c_condT S rfl c1 (c_region (bindX h2 fun t2 et2 h3=>s_callK S (ff5_.ok k et2) N8 rfl .pre (fun _=> .n) rfl fun ch2 m le1 a w S=>s_as1 S rfl fun a S=>c_end (wp_ret (x_thenR ?_))))
  obtain rfl:=sI h3
  exact b_ret1 (d:=(.b t2)) S rfl rfl (S.rt hb)
 ·refine c_condF S rfl c1 (wp_skip (x_thenN (c_region (s_mv1 S rfl fun a S=>bindX h2 fun t3 et3 h3=>s_callK S (fj5_.ok k et3) N10 rfl .pre (fun _=> .n) rfl fun ch3 m le1 a w S=>bindX h3 fun t4 et4 h4=>s_callK S (fi7_.ok et4) N9 rfl .pre (fun _=> .c8) rfl fun ch4 m le1 a w S=>s_as1 S rfl fun a S=>c_end (c_region (s_mv1 S rfl fun a S=>s_bldS S (ds:=[(0,(.q Y71 ch_0_0 ch_0_1 x1)),(6,(.b true))]) (zs:=[.s none 0 0, .s none 0 0, .s none 0 0, .s none 0 0, .i 0, .s none 0 0, .b false, .s none 0 0]) (s':=[.q Y71 ch_0_0 ch_0_1 x1, .s none 0 0, .s none 0 0, .s none 0 0, .i 0, .s none 0 0, .b true, .s none 0 0]) rfl underlying37 P37 Z37 ⟨rfl,rfl,rfl,rfl,rfl,rfl,rfl,rfl,tv⟩ rfl rfl fun a S=>s_alloc S Z37 rfl ⟨rfl,rfl,rfl,rfl,rfl,rfl,rfl,rfl,tv⟩ rfl fun g3 a w S=>s_store S rfl rfl rfl (s':=[.q Y71 ch_0_0 ch_0_1 x1, .s none 0 0, .s none 0 0, .s none 0 0, .i 0, .s none 0 0, .b true, .s none 0 0]) .h T37 rfl rfl fun w S=>c_end (wp_seq (c_region (s_mv1 S rfl fun a S=>s_eqp S (b:=false) rfl rfl underlying26 rfl rfl fun a S=>s_mv1 S rfl fun a S=>s_gT S (b:=false) rfl rfl rfl (bindX h4 fun t5 et5 h5=>s_callK S (ff5_.ok k et5) N8 rfl .pre (fun _=> .n) rfl fun ch5 m le1 a w S=>s_gT S (b:=false) rfl rfl rfl (s_not S rfl rfl fun a S=>s_pick S (b:=false) (hc_of rfl rfl) rfl rfl fun a S=>c_end ?_)))))))))))
  rcases ite_of h5 with ⟨c2,h6⟩ | ⟨c2,h6⟩
  ·refine c_condT S rfl c2 (c_region (s_as1 S rfl fun a S=>c_end (wp_ret (x_thenR ?_))))
   obtain rfl:=sI h6
   exact b_ret1 (d:=(.b false)) S rfl rfl (S.rt hb)
  ·refine c_condF S rfl c2 (wp_skip (x_thenN (c_region (s_loada S rfl .h T37 (s':=[.q Y71 ch_0_0 ch_0_1 x1, .s none 0 0, .s none 0 0, .s none 0 0, .i 0, .s none 0 0, .b true, .s none 0 0]) rfl rfl fun a S=>s_alloc S Z37 rfl ⟨rfl,rfl,rfl,rfl,rfl,rfl,rfl,rfl,tv⟩ rfl fun g4 a w S=>s_store S rfl rfl rfl (s':=[.q Y71 ch_0_0 ch_0_1 x1, .s none 0 0, .s none 0 0, .s none 0 0, .i 0, .s none 0 0, .b true, .s none 0 0]) .h T37 rfl rfl fun w S=>c_end (c_region (s_as1 S rfl fun a S=>c_end (wp_seq_k fun K1 hK1=>?_)))))))
   have j1:∀ (m:Mem) (g31:Nat) (g32:Nat) (g33:Nat) (g34:Nat) (y1:ST37) (cc1:(Option Addr×Nat)×(Option Addr×Nat)×(Option Addr×Nat)×(Option Addr×Nat)×Unit×(Option Addr×Nat)×Unit×(Option Addr×Nat)) (A1:Option Addr) (cp1:Nat) (y2:List L71) (g35:Nat) (y3:List ((List Int)×Option Nat)) (G1:List Nat) (G2:List Nat) (G3:List Nat) (y4:List L110) (y5:List (List ((List Int)×(List Int)))) (y6:List (List ((List Int)×Bool))) (y7:Int) (A2:Option Addr) (nn1:Nat) (cp2:Nat) (y8:List L100) (A3:Option Addr) (nn2:Nat) (cp3:Nat) (y9:List Clo) (A4:Option Addr) (nn3:Nat) (cp4:Nat) (y10:List (List Int)) (a:Act) (w:World),St 89 m b0 [(11,(.p g31)),(10,(.p g32)),(9,(.v (.pointer (some ⟨ch4.1,0,none⟩)))),(7,(.p g33)),(6,(.p g34))] ([Res.cells g31 37 [.q Y71 ch_0_0 ch_0_1 x1, .s none 0 0, .s none 0 0, .s none 0 0, .i 0, .s none 0 0, .b true, .s none 0 0],Res.cells g32 37 (SY37.segs y1 cc1)]++MS1 (y2,(y3,y4,y5,y6),y7,y8,y9,y10) (ch4.1,A1,cp1,g35,G1,G2,G3,A2,nn1,cp2,A3,nn2,cp3,A4,nn3,cp4)++[Res.cells g33 43 [.w4 x4],Res.cells g34 40 [.b20 x3]]) a w→fd_.j1 k x1 x3 x4 y1 y2 y3 y4 y5 y6 y7 y8 y9 y10=some r→K1 a w:=by
    intro m g31 g32 g33 g34 y1 cc1 A1 cp1 y2 g35 y3 G1 G2 G3 y4 y5 y6 y7 A2 nn1 cp2 y8 A3 nn2 cp3 y9 A4 nn3 cp4 y10 a w S h0
    delta fd_.j1 at h0
    refine hK1 a w (c_region (s_mv1 S rfl fun a S=>bindX h0 fun t7 et7 h1=>s_callK S (fh2_.ok k (ch_0:=(ch4.1,A1,cp1,g35,G1,G2,G3,A2,nn1,cp2,A3,nn2,cp3,A4,nn3,cp4)) et7) N14 rfl (.sk (.sk .pre)) (fun _=> .c8) rfl fun ch6 m le1 a w S=>c_end (c_region (s_mv2 S rfl fun a S=>bindX h1 fun t8 et8 h2=>s_callK S (fh6_.ok (ch_0:=(ch4.1,ch6.1,ch6.2.1,ch6.e3,ch6.e4,ch6.e5,ch6.e6,ch6.e7,ch6.e8,ch6.e9,ch6.e10,ch6.e11,ch6.e12,ch6.e13,ch6.e14,ch6.t14)) et8) N13 rfl .pre (fun _=> .c8) rfl fun ch7 m le1 a w S=>bindX h2 fun t9 et9 h3=>s_callK S (fh2_.ok k (ch_0:=(ch4.1,ch6.1,ch6.2.1,ch6.e3,ch6.e4,ch6.e5,ch6.e6,ch6.e7,ch6.e8,ch6.e9,ch6.e10,ch6.e11,ch6.e12,ch6.e13,ch6.e14,ch6.t14)) et9) N14 rfl .pre (fun _=> .c8) rfl fun ch8 m le1 a w S=>c_end (wp_seq (c_region (s_mv1 S rfl fun a S=>s_loada S rfl .h9 T37 (s':=(SY37.segs y1 cc1)) rfl rfl fun a S=>bindX h3 fun t10 et10 h4=>s_callK S (fi2_.ok k (ch_0:=(ch4.1,ch8.1,ch8.2.1,ch8.e3,ch8.e4,ch8.e5,ch8.e6,ch8.e7,ch8.e8,ch8.e9,ch8.e10,ch8.e11,ch8.e12,ch8.e13,ch8.e14,ch8.t14)) (ch_1_0:=cc1) et10) N15 rfl .pre (fun _=> .c8) rfl fun ch9 m le1 a w S=>s_not S rfl rfl fun a S=>c_end ?_)))))))
    rcases ite_of h4 with ⟨c3,h5⟩ | ⟨c3,h5⟩
    ·refine c_condT S rfl c3 (c_region (s_as1 S rfl fun a S=>c_end (wp_ret (x_thenR ?_))))
     obtain rfl:=sI h5
     exact b_ret1 (d:=(.b false)) S rfl rfl (S.rt hb)
    ·refine c_condF S rfl c3 (wp_skip (x_thenN (c_region (s_mv1 S rfl fun a S=>bindX h5 fun t11 et11 h6=>s_callK S (fh2_.ok k (ch_0:=(ch4.1,ch8.1,ch8.2.1,ch8.e3,ch8.e4,ch8.e5,ch8.e6,ch8.e7,ch8.e8,ch8.e9,ch8.e10,ch8.e11,ch8.e12,ch8.e13,ch8.e14,ch8.t14)) et11) N14 rfl .pre (fun _=> .c8) rfl fun ch10 m le1 a w S=>c_end (c_region (s_mv1 S rfl fun a S=>bindX h6 fun t12 et12 h7=>s_callK S (fh6_.ok (ch_0:=(ch4.1,ch10.1,ch10.2.1,ch10.e3,ch10.e4,ch10.e5,ch10.e6,ch10.e7,ch10.e8,ch10.e9,ch10.e10,ch10.e11,ch10.e12,ch10.e13,ch10.e14,ch10.t14)) et12) N13 rfl .pre (fun _=> .c8) rfl fun ch11 m le1 a w S=>s_bi S rfl fun a S=>s_mv1 S rfl fun a S=>?_))))))
     rcases ite_of h7 with ⟨c4,h8⟩ | ⟨c4,h8⟩
     ·refine s_gT S (b:=(t12==0)) rfl rfl c4 (s_mv1 S rfl fun a S=>s_gT S (b:=(t12==0)) rfl rfl c4 (s_loada S rfl .h8 T37 (s':=[.q Y71 ch_0_0 ch_0_1 x1, .s none 0 0, .s none 0 0, .s none 0 0, .i 0, .s none 0 0, .b true, .s none 0 0]) rfl rfl fun a S=>s_gT S (b:=(t12==0)) rfl rfl c4 ?_))
      replace S:=S.slot (u:=68) (d':=(.agg (SY37.segs (ST37.mk (x1,([]:List (L71×Bool×Bool)),([]:List (List Int)),([]:List ((List Int)×(List Int))),0,([]:List L100),true,([]:List ST37))) ((ch_0_0,ch_0_1),(none,0),(none,0),(none,0),(),(none,0),(),(none,0))))) rfl rfl (by have h:=(S.get 68 (.agg [.q Y71 ch_0_0 ch_0_1 x1, .s none 0 0, .s none 0 0, .s none 0 0, .i 0, .s none 0 0, .b true, .s none 0 0]) rfl).2; exact ⟨h.1,ok_nil,ok_nil,ok_nil,h.2.2.2.2.1,ok_nil,h.2.2.2.2.2.2.1,SN37,tv⟩)
      refine bindX h8 fun t13 et13 h9=>s_callK S (fi2_.ok k (ch_0:=(ch4.1,ch10.1,ch10.2.1,ch10.e3,ch10.e4,ch10.e5,ch10.e6,ch10.e7,ch10.e8,ch10.e9,ch10.e10,ch10.e11,ch10.e12,ch10.e13,ch10.e14,ch10.t14)) (ch_1_0:=((ch_0_0,ch_0_1),(none,0),(none,0),(none,0),(),(none,0),(),(none,0))) et13) N15 rfl .pre (fun _=> .c8) rfl fun ch12 m le1 a w S=>s_pick S (b:=true) (hc_of rfl c4) rfl rfl fun a S=>s_mv1 S rfl fun a S=>?_
      rcases ite_of h9 with ⟨c5,h10⟩ | ⟨c5,h10⟩
      ·refine s_gT S (b:=t13) rfl rfl c5 (s_mv1 S rfl fun a S=>s_gT S (b:=t13) rfl rfl c5 (s_loada S rfl .h8 T37 (s':=[.q Y71 ch_0_0 ch_0_1 x1, .s none 0 0, .s none 0 0, .s none 0 0, .i 0, .s none 0 0, .b true, .s none 0 0]) rfl rfl fun a S=>s_gT S (b:=t13) rfl rfl c5 (s_loada S rfl .h11 T40 (s':=[.b20 x3]) rfl rfl fun a S=>s_gT S (b:=t13) rfl rfl c5 (s_loada S rfl .h10 T43 (s':=[.w4 x4]) rfl rfl fun a S=>s_gT S (b:=t13) rfl rfl c5 ?_))))
       replace S:=S.slot (u:=73) (d':=(.agg (SY37.segs (ST37.mk (x1,([]:List (L71×Bool×Bool)),([]:List (List Int)),([]:List ((List Int)×(List Int))),0,([]:List L100),true,([]:List ST37))) ((ch_0_0,ch_0_1),(none,0),(none,0),(none,0),(),(none,0),(),(none,0))))) rfl rfl (by have h:=(S.get 73 (.agg [.q Y71 ch_0_0 ch_0_1 x1, .s none 0 0, .s none 0 0, .s none 0 0, .i 0, .s none 0 0, .b true, .s none 0 0]) rfl).2; exact ⟨h.1,ok_nil,ok_nil,ok_nil,h.2.2.2.2.1,ok_nil,h.2.2.2.2.2.2.1,SN37,tv⟩)
       refine bindX h10 fun t14 et14 h11=>s_callK S (fh0_.ok k (ch_0:=(ch4.1,ch10.1,ch10.2.1,ch10.e3,ch10.e4,ch10.e5,ch10.e6,ch10.e7,ch10.e8,ch10.e9,ch10.e10,ch10.e11,ch10.e12,ch10.e13,ch10.e14,ch10.t14)) (ch_1_0:=((ch_0_0,ch_0_1),(none,0),(none,0),(none,0),(),(none,0),(),(none,0))) et14) N27 rfl .pre (fun _=> .c8) rfl fun ch13 m le1 a w S=>s_pick S (b:=true) (hc_of rfl c5) rfl rfl fun a S=>s_mv1 S rfl fun a S=>?_
       rcases ite_of h11 with ⟨c6,h12⟩ | ⟨c6,h12⟩
       ·refine s_gT S (b:=t14.1) rfl rfl c6 (s_mv1 S rfl fun a S=>s_gT S (b:=t14.1) rfl rfl c6 (s_loada S rfl .h11 T40 (s':=[.b20 x3]) rfl rfl fun a S=>s_gT S (b:=t14.1) rfl rfl c6 (bindX h12 fun t15 et15 h13=>s_callK S (fg3_.ok k (ch_0:=(ch4.1,ch10.1,ch10.2.1,ch13.1,ch13.2.1,ch13.e3,ch13.e4,ch13.e5,ch13.e6,ch13.e7,ch13.e8,ch13.e9,ch13.e10,ch13.e11,ch13.e12,ch13.t12)) et15) N28 rfl .pre (fun _=> .c8) rfl fun ch14 m le1 a w S=>s_pick S (b:=true) (hc_of rfl c6) rfl rfl fun a S=>s_mv1 S rfl fun a S=>?_)))
        rcases ite_of h13 with ⟨c7,h14⟩ | ⟨c7,h14⟩
        ·refine s_gT S (b:=t15.1) rfl rfl c7 (s_mv1 S rfl fun a S=>s_gT S (b:=t15.1) rfl rfl c7 (s_loada S rfl .h11 T40 (s':=[.b20 x3]) rfl rfl fun a S=>s_gT S (b:=t15.1) rfl rfl c7 (s_loada S rfl .h10 T43 (s':=[.w4 x4]) rfl rfl fun a S=>s_gT S (b:=t15.1) rfl rfl c7 (bindX h14 fun t16 et16 h15=>s_callK S (fd5_.ok k (ch_0:=(ch4.1,ch10.1,ch10.2.1,ch14.1,ch14.2.1,ch14.e3,ch14.e4,ch14.e5,ch14.e6,ch14.e7,ch14.e8,ch14.e9,ch14.e10,ch14.e11,ch14.e12,ch14.t12)) et16) N29 rfl .pre (fun _=> .c8) rfl fun ch15 m le1 a w S=>s_pick S (b:=true) (hc_of rfl c7) rfl rfl fun a S=>s_as1 S rfl fun a S=>c_end (wp_ret ?_)))))
         obtain rfl:=sI h15
         exact b_ret1 (d:=(.b t16.1)) S rfl rfl (S.rt hb)
        ·refine s_gF S (b:=t15.1) rfl rfl c7 rfl fun a S=>s_gF S (b:=t15.1) rfl rfl c7 rfl fun a S=>s_gF S (b:=t15.1) rfl rfl c7 rfl fun a S=>s_gF S (b:=t15.1) rfl rfl c7 rfl fun a S=>s_pick S (b:=false) (hc_of rfl c7) rfl rfl fun a S=>s_as1 S rfl fun a S=>c_end (wp_ret ?_)
         obtain rfl:=sI h14
         exact b_ret1 (d:=(.b false)) S rfl rfl (S.rt hb)
       ·refine s_gF S (b:=t14.1) rfl rfl c6 rfl fun a S=>s_gF S (b:=t14.1) rfl rfl c6 rfl fun a S=>s_gF S (b:=t14.1) rfl rfl c6 rfl fun a S=>s_pick S (b:=false) (hc_of rfl c6) rfl rfl fun a S=>s_mv1 S rfl fun a S=>s_gF S (b:=false) rfl rfl rfl rfl fun a S=>s_gF S (b:=false) rfl rfl rfl rfl fun a S=>s_gF S (b:=false) rfl rfl rfl rfl fun a S=>s_gF S (b:=false) rfl rfl rfl rfl fun a S=>s_pick S (b:=false) (hc_of rfl rfl) rfl rfl fun a S=>s_as1 S rfl fun a S=>c_end (wp_ret ?_)
        obtain rfl:=sI h12
        exact b_ret1 (d:=(.b false)) S rfl rfl (S.rt hb)
      ·refine s_gF S (b:=t13) rfl rfl c5 rfl fun a S=>s_gF S (b:=t13) rfl rfl c5 rfl fun a S=>s_gF S (b:=t13) rfl rfl c5 rfl fun a S=>s_gF S (b:=t13) rfl rfl c5 rfl fun a S=>s_gF S (b:=t13) rfl rfl c5 rfl fun a S=>s_pick S (b:=false) (hc_of rfl c5) rfl rfl fun a S=>s_mv1 S rfl fun a S=>s_gF S (b:=false) rfl rfl rfl rfl fun a S=>s_gF S (b:=false) rfl rfl rfl rfl fun a S=>s_gF S (b:=false) rfl rfl rfl rfl fun a S=>s_pick S (b:=false) (hc_of rfl rfl) rfl rfl fun a S=>s_mv1 S rfl fun a S=>s_gF S (b:=false) rfl rfl rfl rfl fun a S=>s_gF S (b:=false) rfl rfl rfl rfl fun a S=>s_gF S (b:=false) rfl rfl rfl rfl fun a S=>s_gF S (b:=false) rfl rfl rfl rfl fun a S=>s_pick S (b:=false) (hc_of rfl rfl) rfl rfl fun a S=>s_as1 S rfl fun a S=>c_end (wp_ret ?_)
       obtain rfl:=sI h10
       exact b_ret1 (d:=(.b false)) S rfl rfl (S.rt hb)
     ·refine s_gF S (b:=(t12==0)) rfl rfl c4 rfl fun a S=>s_gF S (b:=(t12==0)) rfl rfl c4 rfl fun a S=>s_gF S (b:=(t12==0)) rfl rfl c4 rfl fun a S=>s_pick S (b:=false) (hc_of rfl c4) rfl rfl fun a S=>s_mv1 S rfl fun a S=>s_gF S (b:=false) rfl rfl rfl rfl fun a S=>s_gF S (b:=false) rfl rfl rfl rfl fun a S=>s_gF S (b:=false) rfl rfl rfl rfl fun a S=>s_gF S (b:=false) rfl rfl rfl rfl fun a S=>s_gF S (b:=false) rfl rfl rfl rfl fun a S=>s_pick S (b:=false) (hc_of rfl rfl) rfl rfl fun a S=>s_mv1 S rfl fun a S=>s_gF S (b:=false) rfl rfl rfl rfl fun a S=>s_gF S (b:=false) rfl rfl rfl rfl fun a S=>s_gF S (b:=false) rfl rfl rfl rfl fun a S=>s_pick S (b:=false) (hc_of rfl rfl) rfl rfl fun a S=>s_mv1 S rfl fun a S=>s_gF S (b:=false) rfl rfl rfl rfl fun a S=>s_gF S (b:=false) rfl rfl rfl rfl fun a S=>s_gF S (b:=false) rfl rfl rfl rfl fun a S=>s_gF S (b:=false) rfl rfl rfl rfl fun a S=>s_pick S (b:=false) (hc_of rfl rfl) rfl rfl fun a S=>s_as1 S rfl fun a S=>c_end (wp_ret ?_)
      obtain rfl:=sI h8
      exact b_ret1 (d:=(.b false)) S rfl rfl (S.rt hb)
   refine c_region (s_mv1 S rfl fun a S=>bindX h6 fun t17 et17 h7=>s_callK S (fi0_.ok k et17) N11 rfl .pre (fun _=> .n) rfl fun ch16 m le1 a w S=>s_lenS S rfl underlying23 rfl fun a S=>s_mv1 S rfl fun a S=>c_end (wp_block ?_))
   replace S:=S.nilrow (Ty.arr .i64 2) 103
   replace S:=S.cellN 1 Y122 .h2 rfl
   replace S:=S.cellN 2 (Ty.arr .u8 20) .h2 rfl
   replace S:=S.cellN 3 Y133 .h2 rfl
   replace S:=S.cellN 5 Y100 .h2 rfl
   replace S:=S.cellJ (x:= .sl none (([]:List ST37)).length 0 (SR37 none ([]:List ST37))) 7 .h2 rfl rfl SN37
   refine c_loop (fun q1 a w=>∃ (m:Mem) (A5:Option Addr) (nn16:Nat) (cp22:Nat) (y45:List (List Int)) (y46:Int) (A6:Option Addr) (cp23:Nat) (g57:Nat) (g58:Nat) (g59:Nat) (g60:Nat) (y47:ST37) (cc5:(Option Addr×Nat)×(Option Addr×Nat)×(Option Addr×Nat)×(Option Addr×Nat)×Unit×(Option Addr×Nat)×Unit×(Option Addr×Nat)) (A7:Option Addr) (cp24:Nat) (y48:List L71) (g61:Nat) (y49:List ((List Int)×Option Nat)) (G4:List Nat) (G5:List Nat) (G6:List Nat) (y50:List L110) (y51:List (List ((List Int)×(List Int)))) (y52:List (List ((List Int)×Bool))) (y53:Int) (A8:Option Addr) (nn17:Nat) (cp25:Nat) (y54:List L100) (A9:Option Addr) (nn18:Nat) (cp26:Nat) (y55:List Clo) (A10:Option Addr) (nn19:Nat) (cp27:Nat) (y56:List (List Int)),St 89 m b0 [(12,(.s A5 nn16 cp22)),(34,(.i y46)),(33,(.i ((t17).length:Int))),(32,(.q Y46 A6 cp23 t17)),(11,(.p g57)),(10,(.p g58)),(9,(.v (.pointer (some ⟨ch4.1,0,none⟩)))),(7,(.p g59)),(6,(.p g60))] ([Res.row (Ty.arr .i64 2) 103 A5 nn16 cp22 y45,Res.cells g57 37 [.q Y71 ch_0_0 ch_0_1 x1, .s none 0 0, .s none 0 0, .s none 0 0, .i 0, .s none 0 0, .b true, .s none 0 0],Res.cells g58 37 (SY37.segs y47 cc5)]++MS1 (y48,(y49,y50,y51,y52),y53,y54,y55,y56) (ch4.1,A7,cp24,g61,G4,G5,G6,A8,nn17,cp25,A9,nn18,cp26,A10,nn19,cp27)++[Res.cells g59 43 [.w4 x4],Res.cells g60 40 [.b20 x3]]) a w∧fd_.l1 k x1 x3 x4 t17 q1 y45 y46 y47 y48 y49 y50 y51 y52 y53 y54 y55 y56=some r) ?_ ?_ (k:=k) ⟨_,none,0,0,([]:List (List Int)),0,ch16.1,ch16.2,g4,g3,g2,g1,(ST37.mk (x1,([]:List (L71×Bool×Bool)),([]:List (List Int)),([]:List ((List Int)×(List Int))),0,([]:List L100),true,([]:List ST37))),((ch_0_0,ch_0_1),(none,0),(none,0),(none,0),(),(none,0),(),(none,0)),ch4.2.1,ch4.e3,t4.1,ch4.e4,t4.2.1.1,ch4.e5,ch4.e6,ch4.e7,t4.2.1.2.1,t4.2.1.e3,t4.2.1.t3,t4.e3,ch4.e8,ch4.e9,ch4.e10,t4.e4,ch4.e11,ch4.e12,ch4.e13,t4.e5,ch4.e14,ch4.e15,ch4.t15,t4.t5,(S.sb rfl (.c0 (.c0 (.c0 (.c0 (.c0 (.c0 (.c0 (.c0 (.c0 (.c0 (.c0 (.c0 (.c0 .n)))))))))))))),h7⟩
   ·rintro a w ⟨m,A5,nn16,cp22,y45,y46,A6,cp23,g57,g58,g59,g60,y47,cc5,A7,cp24,y48,g61,y49,G4,G5,G6,y50,y51,y52,y53,A8,nn17,cp25,y54,A9,nn18,cp26,y55,A10,nn19,cp27,y56,S,h0⟩
    exact (nomatch (show (none:Option Bool)=some r from h0))
   ·clear S h7
    rintro q1 a w ⟨m,A5,nn16,cp22,y45,y46,A6,cp23,g57,g58,g59,g60,y47,cc5,A7,cp24,y48,g61,y49,G4,G5,G6,y50,y51,y52,y53,A8,nn17,cp25,y54,A9,nn18,cp26,y55,A10,nn19,cp27,y56,S,h0⟩
    replace h0:fd_.b1 k x1 x3 x4 t17 (fd_.l1 k x1 x3 x4 t17 q1) y45 y46 y47 y48 y49 y50 y51 y52 y53 y54 y55 y56=some r:=h0
    delta fd_.b1 at h0
    refine c_region (s_bi S rfl fun a S=>c_end (wp_seq ?_))
    rcases ite_of h0 with ⟨c8,h1⟩ | ⟨c8,h1⟩
    ·refine c_condT S rfl c8 (wp_skip (x_thenN (wp_seq_k fun K2 hK2=>?_)))
     have j2:∀ (m:Mem) (A11:Option Addr) (nn20:Nat) (cp28:Nat) (y57:List (List Int)) (g63:Nat) (g64:Nat) (g65:Nat) (g66:Nat) (y58:ST37) (cc6:(Option Addr×Nat)×(Option Addr×Nat)×(Option Addr×Nat)×(Option Addr×Nat)×Unit×(Option Addr×Nat)×Unit×(Option Addr×Nat)) (A12:Option Addr) (cp29:Nat) (y59:List L71) (g67:Nat) (y60:List ((List Int)×Option Nat)) (G7:List Nat) (G8:List Nat) (G9:List Nat) (y61:List L110) (y62:List (List ((List Int)×(List Int)))) (y63:List (List ((List Int)×Bool))) (y64:Int) (A13:Option Addr) (nn21:Nat) (cp30:Nat) (y65:List L100) (A14:Option Addr) (nn22:Nat) (cp31:Nat) (y66:List Clo) (A15:Option Addr) (nn23:Nat) (cp32:Nat) (y67:List (List Int)) (a:Act) (w:World),St 89 m b0 [(12,(.s A11 nn20 cp28)),(34,(.i y46)),(33,(.i ((t17).length:Int))),(32,(.q Y46 A6 cp23 t17)),(11,(.p g63)),(10,(.p g64)),(9,(.v (.pointer (some ⟨ch4.1,0,none⟩)))),(7,(.p g65)),(6,(.p g66))] ([Res.row (Ty.arr .i64 2) 103 A11 nn20 cp28 y57]++MS1 (y59,(y60,y61,y62,y63),y64,y65,y66,y67) (ch4.1,A12,cp29,g67,G7,G8,G9,A13,nn21,cp30,A14,nn22,cp31,A15,nn23,cp32)++[Res.cells g63 37 [.q Y71 ch_0_0 ch_0_1 x1, .s none 0 0, .s none 0 0, .s none 0 0, .i 0, .s none 0 0, .b true, .s none 0 0],Res.cells g64 37 (SY37.segs y58 cc6),Res.cells g65 43 [.w4 x4],Res.cells g66 40 [.b20 x3]]) a w→fd_.j2 y46 (fd_.l1 k x1 x3 x4 t17 q1) y57 y58 y59 y60 y61 y62 y63 y64 y65 y66 y67=some r→K2 a w:=by
      intro m A11 nn20 cp28 y57 g63 g64 g65 g66 y58 cc6 A12 cp29 y59 g67 y60 G7 G8 G9 y61 y62 y63 y64 A13 nn21 cp30 y65 A14 nn22 cp31 y66 A15 nn23 cp32 y67 a w S h0
      delta fd_.j2 at h0
      refine hK2 a w (c_region' (s_bi S rfl fun a S=>s_mv1 S rfl fun a S=>c_end' (x_thenN ?_)))
      exact ⟨_,A11,nn20,cp28,y57,(wr .i64 (y46+1)),A6,cp23,g63,g64,g65,g66,y58,cc6,A12,cp29,y59,g67,y60,G7,G8,G9,y61,y62,y63,y64,A13,nn21,cp30,y65,A14,nn22,cp31,y66,A15,nn23,cp32,y67,(S.sb rfl (.c0 (.c8 (.c8 (.c0 (.c0 (.c0 (.c0 (.c0 (.c0 (.c0 (.c0 (.c0 (.c0 .n)))))))))))))),h0⟩
     refine wp_block (c_region ?_)
     obtain ⟨c9,h2⟩:=chk_of h1; clear h1
     refine s_iaddrS S rfl rfl rfl underlying23 T46 c9.1 c9.2 rfl fun p1 a S=>s_ldA S (fun (c:Unit×Unit×Unit×Unit×Unit×(Option Addr×Nat))=>(Y46.segs (gt t17 y46) c)) rfl T46 (fun _=>rfl) rfl fun ch19 a S=>?_
     refine s_alloc S Z46 rfl ⟨rfl,rfl,rfl,rfl,rfl,rfl,tv⟩ rfl fun g68 a w S=>s_store S rfl rfl rfl (s':=(Y46.segs (gt t17 y46) ch19)) .h T46 rfl rfl fun w S=>c_end (c_region (s_fieldAddr S rfl I46_0 T3 (by decide) rfl rfl fun a S=>s_load1 S rfl .h T3 (v:=(.int .i64 ((gt t17 y46).1))) rfl rfl fun a S=>s_bi S rfl fun a S=>c_end ?_))
     rcases ite_of h2 with ⟨c10,h3⟩ | ⟨c10,h3⟩
     ·refine c_condT S rfl c10 (c_region' (s_mv1 S rfl fun a S=>s_loada S rfl .h3 T37 (s':=(SY37.segs y47 cc5)) rfl rfl fun a S=>s_mv1 S rfl fun a S=>s_loada S rfl .h T46 (s':=(Y46.segs (gt t17 y46) ch19)) rfl rfl fun a S=>bindX h3 fun t19 et19 h4=>s_callK S (fg6_.ok k (ch_0:=(ch4.1,A7,cp24,g61,G4,G5,G6,A8,nn17,cp25,A9,nn18,cp26,A10,nn19,cp27)) (ch_1_0:=cc5) et19) N12 rfl (.c4 (.c4 (.c4 (.c4 (.c4 (.c4 (.c4 (.c4 (.c1 .n))))))))) (fun _=> .c9) rfl fun ch20 m le1 a w S=>s_mv1 S rfl fun a S=>s_extract S rfl rfl rfl rfl fun a S=>s_extract S rfl rfl rfl rfl fun a S=>s_extract S rfl rfl rfl rfl fun a S=>s_store S rfl rfl rfl (s':=(SY37.segs t19.2.1 ch20.1)) .h11 T37 rfl rfl fun w S=>s_as1 S rfl fun a S=>c_end' (x_blockN (x_thenN ?_))))
      exact j2 _ ch20.2.1 ch20.e3 ch20.e4 t19.e3 g57 g58 g59 g60 t19.2.1 ch20.1 ch20.e5 ch20.e6 t19.e4 ch20.e7 t19.e5.1 ch20.e8 ch20.e9 ch20.e10 t19.e5.2.1 t19.e5.e3 t19.e5.t3 t19.e6 ch20.e11 ch20.e12 ch20.e13 t19.e7 ch20.e14 ch20.e15 ch20.e16 t19.e8 ch20.e17 ch20.e18 ch20.t18 t19.t8 a w (S.sb rfl (.c0 (.c0 (.c0 (.c0 (.c0 (.c0 (.c0 (.c0 (.c0 (.c1 (.c1 (.c1 (.c1 .n)))))))))))))) h4
     ·refine c_condF S rfl c10 (wp_skip (x_blockN (x_thenN ?_)))
      exact j2 _ A5 nn16 cp22 y45 g57 g58 g59 g60 y47 cc5 A7 cp24 y48 g61 y49 G4 G5 G6 y50 y51 y52 y53 A8 nn17 cp25 y54 A9 nn18 cp26 y55 A10 nn19 cp27 y56 a w (S.sb rfl (.c1 (.c3 (.c3 (.c3 (.c3 (.c3 (.c3 (.c3 (.c3 (.c1 (.c1 (.c1 (.c1 .n)))))))))))))) h3
    ·refine c_condF S rfl c8 (wp_exit (x_thenX (x_thenX (x_blockX (x_thenN ?_)))))
     exact j1 _ g57 g58 g59 g60 y47 cc5 A7 cp24 y48 g61 y49 G4 G5 G6 y50 y51 y52 y53 A8 nn17 cp25 y54 A9 nn18 cp26 y55 A10 nn19 cp27 y56 a w (S.sb rfl (.c1 (.c1 (.c1 (.c1 (.c1 (.c1 (.c1 (.c1 (.c1 (.c1 (.c1 (.c1 .n))))))))))))) h1
end
end GW
