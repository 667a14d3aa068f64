import Derived.Test.YtdajnflppnlhiaaGreatProg
import Derived.Test.YtdajnflppnlhiaaGreatGF
set_option linter.unusedVariables false
set_option linter.unusedSimpArgs false
set_option maxRecDepth 10000
set_option maxHeartbeats 4000000
namespace GW
open Go Go.RowKit Go.Proofs Go.Proofs.Tryz
noncomputable section
abbrev fe4_.Ty:Type:=W2→Option (List L71)
def fe4_.Ctr (s:fe4_.Ty):Prop:=∀ {x1:W2} {ch_0:W3} {r:List L71} (h0:s x1=some r) {mi:Mem} {w0:World},CtrB Tryz.prog 26 [(.v (.pointer (some ⟨ch_0.1,0,none⟩)))] (MS1 x1 ch_0) (fun (ch:(Option Addr)×Nat×Nat)=>((.s ch.1 ch.2.1 ch.t2):D)) (fun (ch:(Option Addr)×Nat×Nat)=>([Res.row Y71 71 ch.1 ch.2.1 ch.t2 r]++MS1 x1 ch_0)) mi w0
def fe4_.j1 (k:Nat)(y1:List L71):Option (List L71):=(fj2_.f G2 k y1).bind fun t1=>(some t1)
def fe4_.j2 (k:Nat)(x1:W2)(y14:List L71)(y15:W33)(rec1:(List L71)→W33→Option (List L71))(e1:(List Int)×(Option Nat))(y16:List Int)(y17:Int)(y18:List Int)(y19:List Int)(y20:W18):Option (List L71):=if e1.2.isSome=true then ((fj7_.f k (y16,y17,y18,y19,y20) ((atE x1.2.1.2.1 (e1.2.getD 0)).1)).bind fun t10=>(if (!t10)=true then (if ((y14).length+([(y16,y17,y18,y19,y20)]).length)*112≤140737488355328 then (rec1 (y14++[(y16,y17,y18,y19,y20)]) (adel y15 e1.1)) else none) else (rec1 y14 (adel y15 e1.1)))) else none
def fe4_.b1 (k:Nat)(x1:W2)(rec1:(List L71)→W33→Option (List L71))(y14:List L71)(y15:W33):Option (List L71):=rngL y15 (fe4_.j1 k y14) fun e1=>if e1.2.isSome=true then (if (!((atE x1.2.1.2.1 (e1.2.getD 0)).2.2.2.2.1))=true then ((fb8_.f (((atE x1.2.1.2.1 (e1.2.getD 0)).2.1).2.2.2.1)).bind fun t11=>((fe7_.f k ((atE x1.2.1.2.1 (e1.2.getD 0)).1,(atE x1.2.1.2.1 (e1.2.getD 0)).2.1,(atE x1.2.1.2.1 (e1.2.getD 0)).2.2.1,atE x1.2.1.2.2.1 ((atE x1.2.1.2.1 (e1.2.getD 0)).2.2.2.1),(atE x1.2.1.2.1 (e1.2.getD 0)).2.2.2.2.1,(atE x1.2.1.2.1 (e1.2.getD 0)).2.2.2.2.2.1,atE x1.2.1.2.2.2 ((atE x1.2.1.2.1 (e1.2.getD 0)).2.2.2.2.2.2))).bind fun t12=>(fe4_.j2 k x1 y14 y15 rec1 e1 (((atE x1.2.1.2.1 (e1.2.getD 0)).2.1).1) (((atE x1.2.1.2.1 (e1.2.getD 0)).2.1).2.1) (((atE x1.2.1.2.1 (e1.2.getD 0)).2.1).2.2.1) t11 t12))) else (fe4_.j2 k x1 y14 y15 rec1 e1 e1.1 0 [0,0,0,0] ([]:List Int) ([]:List ((List Int)×(List Int))))) else none
def fe4_.l1 (k:Nat)(x1:W2):Nat→(List L71)→W33→Option (List L71)
  | 0,_,_=>none
  | q+1,y14,y15=>fe4_.b1 k x1 (fe4_.l1 k x1 q) y14 y15
def fe4_.f (k:Nat)(x1:W2):Option (List L71):=fe4_.l1 k x1 k ([]:List L71) x1.2.1.1
theorem fe4_.ok (k:Nat):fe4_.Ctr (fe4_.f k):=by
 intro x1 ch_0 r h0 mi w0 ok hm
 delta fe4_.f at h0
 refine c_enterZ (n:=55) ok hm func26 rfl rfl rfl fun b0 hb a S=>c_region (s_as1 S rfl fun a S=>c_end (c_region (s_as1 S rfl fun a S=>c_end (wp_seq (c_region (s_mv1 S rfl fun a S=>s_eqp S (b:=false) rfl rfl underlying26 rfl rfl fun a S=>c_end (c_condF S rfl rfl (wp_skip (x_thenN (wp_seq_k fun K1 hK1=>?_))))))))))
 have j1:∀ m A1 nn1 cp1 y1 a w,St 55 m b0 [(3,(.s A1 nn1 cp1))] ([Res.row Y71 71 A1 nn1 cp1 y1]++MS1 x1 ch_0) a w→fe4_.j1 k y1=some r→K1 a w:=by
  intro m A1 nn1 cp1 y1 a w S h0
  delta fe4_.j1 at h0
  refine hK1 a w (c_region (s_mv1 S rfl fun a S=>bindX h0 fun t1 et1 h1=>s_callK S (fj2_.ok G2 H2 k et1) N61 rfl .pre (fun _=> .c1) rfl fun ch1 m le1 a w S=>c_end (c_region (s_mv1 S rfl fun a S=>s_as1 S rfl fun a S=>c_end (wp_ret ?_)))))
  obtain rfl:=Option.some.inj h1
  exact b_ret1 (d:=(.s A1 nn1 cp1)) S rfl rfl fun ok=>S.retX (Hx:=[]) hb _ _ ((A1,nn1,cp1):(Option Addr)×Nat×Nat) (.c0 (.c0 (.c0 (.c0 (.c0 (.c0 (.c0 (.c0 (.c0 .n))))))))) ok
 refine c_region (s_mv1 S rfl fun a S=>s_nilchk S rfl rfl fun a S=>s_fieldAddr S rfl I79_1 T76 (by decide) rfl rfl fun a S=>s_load1 S rfl .h T76 (v:=(.map (some ch_0.e4))) rfl rfl fun a S=>s_rangeO S rfl (fun _ _=> .h1) underlying76 rfl fun g1 es1 ck1 a w S=>c_end (wp_block ?_))
 replace S:=S.nilrow Y71 71
 refine c_loop (fun q1 a w=>∃ m A2 nn3 cp9 y14 g14 y15 cu1,St 55 m b0 [(3,(.s A2 nn3 cp9)),(14,(.p g14))] [Res.row Y71 71 A2 nn3 cp9 y14,Res.iterx true (Ty.arr .u8 20) false (Ty.pid ch_0.e5) g14 ch_0.e4 es1 ck1 x1.2.1.1 y15 cu1,Res.cells ch_0.1 79 [.rf (.iface 75 (.agg (cellsOf [.q Y71 ch_0.2.1 ch_0.e3 x1.1]).toArray)) (IfR [.q Y71 ch_0.2.1 ch_0.e3 x1.1]), .one (.map (some ch_0.e4)), .i x1.e3, .s ch_0.e8 ch_0.e9 ch_0.e10, .s ch_0.e11 ch_0.e12 ch_0.e13, .s ch_0.e14 ch_0.e15 ch_0.t15],Res.mapx true (Ty.arr .u8 20) false (Ty.pid ch_0.e5) ch_0.e4 es1 ck1 x1.2.1.1,Res.fam (Res.struct (YE110 ch_0.e6 ch_0.e7) 110) (one_struct _ _) ch_0.e5 [] x1.2.1.2.1,Res.fam (fun g_ kvs_=>Res.map true (Ty.arr .u64 4) true (Ty.arr .u64 4) g_ kvs_) (one_map true (Ty.arr .u64 4) true (Ty.arr .u64 4)) ch_0.e6 [] x1.2.1.e3,Res.fam (fun g_ kvs_=>Res.map true (Ty.arr .u64 4) false Ty.bool g_ kvs_) (one_map true (Ty.arr .u64 4) false Ty.bool) ch_0.e7 [] x1.2.1.t3,Res.row Y100 100 ch_0.e8 ch_0.e9 ch_0.e10 x1.e4,Res.row (YC ch_0.1 ch_0.e5 ch_0.e6 ch_0.e7) 1 ch_0.e11 ch_0.e12 ch_0.e13 x1.e5,Res.row (Ty.arr .u8 20) 40 ch_0.e14 ch_0.e15 ch_0.t15 x1.t5] a w∧fe4_.l1 k x1 q1 y14 y15=some r) ?_ ?_ (k:=k) ⟨_,none,0,0,([]:List L71),g1,x1.2.1.1,none,(S.sb rfl (.c0 (.c0 (.c0 (.c0 (.c0 (.c0 (.c0 (.c0 (.c0 (.c0 .n))))))))))),h0⟩
 ·rintro a w ⟨m,A2,nn3,cp9,y14,g14,y15,cu1,S,h0⟩
  exact (nomatch (show (none:Option (List L71))=some r from h0))
 ·clear S h0
  rintro q1 a w ⟨m,A2,nn3,cp9,y14,g14,y15,cu1,S,h0⟩
  replace h0:fe4_.b1 k x1 (fe4_.l1 k x1 q1) y14 y15=some r:=h0
  delta fe4_.b1 at h0
  refine c_region ?_
  refine s_nextO S rfl (fun _ _=> .h1) .h3 rfl ?_ ?_
  ·clear S a; intro hR a S
   have h1:=(rng_of h0).1 hR; clear h0
   refine s_extract S rfl rfl rfl rfl fun a S=>c_end (wp_seq (c_condF S rfl rfl (wp_exit (x_thenX (x_thenX (x_blockX (x_thenN ?_)))))))
   exact j1 _ A2 nn3 cp9 y14 a w (S.sub ⟨rfl,trivial⟩ (.c0 (.c1 (.c1 (.c1 (.c1 (.c1 (.c1 (.c1 (.c1 .n)))))))))) h1
  ·clear S a w; intro e1 hee1 ch24 ch25 a w S
   have h1:=(rng_of h0).2 e1 hee1; clear h0
   refine s_extract S rfl rfl rfl rfl fun a S=>c_end (wp_seq (c_condT S rfl rfl (wp_skip (x_thenN (wp_block (c_region (s_entryO S rfl .h1 .h3 rfl fun ch26 ch27 a S=>s_extract S rfl rfl rfl rfl fun a S=>s_extract S rfl rfl rfl rfl fun a S=>s_alloc S Z40 rfl ⟨rfl,trivial⟩ rfl fun g15 a w S=>s_store S rfl rfl rfl (s':=[.b20 e1.1]) .h T40 rfl rfl fun w S=>s_as1 S rfl fun a S=>c_end (c_region (s_loada S rfl .h T40 (s':=[.b20 e1.1]) rfl rfl fun a S=>s_bldS S (ds:=[(0,(.agg [.b20 e1.1]))]) (zs:=[.b20 z20, .w 0, .w4 [0,0,0,0], .s none 0 0, .s none 0 0]) (s':=[.b20 e1.1, .w 0, .w4 [0,0,0,0], .s none 0 0, .s none 0 0]) rfl underlying71 P71 Z71 ⟨rfl,rfl,rfl,rfl,rfl,trivial⟩ rfl rfl fun a S=>s_alloc S Z71 rfl ⟨rfl,rfl,rfl,rfl,rfl,trivial⟩ rfl fun g16 a w S=>s_store S rfl rfl rfl (s':=[.b20 e1.1, .w 0, .w4 [0,0,0,0], .s none 0 0, .s none 0 0]) .h T71 rfl rfl fun w S=>c_end (wp_seq_k fun K2 hK2=>?_))))))))))
   have j2:∀ m g17 g18 y16 y17 y18 A3 nn4 cp10 y19 A4 nn5 cp11 y20 a w,St 55 m b0 [(6,(.p g17)),(5,(.rf (ptrV ch_0.e5 e1.2) (ptrR ch_0.e5 e1.2))),(3,(.s A2 nn3 cp9)),(14,(.p g18))] [Res.row Y83 83 A4 nn5 cp11 y20,Res.row yb 5 A3 nn4 cp10 y19,Res.cells g17 71 [.b20 y16, .w y17, .w4 y18, .s A3 nn4 cp10, .s A4 nn5 cp11],Res.row Y71 71 A2 nn3 cp9 y14,Res.iterx true (Ty.arr .u8 20) false (Ty.pid ch_0.e5) g18 ch_0.e4 es1 ck1 x1.2.1.1 (adel y15 e1.1) (some e1),Res.cells ch_0.1 79 [.rf (.iface 75 (.agg (cellsOf [.q Y71 ch_0.2.1 ch_0.e3 x1.1]).toArray)) (IfR [.q Y71 ch_0.2.1 ch_0.e3 x1.1]), .one (.map (some ch_0.e4)), .i x1.e3, .s ch_0.e8 ch_0.e9 ch_0.e10, .s ch_0.e11 ch_0.e12 ch_0.e13, .s ch_0.e14 ch_0.e15 ch_0.t15],Res.mapx true (Ty.arr .u8 20) false (Ty.pid ch_0.e5) ch_0.e4 es1 ck1 x1.2.1.1,Res.fam (Res.struct (YE110 ch_0.e6 ch_0.e7) 110) (one_struct _ _) ch_0.e5 [] x1.2.1.2.1,Res.fam (fun g_ kvs_=>Res.map true (Ty.arr .u64 4) true (Ty.arr .u64 4) g_ kvs_) (one_map true (Ty.arr .u64 4) true (Ty.arr .u64 4)) ch_0.e6 [] x1.2.1.e3,Res.fam (fun g_ kvs_=>Res.map true (Ty.arr .u64 4) false Ty.bool g_ kvs_) (one_map true (Ty.arr .u64 4) false Ty.bool) ch_0.e7 [] x1.2.1.t3,Res.row Y100 100 ch_0.e8 ch_0.e9 ch_0.e10 x1.e4,Res.row (YC ch_0.1 ch_0.e5 ch_0.e6 ch_0.e7) 1 ch_0.e11 ch_0.e12 ch_0.e13 x1.e5,Res.row (Ty.arr .u8 20) 40 ch_0.e14 ch_0.e15 ch_0.t15 x1.t5] a w→fe4_.j2 k x1 y14 y15 (fe4_.l1 k x1 q1) e1 y16 y17 y18 y19 y20=some r→K2 a w:=by
    intro m g17 g18 y16 y17 y18 A3 nn4 cp10 y19 A4 nn5 cp11 y20 a w S h0
    delta fe4_.j2 at h0
    refine hK2 a w ?_
    refine wp_seq (c_hS S (.take 0 (.take 1 (.alts (.run 2 true (.take 3 (.alts (.run 4 true (.alts (.run 5 false (.pure 6 .done) .nil)) .nil))) .nil)))) 5 (.c2 .n) ⟨Res.stay_cells,trivial⟩ [(6,(.p g17)),(5,(.rf (ptrV ch_0.e5 e1.2) (ptrR ch_0.e5 e1.2)))] rfl (by kernel_rfl) ?_); clear S; intro w S CL hw le
    refine h_loada S CL hw le (subR rfl) rfl .h T71 (s':=[.b20 y16, .w y17, .w4 y18, .s A3 nn4 cp10, .s A4 nn5 cp11]) rfl rfl rfl trivial fun a S CL=>h_mv1 S CL hw le rfl trivial fun a S CL=>h_run' S rfl trivial ?_
    obtain ⟨c1,h1⟩:=chk_of h0; clear h0
    have hl1:=S.slotPlt (u:=42) c1 rfl
    replace S:=S.slotP (u:=42) c1 rfl
    replace CL:=CL.drop (lq':=[(41,(.agg [.b20 y16, .w y17, .w4 y18, .s A3 nn4 cp10, .s A4 nn5 cp11])),(6,(.p g17)),(5,(.rf (ptrV ch_0.e5 e1.2) (ptrR ch_0.e5 e1.2)))]) (subR rfl)
    refine s_nilchk S rfl rfl fun a S=>CL.bk hw S (.c2 .n) le fun hw=>?_
    replace CL:=CL.add (t:=43) (d:=(.v (.pointer (some ⟨(bAt ch_0.e5 (e1.2.getD 0)),0,none⟩)))) S rfl rfl
    refine h_fieldAddr S CL hw le (subR rfl) rfl I110_0 T71 (by decide) rfl rfl rfl trivial fun a S CL=>h_run' S rfl trivial ?_
    replace S:=S.famOpen (i:=(e1.2.getD 0)) hl1 .h7
    have hS:=S.structOpen (T:=(YE110 ch_0.e6 ch_0.e7)) (fun _=> .h) (((),(),(),(none,0),(none,0)),((),(),(),(none,0),(none,0)),(),(),(),(),())
    clear S; obtain ⟨ch34,S⟩:=hS
    refine s_loada S rfl .h T71 (s':=(Y71.segs ((atE x1.2.1.2.1 (e1.2.getD 0)).1) ch34.1)) rfl rfl fun a S=>?_
    replace S:=S.structClose (T:=(YE110 ch_0.e6 ch_0.e7)) (e:=atE x1.2.1.2.1 (e1.2.getD 0)) (ch34:((YE110 ch_0.e6 ch_0.e7)).Ch) rfl .h
    replace S:=S.famShut hl1 .h .h7
    refine CL.bk hw S (.c2 .n) le fun hw=>h_run' S rfl trivial ?_
    replace S:=S.rowfro .h1
    obtain ⟨m,le1,S,hro⟩:=S
    replace le:=le.trans le1
    replace S:=S.slotF 41 3 rfl rfl hro
    replace S:=S.cellF 3 .h1 rfl hro
    replace S:=S.rowfro .h
    obtain ⟨m,le1,S,hro⟩:=S
    replace le:=le.trans le1
    replace S:=S.slotF 41 4 rfl rfl hro
    replace S:=S.cellF 4 .h rfl hro
    replace CL:=CL.drop (lq':=[(44,(.v (.pointer (some ⟨(bAt ch_0.e5 (e1.2.getD 0)),0,none⟩)))),(43,(.v (.pointer (some ⟨(bAt ch_0.e5 (e1.2.getD 0)),0,none⟩)))),(6,(.p g17)),(5,(.rf (ptrV ch_0.e5 e1.2) (ptrR ch_0.e5 e1.2)))]) (subR rfl)
    refine bindX h1 fun t10 et10 h2=>s_callK S (fj7_.ok k et10) N60 rfl .pre (fun _=> .n) rfl fun ch35 m le1 a w S=>?_
    replace le:=le.trans le1
    refine h_back ⟨fun h=>(nomatch h),?_⟩
    refine p_not S rfl rfl rfl trivial fun a S=>?_
    refine h_done ?_; clear CL hw le
    refine x_thenN ?_
    rcases ite_of h2 with ⟨c2,h3⟩ | ⟨c2,h3⟩
    ·refine c_condT S rfl c2 (c_region' (s_mv1 S rfl fun a S=>s_loada S rfl .h T71 (s':=(Y71.segs (y16,y17,y18,y19,y20) ((),(),(),(A3,cp10),(A4,cp11)))) rfl rfl fun a S=>s_bldSl S (ty':=Y71) (ds:=[(0,(.agg (Y71.segs (y16,y17,y18,y19,y20) ((),(),(),(A3,cp10),(A4,cp11)))))]) (z:=zt1) (c0:=((),(),(),(none,0),(none,0))) (ys:=[(y16,y17,y18,y19,y20)]) (cs:=[((),(),(),(A3,cp10),(A4,cp11))]) rfl underlying22 J71 Z71 rfl ⟨rfl,rfl,rfl,⟨Nat.le_refl _,Nat.zero_le _,RdS.nil _ _ _,RdS.mono _ _ _⟩,⟨Nat.le_refl _,Nat.zero_le _,RdS.nil _ _ _,RdS.mono _ _ _⟩,trivial⟩ rfl rfl rfl rfl rfl rfl fun g19 a w S=>?_))
     obtain ⟨c3,h4⟩:=chk_of h3; clear h3
     refine s_app S (k2:=1) (ys:=[(y16,y17,y18,y19,y20)]) rfl (fun _ _=> .h2) rfl rfl (S.holds _ (Pull.mem .h).1).1 (Res.row.src (S.holds _ (Pull.mem .h).1)) underlying22 J71 c3 rfl fun A5 cp12 a w S=>s_as1 S rfl fun a S=>c_end' (x_blockN (x_thenN ?_))
     exact ⟨_,A5,(nn3+1),cp12,(y14++[(y16,y17,y18,y19,y20)]),g18,(adel y15 e1.1),(some e1),(S.sb rfl (.c2 (.c2 (.c2 (.c2 (.c2 (.c2 (.c2 (.c2 (.c2 (.c2 .n))))))))))),h4⟩
    ·refine c_condF S rfl c2 (wp_skip (x_blockN (x_thenN ?_)))
     exact ⟨_,A2,nn3,cp9,y14,g18,(adel y15 e1.1),(some e1),(S.sb rfl (.c1 (.c1 (.c1 (.c1 (.c1 (.c1 (.c1 (.c1 (.c1 (.c1 .n))))))))))),h3⟩
   refine c_region (s_mv1 S rfl fun a S=>?_)
   obtain ⟨c4,h2⟩:=chk_of h1; clear h1
   have hl1:=S.slotPlt (u:=22) c4 rfl
   replace S:=S.slotP (u:=22) c4 rfl
   refine s_nilchk S rfl rfl fun a S=>s_fieldAddr S rfl I110_4 T4 (by decide) rfl rfl fun a S=>?_
   replace S:=S.famOpen (i:=(e1.2.getD 0)) hl1 .h6
   have hS:=S.structOpen (T:=(YE110 ch_0.e6 ch_0.e7)) (fun _=> .h) (((),(),(),(none,0),(none,0)),((),(),(),(none,0),(none,0)),(),(),(),(),())
   clear S; obtain ⟨ch36,S⟩:=hS
   refine s_load1 S rfl .h T4 (v:=(.bool ((atE x1.2.1.2.1 (e1.2.getD 0)).e5))) rfl rfl fun a S=>?_
   replace S:=S.structClose (T:=(YE110 ch_0.e6 ch_0.e7)) (e:=atE x1.2.1.2.1 (e1.2.getD 0)) (ch36:((YE110 ch_0.e6 ch_0.e7)).Ch) rfl .h
   replace S:=S.famShut hl1 .h .h6
   refine s_not S rfl rfl fun a S=>c_end ?_
   rcases ite_of h2 with ⟨c5,h3⟩ | ⟨c5,h3⟩
   ·refine c_condT S rfl c5 (c_region (s_mv1 S rfl fun a S=>?_))
    have hl1:=S.slotPlt (u:=27) c4 rfl
    replace S:=S.slotP (u:=27) c4 rfl
    refine s_nilchk S rfl rfl fun a S=>s_fieldAddr S rfl I110_1 T71 (by decide) rfl rfl fun a S=>?_
    replace S:=S.famOpen (i:=(e1.2.getD 0)) hl1 .h6
    have hS:=S.structOpen (T:=(YE110 ch_0.e6 ch_0.e7)) (fun _=> .h) (((),(),(),(none,0),(none,0)),((),(),(),(none,0),(none,0)),(),(),(),(),())
    clear S; obtain ⟨ch37,S⟩:=hS
    refine s_loada S rfl .h T71 (s':=(Y71.segs ((atE x1.2.1.2.1 (e1.2.getD 0)).2.1) ch37.2.1)) rfl rfl fun a S=>?_
    replace S:=S.structClose (T:=(YE110 ch_0.e6 ch_0.e7)) (e:=atE x1.2.1.2.1 (e1.2.getD 0)) (ch37:((YE110 ch_0.e6 ch_0.e7)).Ch) rfl .h
    replace S:=S.famShut hl1 .h .h6
    refine s_store S rfl rfl rfl (s':=(Y71.segs ((atE x1.2.1.2.1 (e1.2.getD 0)).2.1) ch37.2.1)) .h T71 rfl rfl fun w S=>c_end (c_region' (s_mv1 S rfl fun a S=>?_))
    have hl1:=S.slotPlt (u:=31) c4 rfl
    replace S:=S.slotP (u:=31) c4 rfl
    refine s_nilchk S rfl rfl fun a S=>s_fieldAddr S rfl I110_1 T71 (by decide) rfl rfl fun a S=>s_fieldAddr S rfl I71_3 T44 (by decide) rfl rfl fun a S=>?_
    replace S:=S.famOpen (i:=(e1.2.getD 0)) hl1 .h6
    have hS:=S.structOpen (T:=(YE110 ch_0.e6 ch_0.e7)) (fun _=> .h) (((),(),(),(none,0),(none,0)),((),(),(),(none,0),(none,0)),(),(),(),(),())
    clear S; obtain ⟨ch38,S⟩:=hS
    refine s_loadSl S rfl .h T44 (A:=ch38.2.1.e4.1) (len:=(((atE x1.2.1.2.1 (e1.2.getD 0)).2.1).e4).length) (cap:=ch38.2.1.e4.2) rfl rfl fun a S=>?_
    replace S:=S.structClose (T:=(YE110 ch_0.e6 ch_0.e7)) (e:=atE x1.2.1.2.1 (e1.2.getD 0)) (ch38:((YE110 ch_0.e6 ch_0.e7)).Ch) rfl .h
    replace S:=S.famShut hl1 .h .h6
    refine bindX h3 fun t11 et11 h4=>s_callK S (fb8_.ok et11) N33 rfl .pre (fun _=> .c1) rfl fun ch39 m le1 a w S=>s_mv1 S rfl fun a S=>?_
    have hl1:=S.slotPlt (u:=37) c4 rfl
    replace S:=S.slotP (u:=37) c4 rfl
    replace S:=S.famOpen (i:=(e1.2.getD 0)) hl1 .h7
    have hS:=S.structOpen (T:=(YE110 ch_0.e6 ch_0.e7)) (fun _=> .h) (((),(),(),(none,0),(none,0)),((),(),(),(none,0),(none,0)),(),(),(),(),())
    clear S; obtain ⟨ch40,S⟩:=hS
    have hm1:=S.cellMlt (s1:=[.b20 (((atE x1.2.1.2.1 (e1.2.getD 0)).1).1), .w (((atE x1.2.1.2.1 (e1.2.getD 0)).1).2.1), .w4 (((atE x1.2.1.2.1 (e1.2.getD 0)).1).e3), .q yb ch40.1.e4.1 ch40.1.e4.2 (((atE x1.2.1.2.1 (e1.2.getD 0)).1).e4), .q Y83 ch40.1.e5 ch40.1.t5 (((atE x1.2.1.2.1 (e1.2.getD 0)).1).t4), .b20 (((atE x1.2.1.2.1 (e1.2.getD 0)).2.1).1), .w (((atE x1.2.1.2.1 (e1.2.getD 0)).2.1).2.1), .w4 (((atE x1.2.1.2.1 (e1.2.getD 0)).2.1).e3), .q yb ch40.2.1.e4.1 ch40.2.1.e4.2 (((atE x1.2.1.2.1 (e1.2.getD 0)).2.1).e4), .q Y83 ch40.2.1.e5 ch40.2.1.t5 (((atE x1.2.1.2.1 (e1.2.getD 0)).2.1).t4), .b ((atE x1.2.1.2.1 (e1.2.getD 0)).e3)]) (s2:=[.b ((atE x1.2.1.2.1 (e1.2.getD 0)).e5), .b ((atE x1.2.1.2.1 (e1.2.getD 0)).e6), .rf (.map (some (bAt ch_0.e7 ((atE x1.2.1.2.1 (e1.2.getD 0)).t6)))) (ltR ((atE x1.2.1.2.1 (e1.2.getD 0)).t6) ch_0.e7)]) .h
    replace S:=S.cellMidO (s1:=[.b20 (((atE x1.2.1.2.1 (e1.2.getD 0)).1).1), .w (((atE x1.2.1.2.1 (e1.2.getD 0)).1).2.1), .w4 (((atE x1.2.1.2.1 (e1.2.getD 0)).1).e3), .q yb ch40.1.e4.1 ch40.1.e4.2 (((atE x1.2.1.2.1 (e1.2.getD 0)).1).e4), .q Y83 ch40.1.e5 ch40.1.t5 (((atE x1.2.1.2.1 (e1.2.getD 0)).1).t4), .b20 (((atE x1.2.1.2.1 (e1.2.getD 0)).2.1).1), .w (((atE x1.2.1.2.1 (e1.2.getD 0)).2.1).2.1), .w4 (((atE x1.2.1.2.1 (e1.2.getD 0)).2.1).e3), .q yb ch40.2.1.e4.1 ch40.2.1.e4.2 (((atE x1.2.1.2.1 (e1.2.getD 0)).2.1).e4), .q Y83 ch40.2.1.e5 ch40.2.1.t5 (((atE x1.2.1.2.1 (e1.2.getD 0)).2.1).t4), .b ((atE x1.2.1.2.1 (e1.2.getD 0)).e3)]) (s2:=[.b ((atE x1.2.1.2.1 (e1.2.getD 0)).e5), .b ((atE x1.2.1.2.1 (e1.2.getD 0)).e6), .rf (.map (some (bAt ch_0.e7 ((atE x1.2.1.2.1 (e1.2.getD 0)).t6)))) (ltR ((atE x1.2.1.2.1 (e1.2.getD 0)).t6) ch_0.e7)]) .h
    replace S:=S.famOpen (i:=((atE x1.2.1.2.1 (e1.2.getD 0)).e4)) hm1 .h9
    have hm2:=S.cellMlt (s1:=[.b20 (((atE x1.2.1.2.1 (e1.2.getD 0)).1).1), .w (((atE x1.2.1.2.1 (e1.2.getD 0)).1).2.1), .w4 (((atE x1.2.1.2.1 (e1.2.getD 0)).1).e3), .q yb ch40.1.e4.1 ch40.1.e4.2 (((atE x1.2.1.2.1 (e1.2.getD 0)).1).e4), .q Y83 ch40.1.e5 ch40.1.t5 (((atE x1.2.1.2.1 (e1.2.getD 0)).1).t4), .b20 (((atE x1.2.1.2.1 (e1.2.getD 0)).2.1).1), .w (((atE x1.2.1.2.1 (e1.2.getD 0)).2.1).2.1), .w4 (((atE x1.2.1.2.1 (e1.2.getD 0)).2.1).e3), .q yb ch40.2.1.e4.1 ch40.2.1.e4.2 (((atE x1.2.1.2.1 (e1.2.getD 0)).2.1).e4), .q Y83 ch40.2.1.e5 ch40.2.1.t5 (((atE x1.2.1.2.1 (e1.2.getD 0)).2.1).t4), .b ((atE x1.2.1.2.1 (e1.2.getD 0)).e3), .one (.map (some (bAt ch_0.e6 ((atE x1.2.1.2.1 (e1.2.getD 0)).e4)))), .b ((atE x1.2.1.2.1 (e1.2.getD 0)).e5), .b ((atE x1.2.1.2.1 (e1.2.getD 0)).e6)]) (s2:=[]) .h1
    replace S:=S.cellMidO (s1:=[.b20 (((atE x1.2.1.2.1 (e1.2.getD 0)).1).1), .w (((atE x1.2.1.2.1 (e1.2.getD 0)).1).2.1), .w4 (((atE x1.2.1.2.1 (e1.2.getD 0)).1).e3), .q yb ch40.1.e4.1 ch40.1.e4.2 (((atE x1.2.1.2.1 (e1.2.getD 0)).1).e4), .q Y83 ch40.1.e5 ch40.1.t5 (((atE x1.2.1.2.1 (e1.2.getD 0)).1).t4), .b20 (((atE x1.2.1.2.1 (e1.2.getD 0)).2.1).1), .w (((atE x1.2.1.2.1 (e1.2.getD 0)).2.1).2.1), .w4 (((atE x1.2.1.2.1 (e1.2.getD 0)).2.1).e3), .q yb ch40.2.1.e4.1 ch40.2.1.e4.2 (((atE x1.2.1.2.1 (e1.2.getD 0)).2.1).e4), .q Y83 ch40.2.1.e5 ch40.2.1.t5 (((atE x1.2.1.2.1 (e1.2.getD 0)).2.1).t4), .b ((atE x1.2.1.2.1 (e1.2.getD 0)).e3), .one (.map (some (bAt ch_0.e6 ((atE x1.2.1.2.1 (e1.2.getD 0)).e4)))), .b ((atE x1.2.1.2.1 (e1.2.getD 0)).e5), .b ((atE x1.2.1.2.1 (e1.2.getD 0)).e6)]) (s2:=[]) .h1
    replace S:=S.famOpen (i:=((atE x1.2.1.2.1 (e1.2.getD 0)).t6)) hm2 .h11
    refine bindX h4 fun t12 et12 h5=>s_callK S (fe7_.ok k et12) N59 rfl (.c2 (.c1 (.c0 .n))) (fun _=> .c4) rfl fun ch41 m le1 a w S=>?_
    replace S:=S.famShut hm2 .h3 .h12
    replace S:=S.cellMid (s1:=[.b20 (((atE x1.2.1.2.1 (e1.2.getD 0)).1).1), .w (((atE x1.2.1.2.1 (e1.2.getD 0)).1).2.1), .w4 (((atE x1.2.1.2.1 (e1.2.getD 0)).1).e3), .q yb ch40.1.e4.1 ch40.1.e4.2 (((atE x1.2.1.2.1 (e1.2.getD 0)).1).e4), .q Y83 ch40.1.e5 ch40.1.t5 (((atE x1.2.1.2.1 (e1.2.getD 0)).1).t4), .b20 (((atE x1.2.1.2.1 (e1.2.getD 0)).2.1).1), .w (((atE x1.2.1.2.1 (e1.2.getD 0)).2.1).2.1), .w4 (((atE x1.2.1.2.1 (e1.2.getD 0)).2.1).e3), .q yb ch40.2.1.e4.1 ch40.2.1.e4.2 (((atE x1.2.1.2.1 (e1.2.getD 0)).2.1).e4), .q Y83 ch40.2.1.e5 ch40.2.1.t5 (((atE x1.2.1.2.1 (e1.2.getD 0)).2.1).t4), .b ((atE x1.2.1.2.1 (e1.2.getD 0)).e3), .one (.map (some (bAt ch_0.e6 ((atE x1.2.1.2.1 (e1.2.getD 0)).e4)))), .b ((atE x1.2.1.2.1 (e1.2.getD 0)).e5), .b ((atE x1.2.1.2.1 (e1.2.getD 0)).e6)]) (s2:=[]) rfl hm2 .h1
    replace S:=S.famShut hm1 .h2 .h10
    replace S:=S.cellMid (s1:=[.b20 (((atE x1.2.1.2.1 (e1.2.getD 0)).1).1), .w (((atE x1.2.1.2.1 (e1.2.getD 0)).1).2.1), .w4 (((atE x1.2.1.2.1 (e1.2.getD 0)).1).e3), .q yb ch40.1.e4.1 ch40.1.e4.2 (((atE x1.2.1.2.1 (e1.2.getD 0)).1).e4), .q Y83 ch40.1.e5 ch40.1.t5 (((atE x1.2.1.2.1 (e1.2.getD 0)).1).t4), .b20 (((atE x1.2.1.2.1 (e1.2.getD 0)).2.1).1), .w (((atE x1.2.1.2.1 (e1.2.getD 0)).2.1).2.1), .w4 (((atE x1.2.1.2.1 (e1.2.getD 0)).2.1).e3), .q yb ch40.2.1.e4.1 ch40.2.1.e4.2 (((atE x1.2.1.2.1 (e1.2.getD 0)).2.1).e4), .q Y83 ch40.2.1.e5 ch40.2.1.t5 (((atE x1.2.1.2.1 (e1.2.getD 0)).2.1).t4), .b ((atE x1.2.1.2.1 (e1.2.getD 0)).e3)]) (s2:=[.b ((atE x1.2.1.2.1 (e1.2.getD 0)).e5), .b ((atE x1.2.1.2.1 (e1.2.getD 0)).e6), .rf (.map (some (bAt ch_0.e7 ((atE x1.2.1.2.1 (e1.2.getD 0)).t6)))) (ltR ((atE x1.2.1.2.1 (e1.2.getD 0)).t6) ch_0.e7)]) rfl hm1 .h1
    replace S:=S.structClose (T:=(YE110 ch_0.e6 ch_0.e7)) (e:=atE x1.2.1.2.1 (e1.2.getD 0)) (ch40:((YE110 ch_0.e6 ch_0.e7)).Ch) rfl .h1
    replace S:=S.famShut hl1 .h1 .h8
    refine s_fieldAddr S rfl I71_3 T44 (by decide) rfl rfl fun a S=>s_storeJ S 3 rfl rfl rfl rfl .h2 T44 rfl rfl fun w S=>s_fieldAddr S rfl I71_4 T69 (by decide) rfl rfl fun a S=>s_storeJ S 4 rfl rfl rfl rfl .h2 T69 rfl rfl fun w S=>c_end' (x_thenN ?_)
    exact j2 _ g16 g14 (((atE x1.2.1.2.1 (e1.2.getD 0)).2.1).1) (((atE x1.2.1.2.1 (e1.2.getD 0)).2.1).2.1) (((atE x1.2.1.2.1 (e1.2.getD 0)).2.1).e3) ch39.1 ch39.2.1 ch39.t2 t11 ch41.1 ch41.2.1 ch41.t2 t12 a w (S.sb rfl (.c0 (.c0 (.c0 (.c1 (.c1 (.c1 (.c1 (.c1 (.c1 (.c1 (.c1 (.c1 (.c1 .n)))))))))))))) h5
   ·refine c_condF S rfl c5 (wp_skip (x_thenN ?_))
    replace S:=S.nilrow yb 5
    replace S:=S.nilrow Y83 83
    exact j2 _ g16 g14 e1.1 0 [0,0,0,0] none 0 0 ([]:List Int) none 0 0 ([]:List ((List Int)×(List Int))) a w (S.sb rfl (.c0 (.c0 (.c0 (.c1 (.c1 (.c1 (.c1 (.c1 (.c1 (.c1 (.c1 (.c1 (.c1 .n)))))))))))))) h3
abbrev fh4_.Ty:Type:=W1→W1→Option Bool
def fh4_.Ctr (s:fh4_.Ty):Prop:=∀ {x1:W1} {x2:W1} {ch_0_0:Option Addr} {ch_0_1:Nat} {ch_0_2:Option Addr} {ch_0_3:Nat} {ch_1_0:Option Addr} {ch_1_1:Nat} {ch_1_2:Option Addr} {ch_1_3:Nat} {r:Bool} (h0:s x1 x2=some r) {mi:Mem} {w0:World},CtrB Tryz.prog 86 [(.agg (Y71.segs x1 ((),(),(),(ch_0_0,ch_0_1),(ch_0_2,ch_0_3)))),(.agg (Y71.segs x2 ((),(),(),(ch_1_0,ch_1_1),(ch_1_2,ch_1_3))))] [] (fun (ch:Unit)=>((.b r):D)) (fun (ch:Unit)=>[]) mi w0
def fh4_.j2:Option Bool:=some true
def fh4_.b1 (x1:W1)(x2:W1)(rec1:Int→Option Bool)(y5:Int):Option Bool:=if (decide (y5<((x1.2.2.2.2).length:Int)))=true then (if (0:Int)≤y5∧y5<((x1.2.2.2.2).length:Int) then (if (0:Int)≤y5∧y5<((x2.2.2.2.2).length:Int) then (if (!(decide (gt x1.2.2.2.2 y5=gt x2.2.2.2.2 y5)))=true then (some false) else (rec1 (wr .i64 (y5+1)))) else none) else none) else fh4_.j2
def fh4_.l1 (x1:W1)(x2:W1):Nat→Int→Option Bool
  | 0,_=>none
  | q+1,y5=>fh4_.b1 x1 x2 (fh4_.l1 x1 x2 q) y5
def fh4_.j1 (k:Nat)(x1:W1)(x2:W1)(y1:Bool):Option Bool:=if y1=true then (some false) else (fh4_.l1 x1 x2 k 0)
def fh4_.f (k:Nat)(x1:W1)(x2:W1):Option Bool:=if (!(decide (x1.1=x2.1)))=true then (fh4_.j1 k x1 x2 true) else (if (x1.2.1 != x2.2.1)=true then (fh4_.j1 k x1 x2 true) else (if (!(decide (x1.2.2.1=x2.2.2.1)))=true then (fh4_.j1 k x1 x2 true) else (if (!((bstr x1.2.2.2.1).toList==(bstr x2.2.2.2.1).toList))=true then (fh4_.j1 k x1 x2 true) else (fh4_.j1 k x1 x2 (((x1.2.2.2.2).length:Int) != ((x2.2.2.2.2).length:Int))))))
theorem fh4_.ok (k:Nat):fh4_.Ctr (fh4_.f k):=by
 intro x1 x2 ch_0_0 ch_0_1 ch_0_2 ch_0_3 ch_1_0 ch_1_1 ch_1_2 ch_1_3 r h0 mi w0 ok hm
 delta fh4_.f at h0
 refine c_enterZ (n:=61) ok hm func86 rfl rfl rfl fun b0 hb a S=>c_region (s_box S rfl rfl rfl fun g1 a w S=>s_box S rfl rfl rfl fun g2 a w S=>s_as1 S rfl fun a S=>c_end (wp_seq (wp_seq_k fun K1 hK1=>?_)))
 have j1:∀ m y1 g3 g4 a w,St 61 m b0 [(42,(.b y1)),(3,(.p g3)),(2,(.p g4))] [Res.cells g3 71 (Y71.segs x2 ((),(),(),(ch_1_0,ch_1_1),(ch_1_2,ch_1_3))),Res.cells g4 71 (Y71.segs x1 ((),(),(),(ch_0_0,ch_0_1),(ch_0_2,ch_0_3)))] a w→fh4_.j1 k x1 x2 y1=some r→K1 a w:=by
  intro m y1 g3 g4 a w S h0
  delta fh4_.j1 at h0
  refine hK1 a w ?_
  rcases ite_of h0 with ⟨c1,h1⟩ | ⟨c1,h1⟩
  ·refine c_condT S rfl c1 (c_region (s_as1 S rfl fun a S=>c_end (wp_ret (x_thenR ?_))))
   obtain rfl:=Option.some.inj h1
   exact b_ret1 (d:=(.b false)) S rfl rfl (S.rt hb)
  ·refine c_condF S rfl c1 (wp_skip (x_thenN (wp_seq_k fun K2 hK2=>?_)))
   have j2:∀ m a w,St 61 m b0 [] [] a w→fh4_.j2=some r→K2 a w:=by
    intro m a w S h0
    delta fh4_.j2 at h0
    refine hK2 a w (c_region (s_as1 S rfl fun a S=>c_end (wp_ret ?_)))
    obtain rfl:=Option.some.inj h0
    exact b_ret1 (d:=(.b true)) S rfl rfl (S.rt hb)
   refine c_region (s_fieldAddr S rfl I71_4 T69 (by decide) rfl rfl fun a S=>s_loadSl S rfl .h1 T69 (A:=ch_0_2) (len:=(x1.t4).length) (cap:=ch_0_3) rfl rfl fun a S=>s_lenS S rfl underlying69 rfl fun a S=>s_mv1 S rfl fun a S=>c_end (wp_block ?_))
   refine c_loop (fun q1 a w=>∃ m y5 g15 g16,St 61 m b0 [(46,(.i y5)),(45,(.i ((x1.t4).length:Int))),(3,(.p g15)),(2,(.p g16))] [Res.cells g15 71 (Y71.segs x2 ((),(),(),(ch_1_0,ch_1_1),(ch_1_2,ch_1_3))),Res.cells g16 71 (Y71.segs x1 ((),(),(),(ch_0_0,ch_0_1),(ch_0_2,ch_0_3)))] a w∧fh4_.l1 x1 x2 q1 y5=some r) ?_ ?_ (k:=k) ⟨_,0,g3,g4,(S.sb rfl (.c0 (.c0 .n))),h1⟩
   ·rintro a w ⟨m,y5,g15,g16,S,h0⟩
    exact (nomatch (show (none:Option Bool)=some r from h0))
   ·clear S h1
    rintro q1 a w ⟨m,y5,g15,g16,S,h0⟩
    replace h0:fh4_.b1 x1 x2 (fh4_.l1 x1 x2 q1) y5=some r:=h0
    delta fh4_.b1 at h0
    refine c_region (s_bi S rfl fun a S=>c_end (wp_seq ?_))
    rcases ite_of h0 with ⟨c2,h1⟩ | ⟨c2,h1⟩
    ·refine c_condT S rfl c2 (wp_skip (x_thenN (wp_seq (wp_block (c_region (s_mv1 S rfl fun a S=>s_as1 S rfl fun a S=>c_end ?_))))))
     refine wp_seq (c_hS S (.tk 0 11 .done) 11 (.c0 (.c0 .n)) ⟨Res.stay_cells,Res.stay_cells,trivial⟩ [(5,(.i y5)),(3,(.p g15)),(2,(.p g16))] rfl (by kernel_rfl) ?_); clear S; intro w S CL hw le
     refine h_fieldAddr S CL hw le (subR rfl) rfl I71_4 T69 (by decide) rfl rfl rfl trivial fun a S CL=>h_loadSl S CL hw le (subR rfl) rfl .h1 T69 (A:=ch_0_2) (len:=(x1.t4).length) (cap:=ch_0_3) rfl rfl rfl trivial fun a S CL=>h_mv1 S CL hw le rfl trivial fun a S CL=>?_
     obtain ⟨c3,h2⟩:=chk_of h1; clear h1
     refine h_iaddrS S CL hw le (subR rfl) rfl rfl rfl underlying69 T83 c3.1 c3.2 rfl rfl trivial fun p1 a S CL=>h_ldA S CL hw le (subR rfl) (fun (c:Unit×Unit)=>[.w4 ((gt x1.t4 y5).1), .w4 ((gt x1.t4 y5).2)]) rfl T83 (fun _=>rfl) rfl rfl trivial fun ch1 a S CL=>?_
     refine h_fieldAddr S CL hw le (subR rfl) rfl I71_4 T69 (by decide) rfl rfl rfl trivial fun a S CL=>h_loadSl S CL hw le (subR rfl) rfl .h T69 (A:=ch_1_2) (len:=(x2.t4).length) (cap:=ch_1_3) rfl rfl rfl trivial fun a S CL=>h_mv1 S CL hw le rfl trivial fun a S CL=>?_
     obtain ⟨c4,h3⟩:=chk_of h2; clear h2
     refine h_iaddrS S CL hw le (subR rfl) rfl rfl rfl underlying69 T83 c4.1 c4.2 rfl rfl trivial fun p2 a S CL=>h_ldA S CL hw le (subR rfl) (fun (c:Unit×Unit)=>[.w4 ((gt x2.t4 y5).1), .w4 ((gt x2.t4 y5).2)]) rfl T83 (fun _=>rfl) rfl rfl trivial fun ch2 a S CL=>?_
     refine h_neS S CL hw le (subR rfl) (ty':=Y83) (p:=gt x1.t4 y5) (q:=gt x2.t4 y5) ((),()) ((),()) rfl rfl E83 rfl Q83 rfl rfl trivial fun a S CL=>?_
     refine h_done ?_; clear CL hw le
     refine x_thenN ?_
     rcases ite_of h3 with ⟨c5,h4⟩ | ⟨c5,h4⟩
     ·refine c_condT S rfl c5 (c_region (s_as1 S rfl fun a S=>c_end (wp_ret (x_blockR (x_thenR (x_thenR (x_blockR (x_thenR ?_))))))))
      obtain rfl:=Option.some.inj h4
      exact b_ret1 (d:=(.b false)) S rfl rfl (S.rt hb)
     ·refine c_condF S rfl c5 (wp_skip (x_blockN (x_thenN (c_region' (s_bi S rfl fun a S=>s_mv1 S rfl fun a S=>c_end' (x_thenN ?_))))))
      exact ⟨_,(wr .i64 (y5+1)),g15,g16,(S.sb rfl (.c0 (.c0 .n))),h4⟩
    ·refine c_condF S rfl c2 (wp_exit (x_thenX (x_thenX (x_blockX (x_thenN ?_)))))
     exact j2 _ a w (S.sub trivial .nil) h1
 refine c_region' (s_fieldAddr S rfl I71_0 T40 (by decide) rfl rfl fun a S=>s_loada S rfl .h1 T40 (s':=[.b20 x1.1]) rfl rfl fun a S=>s_fieldAddr S rfl I71_0 T40 (by decide) rfl rfl fun a S=>s_loada S rfl .h T40 (s':=[.b20 x2.1]) rfl rfl fun a S=>s_nea S rfl rfl underlying40 underlying5 T5 Q40 rfl fun a S=>s_mv1 S rfl fun a S=>?_)
 rcases ite_of h0 with ⟨c6,h1⟩ | ⟨c6,h1⟩
 ·refine s_gF S (b:=(!(decide (x1.1=x2.1)))) rfl rfl c6 rfl fun a S=>s_gF S (b:=(!(decide (x1.1=x2.1)))) rfl rfl c6 rfl fun a S=>s_gF S (b:=(!(decide (x1.1=x2.1)))) rfl rfl c6 rfl fun a S=>s_gF S (b:=(!(decide (x1.1=x2.1)))) rfl rfl c6 rfl fun a S=>s_gF S (b:=(!(decide (x1.1=x2.1)))) rfl rfl c6 rfl fun a S=>s_pick S (b:=true) (hc_of rfl c6) rfl rfl fun a S=>s_mv1 S rfl fun a S=>s_gF S (b:=true) rfl rfl rfl rfl fun a S=>s_gF S (b:=true) rfl rfl rfl rfl fun a S=>s_gF S (b:=true) rfl rfl rfl rfl fun a S=>s_gF S (b:=true) rfl rfl rfl rfl fun a S=>s_gF S (b:=true) rfl rfl rfl rfl fun a S=>s_pick S (b:=true) (hc_of rfl rfl) rfl rfl fun a S=>s_mv1 S rfl fun a S=>s_gF S (b:=true) rfl rfl rfl rfl fun a S=>s_gF S (b:=true) rfl rfl rfl rfl fun a S=>s_gF S (b:=true) rfl rfl rfl rfl fun a S=>s_gF S (b:=true) rfl rfl rfl rfl fun a S=>s_gF S (b:=true) rfl rfl rfl rfl fun a S=>s_gF S (b:=true) rfl rfl rfl rfl fun a S=>s_gF S (b:=true) rfl rfl rfl rfl fun a S=>s_pick S (b:=true) (hc_of rfl rfl) rfl rfl fun a S=>s_mv1 S rfl fun a S=>s_gF S (b:=true) rfl rfl rfl rfl fun a S=>s_gF S (b:=true) rfl rfl rfl rfl fun a S=>s_gF S (b:=true) rfl rfl rfl rfl fun a S=>s_gF S (b:=true) rfl rfl rfl rfl fun a S=>s_gF S (b:=true) rfl rfl rfl rfl fun a S=>s_gF S (b:=true) rfl rfl rfl rfl fun a S=>s_gF S (b:=true) rfl rfl rfl rfl fun a S=>s_pick S (b:=true) (hc_of rfl rfl) rfl rfl fun a S=>c_end' (x_thenN ?_)
  exact j1 _ true g2 g1 a w (S.sb rfl (.c0 (.c0 .n))) h1
 ·refine s_gT S (b:=(!(decide (x1.1=x2.1)))) rfl rfl c6 (s_fieldAddr S rfl I71_1 T41 (by decide) rfl rfl fun a S=>s_gT S (b:=(!(decide (x1.1=x2.1)))) rfl rfl c6 (s_load1 S rfl .h1 T41 (v:=(.int .u64 x1.2.1)) rfl rfl fun a S=>s_gT S (b:=(!(decide (x1.1=x2.1)))) rfl rfl c6 (s_fieldAddr S rfl I71_1 T41 (by decide) rfl rfl fun a S=>s_gT S (b:=(!(decide (x1.1=x2.1)))) rfl rfl c6 (s_load1 S rfl .h T41 (v:=(.int .u64 x2.2.1)) rfl rfl fun a S=>s_gT S (b:=(!(decide (x1.1=x2.1)))) rfl rfl c6 (s_bi S rfl fun a S=>s_pick S (b:=false) (hc_of rfl c6) rfl rfl fun a S=>s_mv1 S rfl fun a S=>?_)))))
  rcases ite_of h1 with ⟨c7,h2⟩ | ⟨c7,h2⟩
  ·refine s_gF S (b:=(x1.2.1 != x2.2.1)) rfl rfl c7 rfl fun a S=>s_gF S (b:=(x1.2.1 != x2.2.1)) rfl rfl c7 rfl fun a S=>s_gF S (b:=(x1.2.1 != x2.2.1)) rfl rfl c7 rfl fun a S=>s_gF S (b:=(x1.2.1 != x2.2.1)) rfl rfl c7 rfl fun a S=>s_gF S (b:=(x1.2.1 != x2.2.1)) rfl rfl c7 rfl fun a S=>s_pick S (b:=true) (hc_of rfl c7) rfl rfl fun a S=>s_mv1 S rfl fun a S=>s_gF S (b:=true) rfl rfl rfl rfl fun a S=>s_gF S (b:=true) rfl rfl rfl rfl fun a S=>s_gF S (b:=true) rfl rfl rfl rfl fun a S=>s_gF S (b:=true) rfl rfl rfl rfl fun a S=>s_gF S (b:=true) rfl rfl rfl rfl fun a S=>s_gF S (b:=true) rfl rfl rfl rfl fun a S=>s_gF S (b:=true) rfl rfl rfl rfl fun a S=>s_pick S (b:=true) (hc_of rfl rfl) rfl rfl fun a S=>s_mv1 S rfl fun a S=>s_gF S (b:=true) rfl rfl rfl rfl fun a S=>s_gF S (b:=true) rfl rfl rfl rfl fun a S=>s_gF S (b:=true) rfl rfl rfl rfl fun a S=>s_gF S (b:=true) rfl rfl rfl rfl fun a S=>s_gF S (b:=true) rfl rfl rfl rfl fun a S=>s_gF S (b:=true) rfl rfl rfl rfl fun a S=>s_gF S (b:=true) rfl rfl rfl rfl fun a S=>s_pick S (b:=true) (hc_of rfl rfl) rfl rfl fun a S=>c_end' (x_thenN ?_)
   exact j1 _ true g2 g1 a w (S.sb rfl (.c0 (.c0 .n))) h2
  ·refine s_gT S (b:=(x1.2.1 != x2.2.1)) rfl rfl c7 (s_fieldAddr S rfl I71_2 T43 (by decide) rfl rfl fun a S=>s_gT S (b:=(x1.2.1 != x2.2.1)) rfl rfl c7 (s_loada S rfl .h1 T43 (s':=[.w4 x1.e3]) rfl rfl fun a S=>s_gT S (b:=(x1.2.1 != x2.2.1)) rfl rfl c7 (s_fieldAddr S rfl I71_2 T43 (by decide) rfl rfl fun a S=>s_gT S (b:=(x1.2.1 != x2.2.1)) rfl rfl c7 (s_loada S rfl .h T43 (s':=[.w4 x2.e3]) rfl rfl fun a S=>s_gT S (b:=(x1.2.1 != x2.2.1)) rfl rfl c7 (s_nea S rfl rfl underlying43 underlying41 T41 Q43 rfl fun a S=>s_pick S (b:=false) (hc_of rfl c7) rfl rfl fun a S=>s_mv1 S rfl fun a S=>?_)))))
   rcases ite_of h2 with ⟨c8,h3⟩ | ⟨c8,h3⟩
   ·refine s_gF S (b:=(!(decide (x1.e3=x2.e3)))) rfl rfl c8 rfl fun a S=>s_gF S (b:=(!(decide (x1.e3=x2.e3)))) rfl rfl c8 rfl fun a S=>s_gF S (b:=(!(decide (x1.e3=x2.e3)))) rfl rfl c8 rfl fun a S=>s_gF S (b:=(!(decide (x1.e3=x2.e3)))) rfl rfl c8 rfl fun a S=>s_gF S (b:=(!(decide (x1.e3=x2.e3)))) rfl rfl c8 rfl fun a S=>s_gF S (b:=(!(decide (x1.e3=x2.e3)))) rfl rfl c8 rfl fun a S=>s_gF S (b:=(!(decide (x1.e3=x2.e3)))) rfl rfl c8 rfl fun a S=>s_pick S (b:=true) (hc_of rfl c8) rfl rfl fun a S=>s_mv1 S rfl fun a S=>s_gF S (b:=true) rfl rfl rfl rfl fun a S=>s_gF S (b:=true) rfl rfl rfl rfl fun a S=>s_gF S (b:=true) rfl rfl rfl rfl fun a S=>s_gF S (b:=true) rfl rfl rfl rfl fun a S=>s_gF S (b:=true) rfl rfl rfl rfl fun a S=>s_gF S (b:=true) rfl rfl rfl rfl fun a S=>s_gF S (b:=true) rfl rfl rfl rfl fun a S=>s_pick S (b:=true) (hc_of rfl rfl) rfl rfl fun a S=>c_end' (x_thenN ?_)
    exact j1 _ true g2 g1 a w (S.sb rfl (.c0 (.c0 .n))) h3
   ·refine s_gT S (b:=(!(decide (x1.e3=x2.e3)))) rfl rfl c8 (s_fieldAddr S rfl I71_3 T44 (by decide) rfl rfl fun a S=>s_gT S (b:=(!(decide (x1.e3=x2.e3)))) rfl rfl c8 (s_loadSl S rfl .h1 T44 (A:=ch_0_0) (len:=(x1.e4).length) (cap:=ch_0_1) rfl rfl fun a S=>s_gT S (b:=(!(decide (x1.e3=x2.e3)))) rfl rfl c8 (s_strS S rfl rfl underlying44 underlying5 underlying9 rfl fun a S=>s_gT S (b:=(!(decide (x1.e3=x2.e3)))) rfl rfl c8 (s_fieldAddr S rfl I71_3 T44 (by decide) rfl rfl fun a S=>s_gT S (b:=(!(decide (x1.e3=x2.e3)))) rfl rfl c8 (s_loadSl S rfl .h T44 (A:=ch_1_0) (len:=(x2.e4).length) (cap:=ch_1_1) rfl rfl fun a S=>s_gT S (b:=(!(decide (x1.e3=x2.e3)))) rfl rfl c8 (s_strS S rfl rfl underlying44 underlying5 underlying9 rfl fun a S=>s_gT S (b:=(!(decide (x1.e3=x2.e3)))) rfl rfl c8 (s_neT S rfl rfl rfl fun a S=>s_pick S (b:=false) (hc_of rfl c8) rfl rfl fun a S=>s_mv1 S rfl fun a S=>?_)))))))
    rcases ite_of h3 with ⟨c9,h4⟩ | ⟨c9,h4⟩
    ·refine s_gF S (b:=(!((bstr x1.e4).toList==(bstr x2.e4).toList))) rfl rfl c9 rfl fun a S=>s_gF S (b:=(!((bstr x1.e4).toList==(bstr x2.e4).toList))) rfl rfl c9 rfl fun a S=>s_gF S (b:=(!((bstr x1.e4).toList==(bstr x2.e4).toList))) rfl rfl c9 rfl fun a S=>s_gF S (b:=(!((bstr x1.e4).toList==(bstr x2.e4).toList))) rfl rfl c9 rfl fun a S=>s_gF S (b:=(!((bstr x1.e4).toList==(bstr x2.e4).toList))) rfl rfl c9 rfl fun a S=>s_gF S (b:=(!((bstr x1.e4).toList==(bstr x2.e4).toList))) rfl rfl c9 rfl fun a S=>s_gF S (b:=(!((bstr x1.e4).toList==(bstr x2.e4).toList))) rfl rfl c9 rfl fun a S=>s_pick S (b:=true) (hc_of rfl c9) rfl rfl fun a S=>c_end' (x_thenN ?_)
     exact j1 _ true g2 g1 a w (S.sb rfl (.c0 (.c0 .n))) h4
    ·refine s_gT S (b:=(!((bstr x1.e4).toList==(bstr x2.e4).toList))) rfl rfl c9 (s_fieldAddr S rfl I71_4 T69 (by decide) rfl rfl fun a S=>s_gT S (b:=(!((bstr x1.e4).toList==(bstr x2.e4).toList))) rfl rfl c9 (s_loadSl S rfl .h1 T69 (A:=ch_0_2) (len:=(x1.t4).length) (cap:=ch_0_3) rfl rfl fun a S=>s_gT S (b:=(!((bstr x1.e4).toList==(bstr x2.e4).toList))) rfl rfl c9 (s_lenS S rfl underlying69 rfl fun a S=>s_gT S (b:=(!((bstr x1.e4).toList==(bstr x2.e4).toList))) rfl rfl c9 (s_fieldAddr S rfl I71_4 T69 (by decide) rfl rfl fun a S=>s_gT S (b:=(!((bstr x1.e4).toList==(bstr x2.e4).toList))) rfl rfl c9 (s_loadSl S rfl .h T69 (A:=ch_1_2) (len:=(x2.t4).length) (cap:=ch_1_3) rfl rfl fun a S=>s_gT S (b:=(!((bstr x1.e4).toList==(bstr x2.e4).toList))) rfl rfl c9 (s_lenS S rfl underlying69 rfl fun a S=>s_gT S (b:=(!((bstr x1.e4).toList==(bstr x2.e4).toList))) rfl rfl c9 (s_bi S rfl fun a S=>s_pick S (b:=false) (hc_of rfl c9) rfl rfl fun a S=>c_end' (x_thenN ?_))))))))
     exact j1 _ (((x1.t4).length:Int) != ((x2.t4).length:Int)) g2 g1 a w (S.sb rfl (.c0 (.c0 .n))) h4
abbrev fh1_.Ty:Type:=(List Int)→(List Int)→Option Bool
def fh1_.Ctr (s:fh1_.Ty):Prop:=∀ {x1:List Int} {x2:List Int} {r:Bool} (h0:s x1 x2=some r) {mi:Mem} {w0:World},CtrB Tryz.prog 88 [(.agg [.b20 x1]),(.agg [.b20 x2])] [] (fun (ch:Unit)=>((.b r):D)) (fun (ch:Unit)=>[]) mi w0
def fh1_.j1:Option Bool:=some false
def fh1_.b1 (x1:List Int)(x2:List Int)(rec1:Int→Option Bool)(y1:Int):Option Bool:=if (decide (y1<20))=true then (if (0:Int)≤y1∧y1<20 then (if ((rd x1 y1) != (rd x2 y1))=true then (some (decide ((rd x1 y1)<(rd x2 y1)))) else (rec1 (wr .i64 (y1+1)))) else none) else fh1_.j1
def fh1_.l1 (x1:List Int)(x2:List Int):Nat→Int→Option Bool
  | 0,_=>none
  | q+1,y1=>fh1_.b1 x1 x2 (fh1_.l1 x1 x2 q) y1
def fh1_.f (k:Nat)(x1:List Int)(x2:List Int):Option Bool:=fh1_.l1 x1 x2 k 0
theorem fh1_.ok (k:Nat):fh1_.Ctr (fh1_.f k):=by
 intro x1 x2 r h0 mi w0 ok hm
 delta fh1_.f at h0
 refine c_enterZ (n:=24) ok hm func88 rfl rfl rfl fun b0 hb a S=>c_region (s_box S rfl rfl rfl fun g1 a w S=>s_box S rfl rfl rfl fun g2 a w S=>s_as1 S rfl fun a S=>c_end (wp_seq_k fun K1 hK1=>?_))
 have j1:∀ m a w,St 24 m b0 [] [] a w→fh1_.j1=some r→K1 a w:=by
  intro m a w S h0
  delta fh1_.j1 at h0
  refine hK1 a w (c_region (s_as1 S rfl fun a S=>c_end (wp_ret ?_)))
  obtain rfl:=Option.some.inj h0
  exact b_ret1 (d:=(.b false)) S rfl rfl (S.rt hb)
 refine c_region (s_as1 S rfl fun a S=>c_end (wp_block ?_))
 refine c_loop (fun q1 a w=>∃ m y1 g13 g14,St 24 m b0 [(5,(.i y1)),(3,(.p g13)),(2,(.p g14))] [Res.cells g13 40 [.b20 x2],Res.cells g14 40 [.b20 x1]] a w∧fh1_.l1 x1 x2 q1 y1=some r) ?_ ?_ (k:=k) ⟨_,0,g2,g1,(S.sb rfl (.c0 (.c0 .n))),h0⟩
 ·rintro a w ⟨m,y1,g13,g14,S,h0⟩
  exact (nomatch (show (none:Option Bool)=some r from h0))
 ·clear S h0
  rintro q1 a w ⟨m,y1,g13,g14,S,h0⟩
  replace h0:fh1_.b1 x1 x2 (fh1_.l1 x1 x2 q1) y1=some r:=h0
  delta fh1_.b1 at h0
  refine wp_seq (c_region (s_mv1 S rfl fun a S=>s_bi S rfl fun a S=>c_end ?_))
  rcases ite_of h0 with ⟨c1,h1⟩ | ⟨c1,h1⟩
  ·refine c_condT S rfl c1 (wp_skip (x_thenN (wp_seq (wp_block ?_))))
   refine wp_seq (c_hS S (.tk 0 7 .done) 7 (.c0 (.c0 .n)) ⟨Res.stay_cells,Res.stay_cells,trivial⟩ [(5,(.i y1)),(3,(.p g13)),(2,(.p g14))] rfl (by kernel_rfl) ?_); clear S; intro w S CL hw le
   refine h_mv1 S CL hw le rfl trivial fun a S CL=>?_
   obtain ⟨c2,h2⟩:=chk_of h1; clear h1
   refine h_iaddr S CL hw le (subR rfl) rfl rfl underlying40 T5 c2.1 c2.2 (mul1 _ _) rfl rfl trivial fun a S CL=>h_loadi S CL hw le (subR rfl) (i:=y1) rfl .h1 T5 .h rfl c2.1 c2.2 rfl rfl trivial fun a S CL=>h_mv1 S CL hw le rfl trivial fun a S CL=>h_iaddr S CL hw le (subR rfl) rfl rfl underlying40 T5 c2.1 c2.2 (mul1 _ _) rfl rfl trivial fun a S CL=>h_loadi S CL hw le (subR rfl) (i:=y1) rfl .h T5 .h rfl c2.1 c2.2 rfl rfl trivial fun a S CL=>h_bin S CL hw le (subR rfl) rfl rfl rfl rfl rfl trivial fun a S CL=>?_
   refine h_done ?_; clear CL hw le
   refine x_thenN ?_
   rcases ite_of h2 with ⟨c3,h3⟩ | ⟨c3,h3⟩
   ·refine c_condT S rfl c3 ?_
    refine wp_seq (c_hS S (.tk 0 8 .done) 8 (.c0 (.c0 .n)) ⟨Res.stay_cells,Res.stay_cells,trivial⟩ [(5,(.i y1)),(3,(.p g13)),(2,(.p g14))] rfl (by kernel_rfl) ?_); clear S; intro w S CL hw le
    refine h_mv1 S CL hw le rfl trivial fun a S CL=>h_iaddr S CL hw le (subR rfl) rfl rfl underlying40 T5 c2.1 c2.2 (mul1 _ _) rfl rfl trivial fun a S CL=>h_loadi S CL hw le (subR rfl) (i:=y1) rfl .h1 T5 .h rfl c2.1 c2.2 rfl rfl trivial fun a S CL=>h_mv1 S CL hw le rfl trivial fun a S CL=>h_iaddr S CL hw le (subR rfl) rfl rfl underlying40 T5 c2.1 c2.2 (mul1 _ _) rfl rfl trivial fun a S CL=>h_loadi S CL hw le (subR rfl) (i:=y1) rfl .h T5 .h rfl c2.1 c2.2 rfl rfl trivial fun a S CL=>h_bin S CL hw le (subR rfl) rfl rfl rfl rfl rfl trivial fun a S CL=>h_assign S CL hw le (subR rfl) rfl rfl rfl trivial fun a S CL=>?_
    refine h_done ?_; clear CL hw le
    refine x_thenN (wp_ret (x_blockR (x_thenR (x_thenR (x_blockR (x_thenR ?_))))))
    obtain rfl:=Option.some.inj h3
    exact b_ret1 (d:=(.b (decide ((rd x1 y1)<(rd x2 y1))))) S rfl rfl (S.rt hb)
   ·refine c_condF S rfl c3 (wp_skip (x_blockN (x_thenN (c_region' (s_mv1 S rfl fun a S=>s_bi S rfl fun a S=>s_as1 S rfl fun a S=>c_end' (x_thenN ?_))))))
    exact ⟨_,(wr .i64 (y1+1)),g13,g14,(S.sb rfl (.c0 (.c0 .n))),h3⟩
  ·refine c_condF S rfl c1 (wp_exit (x_thenX (x_thenX (x_blockX (x_thenN ?_)))))
   exact j1 _ a w (S.sub trivial .nil) h1
abbrev fa4_.Ty:Type:=ST37→Option (List L71)
def fa4_.Ctr (s:fa4_.Ty):Prop:=∀ {x1:ST37} {ch_0_0:(Option Addr×Nat)×(Option Addr×Nat)×(Option Addr×Nat)×(Option Addr×Nat)×Unit×(Option Addr×Nat)×Unit×(Option Addr×Nat)} {r:List L71} (h0:s x1=some r) {mi:Mem} {w0:World},CtrB Tryz.prog 55 [(.agg (SY37.segs x1 ch_0_0))] [] (fun (ch:(Option Addr)×Nat×Nat)=>((.s ch.1 ch.2.1 ch.t2):D)) (fun (ch:(Option Addr)×Nat×Nat)=>[Res.row Y71 71 ch.1 ch.2.1 ch.t2 r]) mi w0
def fa4_.j1 (y1:List L71):Option (List L71):=some y1
def fa4_.j2 (y20:Int)(rec1:Int→(List L71)→Option (List L71))(y29:List L71):Option (List L71):=rec1 (wr .i64 (y20+1)) y29
def fa4_.j4 (y20:Int)(y21:List L71)(rec1:Int→(List L71)→Option (List L71))(y30:L71)(y36:Int):Option (List L71):=if (0:Int)≤0∧(0:Int)≤y36∧y36≤((y21).length:Int) then (if ((([]:List L71)).length+(((y21).drop (Int.toNat 0)).take (Int.toNat y36 - Int.toNat 0)).length)*112≤140737488355328 then (if ((([]:List L71)++(((y21).drop (Int.toNat 0)).take (Int.toNat y36 - Int.toNat 0))).length+([y30]).length)*112≤140737488355328 then (if (0:Int)≤y36∧(y36:Int)≤((y21).length:Int)∧((y21).length:Int)≤((y21).length:Int) then (if (((([]:List L71)++(((y21).drop (Int.toNat 0)).take (Int.toNat y36 - Int.toNat 0)))++[y30]).length+(((y21).drop (Int.toNat y36)).take (Int.toNat ((y21).length:Int) - Int.toNat y36)).length)*112≤140737488355328 then (fa4_.j2 y20 rec1 (((([]:List L71)++(((y21).drop (Int.toNat 0)).take (Int.toNat y36 - Int.toNat 0)))++[y30])++(((y21).drop (Int.toNat y36)).take (Int.toNat ((y21).length:Int) - Int.toNat y36)))) else none) else none) else none) else none) else none
def fa4_.j5 (y20:Int)(y21:List L71)(rec1:Int→(List L71)→Option (List L71))(y30:L71)(y40:Int)(rec2:Int→Option (List L71))(y41:Bool):Option (List L71):=if y41=true then (rec2 (wr .i64 (y40 - 1))) else (fa4_.j4 y20 y21 rec1 y30 y40)
def fa4_.b2 (k:Nat)(y20:Int)(y21:List L71)(rec1:Int→(List L71)→Option (List L71))(y30:L71)(rec2:Int→Option (List L71))(y40:Int):Option (List L71):=if (decide (0<y40))=true then (if (0:Int)≤(wr .i64 (y40 - 1))∧(wr .i64 (y40 - 1))<((y21).length:Int) then ((fh1_.f k y30.1 ((gt y21 (wr .i64 (y40 - 1))).1)).bind fun t4=>(fa4_.j5 y20 y21 rec1 y30 y40 rec2 t4)) else none) else (fa4_.j5 y20 y21 rec1 y30 y40 rec2 false)
def fa4_.l2 (k:Nat)(y20:Int)(y21:List L71)(rec1:Int→(List L71)→Option (List L71))(y30:L71):Nat→Int→Option (List L71)
  | 0,_=>none
  | q+1,y40=>fa4_.b2 k y20 y21 rec1 y30 (fa4_.l2 k y20 y21 rec1 y30 q) y40
def fa4_.j3 (k:Nat)(x1:ST37)(y20:Int)(y21:List L71)(rec1:Int→(List L71)→Option (List L71))(y30:L71):Option (List L71):=(fc4_.f k x1 y30.1).bind fun t1=>((fh4_.f k y30 t1).bind fun t2=>(if t2=true then (fa4_.j2 y20 rec1 y21) else (fa4_.l2 k y20 y21 rec1 y30 k ((y21).length:Int))))
def fa4_.b1 (k:Nat)(x1:ST37)(rec1:Int→(List L71)→Option (List L71))(y20:Int)(y21:List L71):Option (List L71):=if (decide (y20<(((ST37.un x1).2.1).length:Int)))=true then (if (0:Int)≤y20∧y20<(((ST37.un x1).2.1).length:Int) then (if ((gt ((ST37.un x1).2.1) y20).2.2)=true then (fa4_.j3 k x1 y20 y21 rec1 (((gt ((ST37.un x1).2.1) y20).1).1,0,[0,0,0,0],([]:List Int),([]:List ((List Int)×(List Int))))) else (fa4_.j3 k x1 y20 y21 rec1 ((gt ((ST37.un x1).2.1) y20).1))) else none) else (fa4_.j1 y21)
def fa4_.l1 (k:Nat)(x1:ST37):Nat→Int→(List L71)→Option (List L71)
  | 0,_,_=>none
  | q+1,y20,y21=>fa4_.b1 k x1 (fa4_.l1 k x1 q) y20 y21
def fa4_.f (k:Nat)(x1:ST37):Option (List L71):=fa4_.l1 k x1 k 0 ([]:List L71)
theorem fa4_.ok (k:Nat):fa4_.Ctr (fa4_.f k):=by
 intro x1 ch_0_0 r h0 mi w0 ok hm
 delta fa4_.f at h0
 refine c_enterZ (n:=70) ok hm func55 rfl rfl rfl fun b0 hb a S=>c_region (s_box S rfl rfl rfl fun g1 a w S=>s_as1 S rfl fun a S=>c_end (c_region (s_bldSl S (ty':=Y71) (ds:=[]) (z:=zt1) (c0:=((),(),(),(none,0),(none,0))) (ys:=([]:List L71)) (cs:=[]) rfl underlying22 J71 Z71 rfl ⟨rfl,rfl,rfl,⟨Nat.le_refl _,Nat.zero_le _,RdS.nil _ _ _,RdS.mono _ _ _⟩,⟨Nat.le_refl _,Nat.zero_le _,RdS.nil _ _ _,RdS.mono _ _ _⟩,trivial⟩ rfl rfl rfl rfl rfl rfl fun g2 a w S=>s_as1 S rfl fun a S=>c_end (wp_seq_k fun K1 hK1=>?_))))
 have j1:∀ m A1 nn1 cp1 y1 a w,St 70 m b0 [(3,(.s A1 nn1 cp1))] [Res.row Y71 71 A1 nn1 cp1 y1] a w→fa4_.j1 y1=some r→K1 a w:=by
  intro m A1 nn1 cp1 y1 a w S h0
  delta fa4_.j1 at h0
  refine hK1 a w (c_region (s_mv1 S rfl fun a S=>s_as1 S rfl fun a S=>c_end (wp_ret ?_)))
  obtain rfl:=Option.some.inj h0
  exact b_ret1 (d:=(.s A1 nn1 cp1)) S rfl rfl fun ok=>S.retX (Hx:=[]) hb _ _ ((A1,nn1,cp1):(Option Addr)×Nat×Nat) (.c0 .n) ok
 refine c_region (s_fieldAddr S rfl I37_1 T31 (by decide) rfl rfl fun a S=>s_loadSl S rfl .h1 T31 (A:=ch_0_0.2.1.1) (len:=((ST37.un x1).2.1).length) (cap:=ch_0_0.2.1.2) rfl rfl fun a S=>s_lenS S rfl underlying31 rfl fun a S=>s_mv1 S rfl fun a S=>c_end (wp_block ?_))
 refine c_loop (fun q1 a w=>∃ m y20 A2 nn5 cp11 y21 g104,St 70 m b0 [(13,(.i y20)),(12,(.i (((ST37.un x1).2.1).length:Int))),(3,(.s A2 nn5 cp11)),(1,(.p g104))] [Res.row Y71 71 A2 nn5 cp11 y21,Res.cells g104 37 (SY37.segs x1 ch_0_0)] a w∧fa4_.l1 k x1 q1 y20 y21=some r) ?_ ?_ (k:=k) ⟨_,0,(ad g2),0,0,([]:List L71),g1,(S.sb rfl (.c0 (.c0 .n))),h0⟩
 ·rintro a w ⟨m,y20,A2,nn5,cp11,y21,g104,S,h0⟩
  exact (nomatch (show (none:Option (List L71))=some r from h0))
 ·clear S h0
  rintro q1 a w ⟨m,y20,A2,nn5,cp11,y21,g104,S,h0⟩
  replace h0:fa4_.b1 k x1 (fa4_.l1 k x1 q1) y20 y21=some r:=h0
  delta fa4_.b1 at h0
  refine c_region (s_bi S rfl fun a S=>c_end (wp_seq ?_))
  rcases ite_of h0 with ⟨c1,h1⟩ | ⟨c1,h1⟩
  ·refine c_condT S rfl c1 (wp_skip (x_thenN (wp_seq_k fun K2 hK2=>?_)))
   have j2:∀ m A3 nn6 cp15 y29 g128 a w,St 70 m b0 [(13,(.i y20)),(12,(.i (((ST37.un x1).2.1).length:Int))),(3,(.s A3 nn6 cp15)),(1,(.p g128))] [Res.row Y71 71 A3 nn6 cp15 y29,Res.cells g128 37 (SY37.segs x1 ch_0_0)] a w→fa4_.j2 y20 (fa4_.l1 k x1 q1) y29=some r→K2 a w:=by
    intro m A3 nn6 cp15 y29 g128 a w S h0
    delta fa4_.j2 at h0
    refine hK2 a w (c_region' (s_bi S rfl fun a S=>s_mv1 S rfl fun a S=>c_end' (x_thenN ?_)))
    exact ⟨_,(wr .i64 (y20+1)),A3,nn6,cp15,y29,g128,(S.sb rfl (.c0 (.c0 .n))),h0⟩
   refine wp_block (c_region (s_mv1 S rfl fun a S=>s_as1 S rfl fun a S=>c_end (c_region (s_fieldAddr S rfl I37_1 T31 (by decide) rfl rfl fun a S=>s_loadSl S rfl .h1 T31 (A:=ch_0_0.2.1.1) (len:=((ST37.un x1).2.1).length) (cap:=ch_0_0.2.1.2) rfl rfl fun a S=>s_mv1 S rfl fun a S=>?_))))
   obtain ⟨c2,h2⟩:=chk_of h1; clear h1
   refine s_iaddrS S rfl rfl rfl underlying31 T122 c2.1 c2.2 rfl fun p1 a S=>s_ldA S (fun (c:(Unit×Unit×Unit×(Option Addr×Nat)×(Option Addr×Nat))×Unit×Unit)=>(Y122.segs (gt ((ST37.un x1).2.1) y20) (c.1,(),()))) rfl T122 (fun _=>rfl) rfl fun ch1 a S=>?_
   refine s_alloc S Z122 rfl ⟨rfl,rfl,rfl,rfl,rfl,rfl,rfl,trivial⟩ rfl fun g129 a w S=>s_store S rfl rfl rfl (s':=(Y122.segs (gt ((ST37.un x1).2.1) y20) (ch1.1,(),()))) .h T122 rfl rfl fun w S=>c_end (c_region (s_fieldAddr S rfl I122_0 T71 (by decide) rfl rfl fun a S=>s_loada S rfl .h T71 (s':=(Y71.segs ((gt ((ST37.un x1).2.1) y20).1) ch1.1)) rfl rfl fun a S=>s_alloc S Z71 rfl ⟨rfl,rfl,rfl,rfl,rfl,trivial⟩ rfl fun g130 a w S=>s_store S rfl rfl rfl (s':=(Y71.segs ((gt ((ST37.un x1).2.1) y20).1) ch1.1)) .h T71 rfl rfl fun w S=>c_end (wp_seq_k fun K3 hK3=>?_)))
   have j3:∀ m g131 g132 y30 cc1 a w,St 70 m b0 [(6,(.p g131)),(13,(.i y20)),(12,(.i (((ST37.un x1).2.1).length:Int))),(3,(.s A2 nn5 cp11)),(1,(.p g132))] [Res.cells g131 71 (Y71.segs y30 cc1),Res.row Y71 71 A2 nn5 cp11 y21,Res.cells g132 37 (SY37.segs x1 ch_0_0)] a w→fa4_.j3 k x1 y20 y21 (fa4_.l1 k x1 q1) y30=some r→K3 a w:=by
    intro m g131 g132 y30 cc1 a w S h0
    delta fa4_.j3 at h0
    refine hK3 a w (wp_seq ?_)
    refine wp_seq (c_hS S (.tk 0 4 (.alts (.run 4 true (.alts (.run 5 true .done .nil)) .nil))) 6 (.c0 (.c1 .n)) ⟨Res.stay_cells,Res.stay_cells,trivial⟩ [(6,(.p g131)),(1,(.p g132))] rfl (by kernel_rfl) ?_); clear S; intro w S CL hw le
    refine h_loada S CL hw le (subR rfl) rfl .h T71 (s':=(Y71.segs y30 cc1)) rfl rfl rfl trivial fun a S CL=>h_loada S CL hw le (subR rfl) rfl .h1 T37 (s':=(SY37.segs x1 ch_0_0)) rfl rfl rfl trivial fun a S CL=>h_fieldAddr S CL hw le (subR rfl) rfl I71_0 T40 (by decide) rfl rfl rfl trivial fun a S CL=>h_loada S CL hw le (subR rfl) rfl .h T40 (s':=[.b20 y30.1]) rfl rfl rfl trivial fun a S CL=>h_run' S rfl trivial (bindX h0 fun t1 et1 h1=>s_callK S (fc4_.ok k (ch_0_0:=ch_0_0) et1) N87 rfl .pre (fun _=> .n) rfl fun ch2 m le1 a w S=>?_)
    replace le:=le.trans le1
    refine CL.bk hw S (.c0 (.c1 .n)) le fun hw=>h_run' S rfl trivial (bindX h1 fun t2 et2 h2=>s_callK S (fh4_.ok k et2) N86 rfl .pre (fun _=> .n) rfl fun ch3 m le1 a w S=>?_)
    replace le:=le.trans le1
    refine CL.bk hw S (.c0 (.c1 .n)) le fun hw=>?_
    refine h_done ?_; clear CL hw le
    refine x_thenN ?_
    rcases ite_of h2 with ⟨c3,h3⟩ | ⟨c3,h3⟩
    ·refine c_condT S rfl c3 (wp_exit (x_thenX (x_blockX (x_thenN ?_))))
     exact j2 _ A2 nn5 cp11 y21 g132 a w (S.sb rfl (.c1 (.c1 .n))) h3
    ·refine c_condF S rfl c3 (wp_skip (x_thenN (c_region (s_mv1 S rfl fun a S=>s_lenO S rfl .h1 underlying22 rfl fun a S=>s_as1 S rfl fun a S=>c_end (wp_seq_k fun K4 hK4=>?_)))))
     have j4:∀ m y36 g148 g149 a w,St 70 m b0 [(7,(.i y36)),(6,(.p g148)),(13,(.i y20)),(12,(.i (((ST37.un x1).2.1).length:Int))),(3,(.s A2 nn5 cp11)),(1,(.p g149))] [Res.cells g148 71 (Y71.segs y30 cc1),Res.row Y71 71 A2 nn5 cp11 y21,Res.cells g149 37 (SY37.segs x1 ch_0_0)] a w→fa4_.j4 y20 y21 (fa4_.l1 k x1 q1) y30 y36=some r→K4 a w:=by
      intro m y36 g148 g149 a w S h0
      delta fa4_.j4 at h0
      refine hK4 a w (c_region (s_bldSl S (ty':=Y71) (ds:=[]) (z:=zt1) (c0:=((),(),(),(none,0),(none,0))) (ys:=([]:List L71)) (cs:=[]) rfl underlying22 J71 Z71 rfl ⟨rfl,rfl,rfl,⟨Nat.le_refl _,Nat.zero_le _,RdS.nil _ _ _,RdS.mono _ _ _⟩,⟨Nat.le_refl _,Nat.zero_le _,RdS.nil _ _ _,RdS.mono _ _ _⟩,trivial⟩ rfl rfl rfl rfl rfl rfl fun g150 a w S=>s_as1 S rfl fun a S=>c_end (c_region (s_mv3 S rfl fun a S=>?_))))
      obtain ⟨c4,h1⟩:=chk_of h0; clear h0
      refine s_cutR S (ty':=Y71) (i:=0) (j:=y36) rfl .h2 underlying22 T71 (.inl ⟨rfl,rfl⟩) (.inr ⟨_,_,rfl,rfl⟩) (by have h0:=(S.holds _ (Pull.mem .h2).1).1; have h1:=c4; omega) rfl fun a S=>?_
      obtain ⟨c5,h2⟩:=chk_of h1; clear h1
      refine s_app S (k2:=(Int.toNat y36 - Int.toNat 0)) (ys:=(((y21).drop (Int.toNat 0)).take (Int.toNat y36 - Int.toNat 0))) rfl (fun _ _=> .h) rfl rfl (show (((y21).drop (Int.toNat 0)).take (Int.toNat y36 - Int.toNat 0)).length=Int.toNat y36 - Int.toNat 0 by have h0:=(S.holds _ (Pull.mem .h2).1).1; have h1:=c4; rw [List.length_take,List.length_drop]; omega) (Res.row.srcV (S.holds _ (Pull.mem .h2).1) (by have h0:=(S.holds _ (Pull.mem .h2).1).1; have h1:=c4; omega)) underlying22 J71 c5 rfl fun A4 cp16 a w S=>s_as1 S rfl fun a S=>c_end (c_region (s_mv1 S rfl fun a S=>s_loada S rfl .h1 T71 (s':=(Y71.segs y30 cc1)) rfl rfl fun a S=>s_bldSl S (ty':=Y71) (ds:=[(0,(.agg (Y71.segs y30 cc1)))]) (z:=zt1) (c0:=((),(),(),(none,0),(none,0))) (ys:=[y30]) (cs:=[cc1]) rfl underlying22 J71 Z71 rfl ⟨rfl,rfl,rfl,⟨Nat.le_refl _,Nat.zero_le _,RdS.nil _ _ _,RdS.mono _ _ _⟩,⟨Nat.le_refl _,Nat.zero_le _,RdS.nil _ _ _,RdS.mono _ _ _⟩,trivial⟩ rfl rfl rfl rfl rfl rfl fun g151 a w S=>?_))
      obtain ⟨c6,h3⟩:=chk_of h2; clear h2
      refine s_app S (k2:=1) (ys:=[y30]) rfl (fun _ _=> .h1) rfl rfl (S.holds _ (Pull.mem .h).1).1 (Res.row.src (S.holds _ (Pull.mem .h).1)) underlying22 J71 c6 rfl fun A5 cp17 a w S=>s_as1 S rfl fun a S=>c_end (c_region (s_mv3 S rfl fun a S=>?_))
      obtain ⟨c7,h4⟩:=chk_of h3; clear h3
      refine s_cutR S (ty':=Y71) (i:=y36) (j:=((y21).length:Int)) rfl .h3 underlying22 T71 (.inr ⟨_,_,rfl,rfl⟩) (.inl ⟨rfl,congrArg (Nat.cast:Nat→Int) (S.holds _ (Pull.mem .h3).1).1⟩) (by have h0:=(S.holds _ (Pull.mem .h3).1).1; have h1:=c7; omega) rfl fun a S=>?_
      obtain ⟨c8,h5⟩:=chk_of h4; clear h4
      refine s_app S (k2:=(Int.toNat ((y21).length:Int) - Int.toNat y36)) (ys:=(((y21).drop (Int.toNat y36)).take (Int.toNat ((y21).length:Int) - Int.toNat y36))) rfl (fun _ _=> .h1) rfl rfl (show (((y21).drop (Int.toNat y36)).take (Int.toNat ((y21).length:Int) - Int.toNat y36)).length=Int.toNat ((y21).length:Int) - Int.toNat y36 by have h0:=(S.holds _ (Pull.mem .h3).1).1; have h1:=c7; rw [List.length_take,List.length_drop]; omega) (Res.row.srcV (S.holds _ (Pull.mem .h3).1) (by have h0:=(S.holds _ (Pull.mem .h3).1).1; have h1:=c7; omega)) underlying22 J71 c8 rfl fun A6 cp18 a w S=>s_as1 S rfl fun a S=>c_end (c_region' (s_mv1 S rfl fun a S=>s_as1 S rfl fun a S=>c_end' (x_blockN (x_thenN ?_))))
      exact j2 _ A6 (((0+(Int.toNat y36 - Int.toNat 0))+1)+(Int.toNat ((y21).length:Int) - Int.toNat y36)) cp18 (((([]:List L71)++(((y21).drop (Int.toNat 0)).take (Int.toNat y36 - Int.toNat 0)))++[y30])++(((y21).drop (Int.toNat y36)).take (Int.toNat ((y21).length:Int) - Int.toNat y36))) g149 a w (S.sb rfl (.c1 (.c3 .n))) h5
     refine wp_block ?_
     refine c_loop (fun q2 a w=>∃ m y40 g162 g163,St 70 m b0 [(7,(.i y40)),(6,(.p g162)),(13,(.i y20)),(12,(.i (((ST37.un x1).2.1).length:Int))),(3,(.s A2 nn5 cp11)),(1,(.p g163))] [Res.cells g162 71 (Y71.segs y30 cc1),Res.row Y71 71 A2 nn5 cp11 y21,Res.cells g163 37 (SY37.segs x1 ch_0_0)] a w∧fa4_.l2 k y20 y21 (fa4_.l1 k x1 q1) y30 q2 y40=some r) ?_ ?_ (k:=k) ⟨_,((y21).length:Int),g131,g132,(S.sb rfl (.c0 (.c0 (.c0 .n)))),h3⟩
     ·rintro a w ⟨m,y40,g162,g163,S,h0⟩
      exact (nomatch (show (none:Option (List L71))=some r from h0))
     ·clear S h3
      rintro q2 a w ⟨m,y40,g162,g163,S,h0⟩
      replace h0:fa4_.b2 k y20 y21 (fa4_.l1 k x1 q1) y30 (fa4_.l2 k y20 y21 (fa4_.l1 k x1 q1) y30 q2) y40=some r:=h0
      delta fa4_.b2 at h0
      refine wp_seq (wp_seq_k fun K5 hK5=>?_)
      have j5:∀ m y41 g165 g166 a w,St 70 m b0 [(49,(.b y41)),(7,(.i y40)),(6,(.p g165)),(13,(.i y20)),(12,(.i (((ST37.un x1).2.1).length:Int))),(3,(.s A2 nn5 cp11)),(1,(.p g166))] [Res.cells g165 71 (Y71.segs y30 cc1),Res.row Y71 71 A2 nn5 cp11 y21,Res.cells g166 37 (SY37.segs x1 ch_0_0)] a w→fa4_.j5 y20 y21 (fa4_.l1 k x1 q1) y30 y40 (fa4_.l2 k y20 y21 (fa4_.l1 k x1 q1) y30 q2) y41=some r→K5 a w:=by
       intro m y41 g165 g166 a w S h0
       delta fa4_.j5 at h0
       refine hK5 a w ?_
       rcases ite_of h0 with ⟨c9,h1⟩ | ⟨c9,h1⟩
       ·refine c_condT S rfl c9 (wp_skip (x_thenN (wp_block (c_region' (s_mv1 S rfl fun a S=>s_bi S rfl fun a S=>s_as1 S rfl fun a S=>c_end' (x_blockN (x_thenN ?_)))))))
        exact ⟨_,(wr .i64 (y40 - 1)),g165,g166,(S.sb rfl (.c0 (.c0 (.c0 .n)))),h1⟩
       ·refine c_condF S rfl c9 (wp_exit (x_thenX (x_thenX (x_blockX (x_thenN ?_)))))
        exact j4 _ y40 g165 g166 a w (S.sb rfl (.c0 (.c0 (.c0 .n)))) h1
      have hS:=S.rowx (fun _=> .h1)
      clear S; obtain ⟨cs1,S⟩:=hS
      refine c_hS S (.tk 0 11 (.alts (.run 11 true (.take 12 .done) .nil))) 13 (.c0 (.c0 .n)) ⟨Res.stay_cells,Res.stay_rowx,trivial⟩ [(7,(.i y40)),(6,(.p g162)),(3,(.s A2 nn5 cp11))] rfl (by kernel_rfl) fun w S CL hw le=>?_
      refine h_mv1 S CL hw le rfl trivial fun a S CL=>h_bin S CL hw le (subR rfl) rfl rfl rfl rfl rfl trivial fun a S CL=>h_mv1 S CL hw le rfl trivial fun a S CL=>?_
      rcases ite_of h0 with ⟨c10,h1⟩ | ⟨c10,h1⟩
      ·refine h_fieldAddr S CL hw le (subR rfl) rfl I71_0 T40 (by decide) rfl rfl rfl ⟨_,_,rfl,rfl,c10⟩ fun a S CL=>h_loada S CL hw le (subR rfl) rfl .h T40 (s':=[.b20 y30.1]) rfl rfl rfl ⟨_,_,rfl,rfl,c10⟩ fun a S CL=>h_mv2 S CL hw le rfl ⟨_,_,rfl,rfl,c10⟩ ⟨_,_,rfl,rfl,c10⟩ fun a S CL=>h_bin S CL hw le (subR rfl) rfl rfl rfl rfl rfl ⟨_,_,rfl,rfl,c10⟩ fun a S CL=>?_
       obtain ⟨c11,h2⟩:=chk_of h1; clear h1
       refine h_iaddrX S CL hw le (subR rfl) (ty':=Y71) rfl .h1 rfl underlying22 T71 c11.1 c11.2 rfl rfl ⟨_,_,rfl,rfl,c10⟩ fun g167 a hA1 S CL=>h_fieldAddr S CL hw le (subR rfl) rfl I71_0 T40 (by decide) rfl rfl rfl ⟨_,_,rfl,rfl,c10⟩ fun a S CL=>h_ldXA S CL hw le (subR rfl) (ty':=Y71) (i:=(wr .i64 (y40 - 1))) (off:=0) (fun c=>[.b20 ((gt y21 (wr .i64 (y40 - 1))).1)]) rfl hA1 .h1 T40 c11.1 c11.2 rfl (fun _=>rfl) rfl rfl ⟨_,_,rfl,rfl,c10⟩ fun ch4 a S CL=>h_run' S rfl ⟨_,_,rfl,rfl,c10⟩ (bindX h2 fun t4 et4 h3=>s_callK S (fh1_.ok k et4) N88 rfl .pre (fun _=> .n) rfl fun ch5 m le1 a w S=>?_)
       replace le:=le.trans le1
       refine CL.bk hw S (.c0 (.c0 .n)) le fun hw=>?_
       replace CL:=CL.add (t:=48) (d:=(.b t4)) S rfl rfl
       refine h_pick S CL hw le (subR rfl) (b:=true) (hc_of rfl c10) rfl rfl rfl trivial fun a S CL=>?_
       refine h_done ?_; clear CL hw le
       replace S:=S.rowu .h1
       refine x_thenN ?_
       exact j5 _ t4 g162 g163 a w (S.sb rfl (.c0 (.c0 (.c0 .n)))) h3
      ·refine h_sk8 S CL rfl (ne_bool c10) fun a S CL=>h_skipRt S rfl rfl rfl (ne_bool c10) rfl fun a S=>CL.bk hw S (.c0 (.c0 .n)) le fun hw=>?_
       replace CL:=CL.add (t:=48) (d:= .u) S rfl rfl
       refine h_pick S CL hw le (subR rfl) (b:=false) (hc_of rfl c10) rfl rfl rfl trivial fun a S CL=>?_
       refine h_done ?_; clear CL hw le
       replace S:=S.rowu .h1
       refine x_thenN ?_
       exact j5 _ false g162 g163 a w (S.sb rfl (.c0 (.c0 (.c0 .n)))) h1
   refine c_region (s_fieldAddr S rfl I122_2 T4 (by decide) rfl rfl fun a S=>s_load1 S rfl .h1 T4 (v:=(.bool ((gt ((ST37.un x1).2.1) y20).t2))) rfl rfl fun a S=>c_end ?_)
   rcases ite_of h2 with ⟨c12,h3⟩ | ⟨c12,h3⟩
   ·refine c_condT S rfl c12 (c_region' (s_fieldAddr S rfl I122_0 T71 (by decide) rfl rfl fun a S=>s_fieldAddr S rfl I71_0 T40 (by decide) rfl rfl fun a S=>s_loada S rfl .h1 T40 (s':=[.b20 (((gt ((ST37.un x1).2.1) y20).1).1)]) rfl rfl fun a S=>s_bldS S (ds:=[(0,(.agg [.b20 (((gt ((ST37.un x1).2.1) y20).1).1)]))]) (zs:=[.b20 z20, .w 0, .w4 [0,0,0,0], .s none 0 0, .s none 0 0]) (s':=[.b20 (((gt ((ST37.un x1).2.1) y20).1).1), .w 0, .w4 [0,0,0,0], .s none 0 0, .s none 0 0]) rfl underlying71 P71 Z71 ⟨rfl,rfl,rfl,rfl,rfl,trivial⟩ rfl rfl fun a S=>s_store S rfl rfl rfl (s':=[.b20 (((gt ((ST37.un x1).2.1) y20).1).1), .w 0, .w4 [0,0,0,0], .s none 0 0, .s none 0 0]) .h T71 rfl rfl fun w S=>c_end' (x_thenN ?_)))
    replace S:=S.cellN 3 yb .h rfl
    replace S:=S.cellN 4 Y83 .h rfl
    exact j3 _ g130 g104 (((gt ((ST37.un x1).2.1) y20).1).1,0,[0,0,0,0],([]:List Int),([]:List ((List Int)×(List Int)))) ((),(),(),(none,0),(none,0)) a w (S.sb rfl (.c0 (.c1 (.c1 .n)))) h3
   ·refine c_condF S rfl c12 (wp_skip (x_thenN ?_))
    exact j3 _ g130 g104 ((gt ((ST37.un x1).2.1) y20).1) ch1.1 a w (S.sb rfl (.c0 (.c1 (.c1 .n)))) h3
  ·refine c_condF S rfl c1 (wp_exit (x_thenX (x_thenX (x_blockX (x_thenN ?_)))))
   exact j1 _ A2 nn5 cp11 y21 a w (S.sub ⟨rfl,trivial⟩ (.c0 .n)) h1
abbrev fe9_.Ty:Type:=(List L71)→(List L71)→Option Bool
def fe9_.Ctr (s:fe9_.Ty):Prop:=∀ {x1:List L71} {x2:List L71} {ch_0_0:Option Addr} {ch_0_1:Nat} {ch_1_0:Option Addr} {ch_1_1:Nat} {r:Bool} (h0:s x1 x2=some r) {mi:Mem} {w0:World},CtrB Tryz.prog 54 [(.q Y71 ch_0_0 ch_0_1 x1),(.q Y71 ch_1_0 ch_1_1 x2)] [] (fun (ch:Unit)=>((.b r):D)) (fun (ch:Unit)=>[]) mi w0
def fe9_.j1:Option Bool:=some true
def fe9_.b1 (k:Nat)(x1:List L71)(x2:List L71)(rec1:Int→Option Bool)(y1:Int):Option Bool:=if (decide (y1<((x1).length:Int)))=true then (if (0:Int)≤y1∧y1<((x1).length:Int) then (if (0:Int)≤y1∧y1<((x2).length:Int) then ((fh4_.f k (gt x1 y1) (gt x2 y1)).bind fun t1=>(if (!t1)=true then (some false) else (rec1 (wr .i64 (y1+1))))) else none) else none) else fe9_.j1
def fe9_.l1 (k:Nat)(x1:List L71)(x2:List L71):Nat→Int→Option Bool
  | 0,_=>none
  | q+1,y1=>fe9_.b1 k x1 x2 (fe9_.l1 k x1 x2 q) y1
def fe9_.f (k:Nat)(x1:List L71)(x2:List L71):Option Bool:=if (((x1).length:Int) != ((x2).length:Int))=true then (some false) else (fe9_.l1 k x1 x2 k 0)
theorem fe9_.ok (k:Nat):fe9_.Ctr (fe9_.f k):=by
 intro x1 x2 ch_0_0 ch_0_1 ch_1_0 ch_1_1 r h0 mi w0 ok hm
 delta fe9_.f at h0
 refine c_enterZ (n:=27) ok hm func54 rfl rfl rfl fun b0 hb a S=>c_region (s_as1 S rfl fun a S=>c_end (wp_seq (c_region (s_mv1 S rfl fun a S=>s_lenS S rfl underlying22 rfl fun a S=>s_mv1 S rfl fun a S=>s_lenS S rfl underlying22 rfl fun a S=>s_bi S rfl fun a S=>c_end ?_))))
 rcases ite_of h0 with ⟨c1,h1⟩ | ⟨c1,h1⟩
 ·refine c_condT S rfl c1 (c_region (s_as1 S rfl fun a S=>c_end (wp_ret (x_thenR ?_))))
  obtain rfl:=Option.some.inj h1
  exact b_ret1 (d:=(.b false)) S rfl rfl (S.rt hb)
 ·refine c_condF S rfl c1 (wp_skip (x_thenN (wp_seq_k fun K1 hK1=>?_)))
  have j1:∀ m a w,St 27 m b0 [] [] a w→fe9_.j1=some r→K1 a w:=by
   intro m a w S h0
   delta fe9_.j1 at h0
   refine hK1 a w (c_region (s_as1 S rfl fun a S=>c_end (wp_ret ?_)))
   obtain rfl:=Option.some.inj h0
   exact b_ret1 (d:=(.b true)) S rfl rfl (S.rt hb)
  refine c_region (s_mv1 S rfl fun a S=>s_lenS S rfl underlying22 rfl fun a S=>s_mv1 S rfl fun a S=>c_end (wp_block ?_))
  refine c_loop (fun q1 a w=>∃ m y1,St 27 m b0 [(13,(.i y1)),(12,(.i ((x1).length:Int))),(0,(.q Y71 ch_0_0 ch_0_1 x1)),(1,(.q Y71 ch_1_0 ch_1_1 x2))] [] a w∧fe9_.l1 k x1 x2 q1 y1=some r) ?_ ?_ (k:=k) ⟨_,0,(S.sb rfl .nil),h1⟩
  ·rintro a w ⟨m,y1,S,h0⟩
   exact (nomatch (show (none:Option Bool)=some r from h0))
  ·clear S h1
   rintro q1 a w ⟨m,y1,S,h0⟩
   replace h0:fe9_.b1 k x1 x2 (fe9_.l1 k x1 x2 q1) y1=some r:=h0
   delta fe9_.b1 at h0
   refine c_region (s_bi S rfl fun a S=>c_end (wp_seq ?_))
   rcases ite_of h0 with ⟨c2,h1⟩ | ⟨c2,h1⟩
   ·refine c_condT S rfl c2 (wp_skip (x_thenN (wp_seq (wp_block (c_region (s_mv1 S rfl fun a S=>s_as1 S rfl fun a S=>c_end ?_))))))
    refine wp_seq (c_hS S (.tk 0 8 (.alts (.run 8 true (.take 9 .done) .nil))) 10 .nil trivial [(5,(.i y1)),(0,(.q Y71 ch_0_0 ch_0_1 x1)),(1,(.q Y71 ch_1_0 ch_1_1 x2))] rfl (by kernel_rfl) ?_); clear S; intro w S CL hw le
    refine h_mv2 S CL hw le rfl trivial trivial fun a S CL=>?_
    obtain ⟨c3,h2⟩:=chk_of h1; clear h1
    refine h_iaddrS S CL hw le (subR rfl) rfl rfl rfl underlying22 T71 c3.1 c3.2 rfl rfl trivial fun p1 a S CL=>h_ldA S CL hw le (subR rfl) (fun (c:Unit×Unit×Unit×(Option Addr×Nat)×(Option Addr×Nat))=>(Y71.segs (gt x1 y1) c)) rfl T71 (fun _=>rfl) rfl rfl trivial fun ch1 a S CL=>?_
    refine h_mv2 S CL hw le rfl trivial trivial fun a S CL=>?_
    obtain ⟨c4,h3⟩:=chk_of h2; clear h2
    refine h_iaddrS S CL hw le (subR rfl) rfl rfl rfl underlying22 T71 c4.1 c4.2 rfl rfl trivial fun p2 a S CL=>h_ldA S CL hw le (subR rfl) (fun (c:Unit×Unit×Unit×(Option Addr×Nat)×(Option Addr×Nat))=>(Y71.segs (gt x2 y1) c)) rfl T71 (fun _=>rfl) rfl rfl trivial fun ch2 a S CL=>?_
    refine h_run' S rfl trivial (bindX h3 fun t1 et1 h4=>s_callK S (fh4_.ok k et1) N86 rfl .pre (fun _=> .n) rfl fun ch3 m le1 a w S=>?_)
    replace le:=le.trans le1
    refine CL.bk hw S .nil le fun hw=>?_
    replace CL:=CL.add (t:=24) (d:=(.b t1)) S rfl rfl
    refine h_not S CL hw le (subR rfl) rfl rfl rfl trivial fun a S CL=>?_
    refine h_done ?_; clear CL hw le
    refine x_thenN ?_
    rcases ite_of h4 with ⟨c5,h5⟩ | ⟨c5,h5⟩
    ·refine c_condT S rfl c5 (c_region (s_as1 S rfl fun a S=>c_end (wp_ret (x_blockR (x_thenR (x_thenR (x_blockR (x_thenR ?_))))))))
     obtain rfl:=Option.some.inj h5
     exact b_ret1 (d:=(.b false)) S rfl rfl (S.rt hb)
    ·refine c_condF S rfl c5 (wp_skip (x_blockN (x_thenN (c_region' (s_bi S rfl fun a S=>s_mv1 S rfl fun a S=>c_end' (x_thenN ?_))))))
     exact ⟨_,(wr .i64 (y1+1)),(S.sb rfl .nil),h5⟩
   ·refine c_condF S rfl c2 (wp_exit (x_thenX (x_thenX (x_blockX (x_thenN ?_)))))
    exact j1 _ a w (S.sub trivial .nil) h1
abbrev fi0_.Ty:Type:=W2→ST37→Option Bool
def fi0_.Ctr (s:fi0_.Ty):Prop:=∀ {x1:W2} {x2:ST37} {ch_0:W3} {ch_1_0:(Option Addr×Nat)×(Option Addr×Nat)×(Option Addr×Nat)×(Option Addr×Nat)×Unit×(Option Addr×Nat)×Unit×(Option Addr×Nat)} {r:Bool} (h0:s x1 x2=some r) {mi:Mem} {w0:World},CtrB Tryz.prog 15 [(.v (.pointer (some ⟨ch_0.1,0,none⟩))),(.agg (SY37.segs x2 ch_1_0))] (MS1 x1 ch_0) (fun (ch:Unit)=>((.b r):D)) (fun (ch:Unit)=>(MS1 x1 ch_0)) mi w0
def fi0_.f (k:Nat)(x1:W2)(x2:ST37):Option Bool:=(ff2_.f x1).bind fun t1=>(if (t1==((ST37.un x2).2.2.2.2.1))=true then ((fh5_.f k x1).bind fun t2=>((fd9_.f k t2 ((ST37.un x2).2.2.2.2.2.1)).bind fun t3=>(if t3=true then ((fe4_.f k x1).bind fun t4=>((fa4_.f k x2).bind fun t5=>((fe9_.f k t4 t5).bind fun t6=>(some t6)))) else (some false)))) else (some false))
theorem fi0_.ok (k:Nat):fi0_.Ctr (fi0_.f k):=by
 intro x1 x2 ch_0 ch_1_0 r h0 mi w0 ok hm
 delta fi0_.f at h0
 refine c_enterZ (n:=24) ok hm func15 rfl rfl rfl fun b0 hb a S=>c_region (s_box S rfl rfl rfl fun g1 a w S=>s_as1 S rfl fun a S=>c_end ?_)
 refine wp_seq (c_hS S (.take 0 (.take 2 (.take 3 (.alts (.run 1 true (.tk 4 3 (.take 8 (.take 9 (.alts (.run 7 true (.alts (.run 10 true (.tk 11 3 (.take 15 (.alts (.run 14 true (.alts (.run 16 true (.alts (.run 17 true (.take 18 (.take 19 .done)) .nil)) .nil)) .nil)))) .nil)) .nil))))) .nil))))) 20 (.c0 .n) ⟨Res.stay_cells,trivial⟩ [(3,(.p g1)),(0,(.v (.pointer (some ⟨ch_0.1,0,none⟩))))] rfl (by kernel_rfl) ?_); clear S; intro w S CL hw le
 refine h_mv1 S CL hw le rfl trivial fun a S CL=>h_fieldAddr S CL hw le (subR rfl) rfl I37_4 T2 (by decide) rfl rfl rfl trivial fun a S CL=>h_load1 S CL hw le (subR rfl) rfl .h T2 (v:=(.int .i64 ((ST37.un x2).e5))) rfl rfl rfl trivial fun a S CL=>h_run' S rfl trivial (bindX h0 fun t1 et1 h1=>s_callK S (ff2_.ok (ch_0:=ch_0) et1) N23 rfl (.sk .pre) (fun _=> .c8) rfl fun ch1 m le1 a w S=>?_)
 replace le:=le.trans le1
 refine CL.bk hw S (.c8 .n) le fun hw=>?_
 replace CL:=CL.add (t:=6) (d:=(.i t1)) S rfl rfl
 refine h_bin S CL hw le (subR rfl) rfl rfl rfl rfl rfl trivial fun a S CL=>h_mv1 S CL hw le rfl trivial fun a S CL=>?_
 rcases ite_of h1 with ⟨c1,h2⟩ | ⟨c1,h2⟩
 ·refine h_mv1 S CL hw le rfl ⟨_,_,rfl,rfl,c1⟩ fun a S CL=>h_fieldAddr S CL hw le (subR rfl) rfl I37_5 T34 (by decide) rfl rfl rfl ⟨_,_,rfl,rfl,c1⟩ fun a S CL=>h_loadSl S CL hw le (subR rfl) rfl .h T34 (A:=ch_1_0.e6.1) (len:=((ST37.un x2).e6).length) (cap:=ch_1_0.e6.2) rfl rfl rfl ⟨_,_,rfl,rfl,c1⟩ fun a S CL=>h_run' S rfl ⟨_,_,rfl,rfl,c1⟩ (bindX h2 fun t2 et2 h3=>s_callK S (fh5_.ok k (ch_0:=ch_0) et2) N24 rfl .pre (fun _=> .c9) rfl fun ch2 m le1 a w S=>?_)
  replace le:=le.trans le1
  refine CL.bk hw S (.c9 .n) le fun hw=>h_run' S rfl ⟨_,_,rfl,rfl,c1⟩ ?_
  replace S:=S.rowfro .h
  obtain ⟨m,le1,S,hro⟩:=S
  replace le:=le.trans le1
  replace S:=S.slotro (u:=12) rfl hro
  refine bindX h3 fun t3 et3 h4=>s_callK S (fd9_.ok k et3) N53 rfl .pre (fun _=> .n) rfl fun ch3 m le1 a w S=>?_
  replace le:=le.trans le1
  refine CL.bk hw S (.c8 .n) le fun hw=>?_
  replace CL:=CL.add (t:=15) (d:=(.b t3)) S rfl rfl
  refine h_pick S CL hw le (subR rfl) (b:=true) (hc_of rfl c1) rfl rfl rfl trivial fun a S CL=>h_mv1 S CL hw le rfl trivial fun a S CL=>?_
  rcases ite_of h4 with ⟨c2,h5⟩ | ⟨c2,h5⟩
  ·refine h_mv1 S CL hw le rfl ⟨_,_,rfl,rfl,c2⟩ fun a S CL=>h_loada S CL hw le (subR rfl) rfl .h T37 (s':=(SY37.segs x2 ch_1_0)) rfl rfl rfl ⟨_,_,rfl,rfl,c2⟩ fun a S CL=>h_run' S rfl ⟨_,_,rfl,rfl,c2⟩ (bindX h5 fun t4 et4 h6=>s_callK S (fe4_.ok k (ch_0:=ch_0) et4) N26 rfl .pre (fun _=> .c9) rfl fun ch4 m le1 a w S=>?_)
   replace le:=le.trans le1
   refine CL.bk hw S (.c9 .n) le fun hw=>h_run' S rfl ⟨_,_,rfl,rfl,c2⟩ (bindX h6 fun t5 et5 h7=>s_callK S (fa4_.ok k (ch_0_0:=ch_1_0) et5) N55 rfl .pre (fun _=> .c1) rfl fun ch5 m le1 a w S=>?_)
   replace le:=le.trans le1
   refine CL.bk hw S (.c10 .n) le fun hw=>h_run' S rfl ⟨_,_,rfl,rfl,c2⟩ ?_
   replace S:=S.rowfro .h1
   obtain ⟨m,le1,S,hro⟩:=S
   replace le:=le.trans le1
   replace S:=S.slotro (u:=19) rfl hro
   replace S:=S.rowfro .h
   obtain ⟨m,le1,S,hro⟩:=S
   replace le:=le.trans le1
   replace S:=S.slotro (u:=21) rfl hro
   refine bindX h7 fun t6 et6 h8=>s_callK S (fe9_.ok k et6) N54 rfl .pre (fun _=> .n) rfl fun ch6 m le1 a w S=>?_
   replace le:=le.trans le1
   refine CL.bk hw S (.c8 .n) le fun hw=>?_
   replace CL:=CL.add (t:=22) (d:=(.b t6)) S rfl rfl
   refine h_pick S CL hw le (subR rfl) (b:=true) (hc_of rfl c2) rfl rfl rfl trivial fun a S CL=>h_assign S CL hw le (subR rfl) rfl rfl rfl trivial fun a S CL=>?_
   refine h_done ?_; clear CL hw le
   refine x_thenN (wp_ret ?_)
   obtain rfl:=Option.some.inj h8
   exact b_ret1 (d:=(.b t6)) S rfl rfl fun ok=>S.retX (Hx:=[]) hb _ _ (():Unit) (.c0 (.c0 (.c0 (.c0 (.c0 (.c0 (.c0 (.c0 .n)))))))) ok
  ·refine h_sk2 S CL rfl (ne_bool c2) fun a S CL=>h_skipRt S rfl rfl rfl (ne_bool c2) rfl fun a S=>CL.bk hw S (.c8 .n) le fun hw=>h_skipRt S rfl rfl rfl (ne_bool c2) rfl fun a S=>CL.bk hw S (.c8 .n) le fun hw=>h_skipRt S rfl rfl rfl (ne_bool c2) rfl fun a S=>CL.bk hw S (.c8 .n) le fun hw=>?_
   replace CL:=CL.add (t:=22) (d:= .u) S rfl rfl
   refine h_pick S CL hw le (subR rfl) (b:=false) (hc_of rfl c2) rfl rfl rfl trivial fun a S CL=>h_assign S CL hw le (subR rfl) rfl rfl rfl trivial fun a S CL=>?_
   refine h_done ?_; clear CL hw le
   refine x_thenN (wp_ret ?_)
   obtain rfl:=Option.some.inj h5
   exact b_ret1 (d:=(.b false)) S rfl rfl fun ok=>S.retX (Hx:=[]) hb _ _ (():Unit) (.c0 (.c0 (.c0 (.c0 (.c0 (.c0 (.c0 (.c0 .n)))))))) ok
 ·refine h_sk2 S CL rfl (ne_bool c1) fun a S CL=>h_sk1 S CL rfl (ne_bool c1) fun a S CL=>h_skipRt S rfl rfl rfl (ne_bool c1) rfl fun a S=>CL.bk hw S (.c8 .n) le fun hw=>h_skipRt S rfl rfl rfl (ne_bool c1) rfl fun a S=>CL.bk hw S (.c8 .n) le fun hw=>?_
  replace CL:=CL.add (t:=15) (d:= .u) S rfl rfl
  refine h_pick S CL hw le (subR rfl) (b:=false) (hc_of rfl c1) rfl rfl rfl trivial fun a S CL=>h_mv1 S CL hw le rfl trivial fun a S CL=>h_skip S CL rfl rfl rfl (ne_bool rfl) rfl fun a S CL=>h_skip S CL rfl rfl rfl (ne_bool rfl) rfl fun a S CL=>h_skipRt S rfl rfl rfl (ne_bool rfl) rfl fun a S=>CL.bk hw S (.c8 .n) le fun hw=>h_skipRt S rfl rfl rfl (ne_bool rfl) rfl fun a S=>CL.bk hw S (.c8 .n) le fun hw=>h_skipRt S rfl rfl rfl (ne_bool rfl) rfl fun a S=>CL.bk hw S (.c8 .n) le fun hw=>?_
  replace CL:=CL.add (t:=22) (d:= .u) S rfl rfl
  refine h_pick S CL hw le (subR rfl) (b:=false) (hc_of rfl rfl) rfl rfl rfl trivial fun a S CL=>h_assign S CL hw le (subR rfl) rfl rfl rfl trivial fun a S CL=>?_
  refine h_done ?_; clear CL hw le
  refine x_thenN (wp_ret ?_)
  obtain rfl:=Option.some.inj h2
  exact b_ret1 (d:=(.b false)) S rfl rfl fun ok=>S.retX (Hx:=[]) hb _ _ (():Unit) (.c0 (.c0 (.c0 (.c0 (.c0 (.c0 (.c0 (.c0 .n)))))))) ok
abbrev fb7_.Ty:Type:=(List L71)→(List L46)→Option Bool
def fb7_.Ctr (s:fb7_.Ty):Prop:=∀ {x1:List L71} {x2:List L46} {ch_0_0:Option Addr} {ch_0_1:Nat} {ch_1_0:Option Addr} {ch_1_1:Nat} {r:Bool} (h0:s x1 x2=some r) {mi:Mem} {w0:World},CtrB Tryz.prog 5 [(.q Y71 ch_0_0 ch_0_1 x1),(.q Y46 ch_1_0 ch_1_1 x2)] [] (fun (ch:Unit)=>((.b r):D)) (fun (ch:Unit)=>[]) mi w0
def fb7_.j1 (k:Nat)(y1:ST37)(y2:List L71)(y3:W15)(y4:List L110)(y5:W16)(y6:W17)(y7:Int)(y8:List L100)(y9:List Clo)(y10:List (List Int)):Option Bool:=(fi0_.f k (y2,(y3,y4,y5,y6),y7,y8,y9,y10) y1).bind fun t7=>(some t7)
def fb7_.j2 (y40:Int)(rec1:(List (List Int))→Int→ST37→(List L71)→W15→(List L110)→W16→W17→Int→(List L100)→(List Clo)→(List (List Int))→Option Bool)(t11:W27)(y51:Bool)(y52:W15)(y53:List L110)(y54:W16)(y55:W17)(y56:List L100)(y57:List Clo)(y58:List (List Int)):Option Bool:=if y51=true then (some false) else (rec1 t11.2.2.1 (wr .i64 (y40+1)) t11.2.1 t11.2.2.2.1 y52 y53 y54 y55 t11.2.2.2.2.2.1 y56 y57 y58)
def fb7_.b1 (k:Nat)(t8:List L46)(rec1:(List (List Int))→Int→ST37→(List L71)→W15→(List L110)→W16→W17→Int→(List L100)→(List Clo)→(List (List Int))→Option Bool)(y39:List (List Int))(y40:Int)(y41:ST37)(y42:List L71)(y43:W15)(y44:List L110)(y45:W16)(y46:W17)(y47:Int)(y48:List L100)(y49:List Clo)(y50:List (List Int)):Option Bool:=if (decide (y40<((t8).length:Int)))=true then (if (0:Int)≤y40∧y40<((t8).length:Int) then ((ff9_.f k (y42,(y43,y44,y45,y46),y47,y48,y49,y50) y41 y39 (gt t8 y40)).bind fun t11=>(if (!t11.1)=true then (fb7_.j2 y40 rec1 t11 true t11.2.2.2.2.1.1 t11.2.2.2.2.1.2.1 t11.2.2.2.2.1.2.2.1 t11.2.2.2.2.1.2.2.2 t11.2.2.2.2.2.2.1 t11.2.2.2.2.2.2.2.1 t11.2.2.2.2.2.2.2.2) else ((fh7_.f k t11.2.2.2 t11.2.1 ((gt t8 y40).2.1) ((gt t8 y40).2.2.1)).bind fun t13=>(fb7_.j2 y40 rec1 t11 (!t13.1) t13.2.2.1.1 t13.2.2.1.2.1 t13.2.2.1.2.2.1 t13.2.2.1.2.2.2 t13.2.2.2.2.1 t13.2.2.2.2.2.1 t13.2.2.2.2.2.2)))) else none) else (fb7_.j1 k y41 y42 y43 y44 y45 y46 y47 y48 y49 y50)
def fb7_.l1 (k:Nat)(t8:List L46):Nat→(List (List Int))→Int→ST37→(List L71)→W15→(List L110)→W16→W17→Int→(List L100)→(List Clo)→(List (List Int))→Option Bool
  | 0,_,_,_,_,_,_,_,_,_,_,_,_=>none
  | q+1,y39,y40,y41,y42,y43,y44,y45,y46,y47,y48,y49,y50=>fb7_.b1 k t8 (fb7_.l1 k t8 q) y39 y40 y41 y42 y43 y44 y45 y46 y47 y48 y49 y50
def fb7_.f (k:Nat)(x1:List L71)(x2:List L46):Option Bool:=(fg8_.f k x1).bind fun t1=>(if (!t1)=true then ((fg0_.f k).bind fun t2=>(some t2)) else ((fj6_.f k x1).bind fun t3=>((fi3_.f t3).bind fun t4=>((fg0_.f k).bind fun t5=>(if (!t5)=true then (some false) else ((fi1_.f k x2).bind fun t8=>(fb7_.l1 k t8 k ([]:List (List Int)) 0 (ST37.mk (x1,([]:List (L71×Bool×Bool)),([]:List (List Int)),([]:List ((List Int)×(List Int))),0,([]:List L100),true,([]:List ST37))) t4.1 t4.2.1.1 t4.2.1.2.1 t4.2.1.2.2.1 t4.2.1.2.2.2 t4.2.2.1 t4.2.2.2.1 t4.2.2.2.2.1 t4.2.2.2.2.2)))))))
theorem fb7_.ok (k:Nat):fb7_.Ctr (fb7_.f k):=by
 intro x1 x2 ch_0_0 ch_0_1 ch_1_0 ch_1_1 r h0 mi w0 ok hm
 delta fb7_.f at h0
 refine c_enterZ (n:=58) ok hm func5 rfl rfl rfl fun b0 hb a S=>c_region (s_as1 S rfl fun a S=>c_end (wp_seq (c_region (s_mv1 S rfl fun a S=>bindX h0 fun t1 et1 h1=>s_callK S (fg8_.ok k et1) N7 rfl .pre (fun _=> .n) rfl fun ch1 m le1 a w S=>s_not S rfl rfl fun a S=>c_end ?_))))
 rcases ite_of h1 with ⟨c1,h2⟩ | ⟨c1,h2⟩
 ·refine c_condT S rfl c1 (c_region (bindX h2 fun t2 et2 h3=>s_callK S (fg0_.ok k et2) N8 rfl .pre (fun _=> .n) rfl fun ch2 m le1 a w S=>s_as1 S rfl fun a S=>c_end (wp_ret (x_thenR ?_))))
  obtain rfl:=Option.some.inj h3
  exact b_ret1 (d:=(.b t2)) S rfl rfl (S.rt hb)
 ·refine c_condF S rfl c1 (wp_skip (x_thenN (c_region (s_mv1 S rfl fun a S=>bindX h2 fun t3 et3 h3=>s_callK S (fj6_.ok k et3) N10 rfl .pre (fun _=> .n) rfl fun ch3 m le1 a w S=>bindX h3 fun t4 et4 h4=>s_callK S (fi3_.ok et4) N9 rfl .pre (fun _=> .c8) rfl fun ch4 m le1 a w S=>s_as1 S rfl fun a S=>c_end (c_region (s_mv1 S rfl fun a S=>s_bldS S (ds:=[(0,(.q Y71 ch_0_0 ch_0_1 x1)),(6,(.b true))]) (zs:=[.s none 0 0, .s none 0 0, .s none 0 0, .s none 0 0, .i 0, .s none 0 0, .b false, .s none 0 0]) (s':=[.q Y71 ch_0_0 ch_0_1 x1, .s none 0 0, .s none 0 0, .s none 0 0, .i 0, .s none 0 0, .b true, .s none 0 0]) rfl underlying37 P37 Z37 ⟨rfl,rfl,rfl,rfl,rfl,rfl,rfl,rfl,trivial⟩ rfl rfl fun a S=>s_alloc S Z37 rfl ⟨rfl,rfl,rfl,rfl,rfl,rfl,rfl,rfl,trivial⟩ rfl fun g1 a w S=>s_store S rfl rfl rfl (s':=[.q Y71 ch_0_0 ch_0_1 x1, .s none 0 0, .s none 0 0, .s none 0 0, .i 0, .s none 0 0, .b true, .s none 0 0]) .h T37 rfl rfl fun w S=>c_end (wp_seq (c_region (s_mv1 S rfl fun a S=>s_eqp S (b:=false) rfl rfl underlying26 rfl rfl fun a S=>s_mv1 S rfl fun a S=>s_gT S (b:=false) rfl rfl rfl (bindX h4 fun t5 et5 h5=>s_callK S (fg0_.ok k et5) N8 rfl .pre (fun _=> .n) rfl fun ch5 m le1 a w S=>s_gT S (b:=false) rfl rfl rfl (s_not S rfl rfl fun a S=>s_pick S (b:=false) (hc_of rfl rfl) rfl rfl fun a S=>c_end ?_)))))))))))
  rcases ite_of h5 with ⟨c2,h6⟩ | ⟨c2,h6⟩
  ·refine c_condT S rfl c2 (c_region (s_as1 S rfl fun a S=>c_end (wp_ret (x_thenR ?_))))
   obtain rfl:=Option.some.inj h6
   exact b_ret1 (d:=(.b false)) S rfl rfl (S.rt hb)
  ·refine c_condF S rfl c2 (wp_skip (x_thenN (c_region (s_as1 S rfl fun a S=>c_end (wp_seq_k fun K1 hK1=>?_)))))
   have j1:∀ (m:Mem) (g13:Nat) (y1:ST37) (cc1:(Option Addr×Nat)×(Option Addr×Nat)×(Option Addr×Nat)×(Option Addr×Nat)×Unit×(Option Addr×Nat)×Unit×(Option Addr×Nat)) (A1:Option Addr) (cp1:Nat) (y2:List L71) (g14:Nat) (y3:List ((List Int)×Option Nat)) (G1:List Nat) (G2:List Nat) (G3:List Nat) (y4:List L110) (y5:List (List ((List Int)×(List Int)))) (y6:List (List ((List Int)×Bool))) (y7:Int) (A2:Option Addr) (nn1:Nat) (cp2:Nat) (y8:List L100) (A3:Option Addr) (nn2:Nat) (cp3:Nat) (y9:List Clo) (A4:Option Addr) (nn3:Nat) (cp4:Nat) (y10:List (List Int)) (a:Act) (w:World),St 58 m b0 [(6,(.p g13)),(5,(.v (.pointer (some ⟨ch4.1,0,none⟩))))] ([Res.cells g13 37 (SY37.segs y1 cc1)]++MS1 (y2,(y3,y4,y5,y6),y7,y8,y9,y10) (ch4.1,A1,cp1,g14,G1,G2,G3,A2,nn1,cp2,A3,nn2,cp3,A4,nn3,cp4)) a w→fb7_.j1 k y1 y2 y3 y4 y5 y6 y7 y8 y9 y10=some r→K1 a w:=by
    intro m g13 y1 cc1 A1 cp1 y2 g14 y3 G1 G2 G3 y4 y5 y6 y7 A2 nn1 cp2 y8 A3 nn2 cp3 y9 A4 nn3 cp4 y10 a w S h0
    delta fb7_.j1 at h0
    refine hK1 a w (c_region (s_mv1 S rfl fun a S=>s_loada S rfl .h T37 (s':=(SY37.segs y1 cc1)) rfl rfl fun a S=>bindX h0 fun t7 et7 h1=>s_callK S (fi0_.ok k (ch_0:=(ch4.1,A1,cp1,g14,G1,G2,G3,A2,nn1,cp2,A3,nn2,cp3,A4,nn3,cp4)) (ch_1_0:=cc1) et7) N15 rfl (.sk .pre) (fun _=> .c8) rfl fun ch6 m le1 a w S=>s_as1 S rfl fun a S=>c_end (wp_ret ?_)))
    obtain rfl:=Option.some.inj h1
    exact b_ret1 (d:=(.b t7)) S rfl rfl (S.rt hb)
   refine c_region (s_mv1 S rfl fun a S=>bindX h6 fun t8 et8 h7=>s_callK S (fi1_.ok k et8) N11 rfl .pre (fun _=> .n) rfl fun ch7 m le1 a w S=>s_lenS S rfl underlying23 rfl fun a S=>s_mv1 S rfl fun a S=>c_end (wp_block ?_))
   replace S:=S.nilrow (Ty.arr .i64 2) 103
   replace S:=S.cellN 1 Y122 .h1 rfl
   replace S:=S.cellN 2 (Ty.arr .u8 20) .h1 rfl
   replace S:=S.cellN 3 Y133 .h1 rfl
   replace S:=S.cellN 5 Y100 .h1 rfl
   replace S:=S.cellJ (x:= .sl none (([]:List ST37)).length 0 (SR37 none ([]:List ST37))) 7 .h1 rfl rfl SN37
   refine c_loop (fun q1 a w=>∃ (m:Mem) (A5:Option Addr) (nn14:Nat) (cp18:Nat) (y39:List (List Int)) (y40:Int) (A6:Option Addr) (cp19:Nat) (g24:Nat) (y41:ST37) (cc2:(Option Addr×Nat)×(Option Addr×Nat)×(Option Addr×Nat)×(Option Addr×Nat)×Unit×(Option Addr×Nat)×Unit×(Option Addr×Nat)) (A7:Option Addr) (cp20:Nat) (y42:List L71) (g25:Nat) (y43:List ((List Int)×Option Nat)) (G4:List Nat) (G5:List Nat) (G6:List Nat) (y44:List L110) (y45:List (List ((List Int)×(List Int)))) (y46:List (List ((List Int)×Bool))) (y47:Int) (A8:Option Addr) (nn15:Nat) (cp21:Nat) (y48:List L100) (A9:Option Addr) (nn16:Nat) (cp22:Nat) (y49:List Clo) (A10:Option Addr) (nn17:Nat) (cp23:Nat) (y50:List (List Int)),St 58 m b0 [(7,(.s A5 nn14 cp18)),(29,(.i y40)),(28,(.i ((t8).length:Int))),(27,(.q Y46 A6 cp19 t8)),(6,(.p g24)),(5,(.v (.pointer (some ⟨ch4.1,0,none⟩))))] ([Res.row (Ty.arr .i64 2) 103 A5 nn14 cp18 y39,Res.cells g24 37 (SY37.segs y41 cc2)]++MS1 (y42,(y43,y44,y45,y46),y47,y48,y49,y50) (ch4.1,A7,cp20,g25,G4,G5,G6,A8,nn15,cp21,A9,nn16,cp22,A10,nn17,cp23)) a w∧fb7_.l1 k t8 q1 y39 y40 y41 y42 y43 y44 y45 y46 y47 y48 y49 y50=some r) ?_ ?_ (k:=k) ⟨_,none,0,0,([]:List (List Int)),0,ch7.1,ch7.2,g1,(ST37.mk (x1,([]:List (L71×Bool×Bool)),([]:List (List Int)),([]:List ((List Int)×(List Int))),0,([]:List L100),true,([]:List ST37))),((ch_0_0,ch_0_1),(none,0),(none,0),(none,0),(),(none,0),(),(none,0)),ch4.2.1,ch4.e3,t4.1,ch4.e4,t4.2.1.1,ch4.e5,ch4.e6,ch4.e7,t4.2.1.2.1,t4.2.1.e3,t4.2.1.t3,t4.e3,ch4.e8,ch4.e9,ch4.e10,t4.e4,ch4.e11,ch4.e12,ch4.e13,t4.e5,ch4.e14,ch4.e15,ch4.t15,t4.t5,(S.sb rfl (.c0 (.c0 (.c0 (.c0 (.c0 (.c0 (.c0 (.c0 (.c0 (.c0 .n))))))))))),h7⟩
   ·rintro a w ⟨m,A5,nn14,cp18,y39,y40,A6,cp19,g24,y41,cc2,A7,cp20,y42,g25,y43,G4,G5,G6,y44,y45,y46,y47,A8,nn15,cp21,y48,A9,nn16,cp22,y49,A10,nn17,cp23,y50,S,h0⟩
    exact (nomatch (show (none:Option Bool)=some r from h0))
   ·clear S h7
    rintro q1 a w ⟨m,A5,nn14,cp18,y39,y40,A6,cp19,g24,y41,cc2,A7,cp20,y42,g25,y43,G4,G5,G6,y44,y45,y46,y47,A8,nn15,cp21,y48,A9,nn16,cp22,y49,A10,nn17,cp23,y50,S,h0⟩
    replace h0:fb7_.b1 k t8 (fb7_.l1 k t8 q1) y39 y40 y41 y42 y43 y44 y45 y46 y47 y48 y49 y50=some r:=h0
    delta fb7_.b1 at h0
    refine c_region (s_bi S rfl fun a S=>c_end (wp_seq ?_))
    rcases ite_of h0 with ⟨c3,h1⟩ | ⟨c3,h1⟩
    ·refine c_condT S rfl c3 (wp_skip (x_thenN (wp_seq (wp_block (c_region ?_)))))
     obtain ⟨c4,h2⟩:=chk_of h1; clear h1
     refine s_iaddrS S rfl rfl rfl underlying23 T46 c4.1 c4.2 rfl fun p1 a S=>s_ldA S (fun (c:Unit×Unit×Unit×Unit×Unit×(Option Addr×Nat))=>(Y46.segs (gt t8 y40) c)) rfl T46 (fun _=>rfl) rfl fun ch12 a S=>?_
     refine s_alloc S Z46 rfl ⟨rfl,rfl,rfl,rfl,rfl,rfl,trivial⟩ rfl fun g26 a w S=>s_store S rfl rfl rfl (s':=(Y46.segs (gt t8 y40) ch12)) .h T46 rfl rfl fun w S=>c_end (c_region (s_as1 S rfl fun a S=>c_end (c_region (s_mv1 S rfl fun a S=>s_loada S rfl .h2 T37 (s':=(SY37.segs y41 cc2)) rfl rfl fun a S=>s_mv1 S rfl fun a S=>s_loada S rfl .h T46 (s':=(Y46.segs (gt t8 y40) ch12)) rfl rfl fun a S=>bindX h2 fun t11 et11 h3=>s_callK S (ff9_.ok k (ch_0:=(ch4.1,A7,cp20,g25,G4,G5,G6,A8,nn15,cp21,A9,nn16,cp22,A10,nn17,cp23)) (ch_1_0:=cc2) et11) N12 rfl (.c3 (.c3 (.c3 (.c3 (.c3 (.c3 (.c3 (.c3 (.c1 .n))))))))) (fun _=> .c9) rfl fun ch13 m le1 a w S=>s_mv1 S rfl fun a S=>s_extract S rfl rfl rfl rfl fun a S=>s_extract S rfl rfl rfl rfl fun a S=>s_extract S rfl rfl rfl rfl fun a S=>s_as1 S rfl fun a S=>s_store S rfl rfl rfl (s':=(SY37.segs t11.2.1 ch13.1)) .h10 T37 rfl rfl fun w S=>s_as1 S rfl fun a S=>c_end (wp_seq_k fun K2 hK2=>?_)))))
     have j2:∀ (m:Mem) (y51:Bool) (g27:Nat) (g28:Nat) (y52:List ((List Int)×Option Nat)) (G7:List Nat) (G8:List Nat) (G9:List Nat) (y53:List L110) (y54:List (List ((List Int)×(List Int)))) (y55:List (List ((List Int)×Bool))) (A11:Option Addr) (nn18:Nat) (cp24:Nat) (y56:List L100) (A12:Option Addr) (nn19:Nat) (cp25:Nat) (y57:List Clo) (A13:Option Addr) (nn20:Nat) (cp26:Nat) (y58:List (List Int)) (a:Act) (w:World),St 58 m b0 [(53,(.b y51)),(7,(.s ch13.2.1 ch13.e3 ch13.e4)),(29,(.i y40)),(28,(.i ((t8).length:Int))),(27,(.q Y46 A6 cp19 t8)),(6,(.p g27)),(5,(.v (.pointer (some ⟨ch4.1,0,none⟩))))] ([Res.row (Ty.arr .i64 2) 103 ch13.2.1 ch13.e3 ch13.e4 t11.e3]++MS1 (t11.e4,(y52,y53,y54,y55),t11.e6,y56,y57,y58) (ch4.1,ch13.e5,ch13.e6,g28,G7,G8,G9,A11,nn18,cp24,A12,nn19,cp25,A13,nn20,cp26)++[Res.cells g27 37 (SY37.segs t11.2.1 ch13.1)]) a w→fb7_.j2 y40 (fb7_.l1 k t8 q1) t11 y51 y52 y53 y54 y55 y56 y57 y58=some r→K2 a w:=by
      intro m y51 g27 g28 y52 G7 G8 G9 y53 y54 y55 A11 nn18 cp24 y56 A12 nn19 cp25 y57 A13 nn20 cp26 y58 a w S h0
      delta fb7_.j2 at h0
      refine hK2 a w ?_
      rcases ite_of h0 with ⟨c5,h1⟩ | ⟨c5,h1⟩
      ·refine c_condT S rfl c5 (c_region (s_as1 S rfl fun a S=>c_end (wp_ret (x_blockR (x_thenR (x_thenR (x_blockR (x_thenR ?_))))))))
       obtain rfl:=Option.some.inj h1
       exact b_ret1 (d:=(.b false)) S rfl rfl (S.rt hb)
      ·refine c_condF S rfl c5 (wp_skip (x_blockN (x_thenN (c_region' (s_bi S rfl fun a S=>s_mv1 S rfl fun a S=>c_end' (x_thenN ?_))))))
       exact ⟨_,ch13.2.1,ch13.e3,ch13.e4,t11.e3,(wr .i64 (y40+1)),A6,cp19,g27,t11.2.1,ch13.1,ch13.e5,ch13.e6,t11.e4,g28,y52,G7,G8,G9,y53,y54,y55,t11.e6,A11,nn18,cp24,y56,A12,nn19,cp25,y57,A13,nn20,cp26,y58,(S.sb rfl (.c0 (.c8 (.c0 (.c0 (.c0 (.c0 (.c0 (.c0 (.c0 (.c0 .n))))))))))),h1⟩
     refine c_region' (s_mv1 S rfl fun a S=>s_not S rfl rfl fun a S=>s_mv1 S rfl fun a S=>?_)
     rcases ite_of h3 with ⟨c6,h4⟩ | ⟨c6,h4⟩
     ·refine s_gF S (b:=(!t11.1)) rfl rfl c6 rfl fun a S=>s_gF S (b:=(!t11.1)) rfl rfl c6 rfl fun a S=>s_gF S (b:=(!t11.1)) rfl rfl c6 rfl fun a S=>s_gF S (b:=(!t11.1)) rfl rfl c6 rfl fun a S=>s_gF S (b:=(!t11.1)) rfl rfl c6 rfl fun a S=>s_gF S (b:=(!t11.1)) rfl rfl c6 rfl fun a S=>s_gF S (b:=(!t11.1)) rfl rfl c6 rfl fun a S=>s_gF S (b:=(!t11.1)) rfl rfl c6 rfl fun a S=>s_pick S (b:=true) (hc_of rfl c6) rfl rfl fun a S=>c_end' (x_thenN ?_)
      exact j2 _ true g24 ch13.e7 t11.e5.1 ch13.e8 ch13.e9 ch13.e10 t11.e5.2.1 t11.e5.e3 t11.e5.t3 ch13.e11 ch13.e12 ch13.e13 t11.e7 ch13.e14 ch13.e15 ch13.e16 t11.e8 ch13.e17 ch13.e18 ch13.t18 t11.t8 a w (S.sb rfl (.c0 (.c0 (.c0 (.c0 (.c0 (.c0 (.c0 (.c0 (.c0 (.c1 .n))))))))))) h4
     ·refine s_gT S (b:=(!t11.1)) rfl rfl c6 (s_mv1 S rfl fun a S=>s_gT S (b:=(!t11.1)) rfl rfl c6 (s_loada S rfl .h10 T37 (s':=(SY37.segs t11.2.1 ch13.1)) rfl rfl fun a S=>s_gT S (b:=(!t11.1)) rfl rfl c6 (s_fieldAddr S rfl I46_1 T40 (by decide) rfl rfl fun a S=>s_gT S (b:=(!t11.1)) rfl rfl c6 (s_loada S rfl .h9 T40 (s':=[.b20 ((gt t8 y40).2.1)]) rfl rfl fun a S=>s_gT S (b:=(!t11.1)) rfl rfl c6 (s_fieldAddr S rfl I46_2 T43 (by decide) rfl rfl fun a S=>s_gT S (b:=(!t11.1)) rfl rfl c6 (s_loada S rfl .h9 T43 (s':=[.w4 ((gt t8 y40).e3)]) rfl rfl fun a S=>s_gT S (b:=(!t11.1)) rfl rfl c6 (bindX h4 fun t13 et13 h5=>s_callK S (fh7_.ok k (ch_0:=(ch4.1,ch13.e5,ch13.e6,ch13.e7,ch13.e8,ch13.e9,ch13.e10,ch13.e11,ch13.e12,ch13.e13,ch13.e14,ch13.e15,ch13.e16,ch13.e17,ch13.e18,ch13.t18)) (ch_1_0:=ch13.1) et13) N27 rfl (.sk .pre) (fun _=> .c8) rfl fun ch15 m le1 a w S=>s_gT S (b:=(!t11.1)) rfl rfl c6 (s_not S rfl rfl fun a S=>s_pick S (b:=false) (hc_of rfl c6) rfl rfl fun a S=>c_end' (x_thenN ?_)))))))))
      exact j2 _ (!t13.1) g24 ch15.1 t13.e3.1 ch15.2.1 ch15.e3 ch15.e4 t13.e3.2.1 t13.e3.e3 t13.e3.t3 ch15.e5 ch15.e6 ch15.e7 t13.e5 ch15.e8 ch15.e9 ch15.e10 t13.e6 ch15.e11 ch15.e12 ch15.t12 t13.t6 a w (S.sb rfl (.c8 (.c0 (.c0 (.c0 (.c0 (.c0 (.c0 (.c0 (.c0 (.c1 .n))))))))))) h5
    ·refine c_condF S rfl c3 (wp_exit (x_thenX (x_thenX (x_blockX (x_thenN ?_)))))
     exact j1 _ g24 y41 cc2 A7 cp20 y42 g25 y43 G4 G5 G6 y44 y45 y46 y47 A8 nn15 cp21 y48 A9 nn16 cp22 y49 A10 nn17 cp23 y50 a w (S.sb rfl (.c1 (.c1 (.c1 (.c1 (.c1 (.c1 (.c1 (.c1 (.c1 .n)))))))))) h1
end
end GW
