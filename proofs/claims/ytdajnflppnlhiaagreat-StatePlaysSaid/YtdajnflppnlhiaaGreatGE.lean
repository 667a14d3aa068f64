import Derived.Test.YtdajnflppnlhiaaGreatProg
import Derived.Test.YtdajnflppnlhiaaGreatGD
set_option linter.unusedVariables false
set_option linter.unusedSimpArgs false
set_option maxRecDepth 10000
set_option maxHeartbeats 4000000
namespace GW
open Go Go.RowKit Go.Proofs Go.Proofs.Tryz
noncomputable section
abbrev fd2_.Ty:Type:=((List Int)×(List Int))→((List Int)×(List Int))→Option Int
def fd2_.Ctr (s:fd2_.Ty):Prop:=∀ {x1:(List Int)×(List Int)} {x2:(List Int)×(List Int)} {r:Int} (h0:s x1 x2=some r) {mi:Mem} {w0:World},CtrB Tryz.prog 94 [(.agg [.w4 x1.1, .w4 x1.2]),(.agg [.w4 x2.1, .w4 x2.2])] [] (fun (ch:Unit)=>((.i r):D)) (fun (ch:Unit)=>[]) mi w0
def fd2_.f (k:Nat)(x1:(List Int)×(List Int))(x2:(List Int)×(List Int)):Option Int:=(fj0_.f k x1.1 x2.1).bind fun t1=>(some t1)
theorem fd2_.ok (k:Nat):fd2_.Ctr (fd2_.f k):=by
 intro x1 x2 r h0 mi w0 ok hm
 delta fd2_.f at h0
 refine c_enterZ (n:=10) ok hm func94 rfl rfl rfl fun b0 hb a S=>c_region (s_box S rfl rfl rfl fun g1 a w S=>s_box S rfl rfl rfl fun g2 a w S=>s_as1 S rfl fun a S=>c_end (c_region (s_fieldAddr S rfl I83_0 T43 (by decide) rfl rfl fun a S=>s_loada S rfl .h1 T43 (s':=[.w4 x1.1]) rfl rfl fun a S=>s_fieldAddr S rfl I83_0 T43 (by decide) rfl rfl fun a S=>s_loada S rfl .h T43 (s':=[.w4 x2.1]) rfl rfl fun a S=>bindX h0 fun t1 et1 h1=>s_callK S (fj0_.ok k et1) N91 rfl .pre (fun _=> .n) rfl fun ch1 m le1 a w S=>s_as1 S rfl fun a S=>c_end (wp_ret ?_))))
 obtain rfl:=Option.some.inj h1
 exact b_ret1 (d:=(.i t1)) S rfl rfl (S.rt hb)
structure SortG where
  α:Type
  inh:Inhabited α
  T:Ty α
  e:TypeId
  s:TypeId
  c:TypeId
  φ:FuncId→FuncId
  fc:FuncId
  cmp:Nat→α→α→Option Int
instance (g:SortG):Inhabited g.α:=g.inh
def SortG.σ (g:SortG):Rn:=⟨fun t=>bif Nat.beq t 83 then g.e else bif Nat.beq t 69 then g.s else bif Nat.beq t 145 then g.c else t,fun f=>bif Nat.beq f 113||Nat.beq f 126||Nat.beq f 114||Nat.beq f 115||Nat.beq f 130||Nat.beq f 128||Nat.beq f 127||Nat.beq f 116||Nat.beq f 117||Nat.beq f 118||Nat.beq f 119||Nat.beq f 120||Nat.beq f 101||Nat.beq f 93 then g.φ f else f⟩
structure SortG.Ok (g:SortG):Prop where
  hT:tyI Tryz.prog g.e=some (true,g.T.size)
  hU:Tryz.prog.underlying g.s=some (.slice g.e)
  hcmp:∀ {k:Nat} {x y:g.α} {cx cy:g.T.Ch} {r:Int},g.cmp k x y=some r→∀ {mi:Mem} {w0:World},CtrB (Ch:=Unit) Tryz.prog g.fc [.agg (g.T.segs x cx), .agg (g.T.segs y cy)] [] (fun _=>(.v (.int .i64 r):D)) (fun _=>[]) mi w0
  nc:Fn_ Tryz.prog g.fc
  n113:FnIs Tryz.prog (g.φ 113) (g.σ.code (bdy Tryz.f113)) Tryz.f113
  n126:FnIs Tryz.prog (g.φ 126) (g.σ.code (bdy Tryz.f126)) Tryz.f126
  n114:FnIs Tryz.prog (g.φ 114) (g.σ.code (bdy Tryz.f114)) Tryz.f114
  n115:FnIs Tryz.prog (g.φ 115) (g.σ.code (bdy Tryz.f115)) Tryz.f115
  n130:FnIs Tryz.prog (g.φ 130) (g.σ.code (bdy Tryz.f130)) Tryz.f130
  n128:FnIs Tryz.prog (g.φ 128) (g.σ.code (bdy Tryz.f128)) Tryz.f128
  n127:FnIs Tryz.prog (g.φ 127) (g.σ.code (bdy Tryz.f127)) Tryz.f127
  n116:FnIs Tryz.prog (g.φ 116) (g.σ.code (bdy Tryz.f116)) Tryz.f116
  n117:FnIs Tryz.prog (g.φ 117) (g.σ.code (bdy Tryz.f117)) Tryz.f117
  n118:FnIs Tryz.prog (g.φ 118) (g.σ.code (bdy Tryz.f118)) Tryz.f118
  n119:FnIs Tryz.prog (g.φ 119) (g.σ.code (bdy Tryz.f119)) Tryz.f119
  n120:FnIs Tryz.prog (g.φ 120) (g.σ.code (bdy Tryz.f120)) Tryz.f120
  n101:FnIs Tryz.prog (g.φ 101) (g.σ.code (bdy Tryz.f101)) Tryz.f101
  n93:FnIs Tryz.prog (g.φ 93) (g.σ.code (bdy Tryz.f93)) Tryz.f93
abbrev fj5_.Ty:Type:=Int→Option Int
def fj5_.Ctr (s:fj5_.Ty):Prop:=∀ {x1:Int} {r:Int} (h0:s x1=some r) {mi:Mem} {w0:World},CtrB Tryz.prog 111 [(.w x1)] [] (fun (ch:Unit)=>((.i r):D)) (fun (ch:Unit)=>[]) mi w0
def fj5_.j3 (y5:Int)(y6:Int):Option Int:=if (0:Int)≤(wr .u8 y6)∧(wr .u8 y6)<(txt0.size:Int) then (some (wr .i64 (y5+(wr .i64 (bt txt0 (wr .u8 y6)))))) else none
def fj5_.j2 (y3:Int)(y4:Int):Option Int:=if (decide (256≤y4))=true then (fj5_.j3 (wr .i64 (y3+8)) (shr y4 8)) else (fj5_.j3 y3 y4)
def fj5_.j1 (y1:Int)(y2:Int):Option Int:=if (decide (65536≤y2))=true then (fj5_.j2 (wr .i64 (y1+16)) (shr y2 16)) else (fj5_.j2 y1 y2)
def fj5_.f (x1:Int):Option Int:=if (decide (4294967296≤x1))=true then (fj5_.j1 32 (shr x1 32)) else (fj5_.j1 0 x1)
theorem fj5_.ok:fj5_.Ctr (fj5_.f):=by
 intro x1 r h0 mi w0 ok hm
 delta fj5_.f at h0
 refine c_enterZ (n:=25) ok hm func111 rfl rfl rfl fun b0 hb a S=>c_region (s_as1 S rfl fun a S=>c_end (wp_seq_k fun K1 hK1=>?_))
 have j1:∀ m y1 y2 a w,St 25 m b0 [(2,(.i y1)),(0,(.w y2))] [] a w→fj5_.j1 y1 y2=some r→K1 a w:=by
  intro m y1 y2 a w S h0
  delta fj5_.j1 at h0
  refine hK1 a w (wp_seq_k fun K2 hK2=>?_)
  have j2:∀ m y3 y4 a w,St 25 m b0 [(2,(.i y3)),(0,(.w y4))] [] a w→fj5_.j2 y3 y4=some r→K2 a w:=by
   intro m y3 y4 a w S h0
   delta fj5_.j2 at h0
   refine hK2 a w (wp_seq_k fun K3 hK3=>?_)
   have j3:∀ m y5 y6 a w,St 25 m b0 [(2,(.i y5)),(0,(.w y6))] [] a w→fj5_.j3 y5 y6=some r→K3 a w:=by
    intro m y5 y6 a w S h0
    delta fj5_.j3 at h0
    refine hK3 a w (c_region (s_mv2 S rfl fun a S=>s_conv S rfl rfl underlying5 rfl fun a S=>?_))
    obtain ⟨c1,h1⟩:=chk_of h0; clear h0
    refine s_indexT S rfl rfl underlying9 c1.1 c1.2 rfl fun a S=>s_conv S rfl rfl underlying3 rfl fun a S=>s_bi S rfl fun a S=>s_as1 S rfl fun a S=>c_end (wp_ret ?_)
    obtain rfl:=Option.some.inj h1
    exact b_ret1 (d:=(.i (wr .i64 (y5+(wr .i64 (bt txt0 (wr .u8 y6))))))) S rfl rfl (S.rt hb)
   refine c_region (s_mv1 S rfl fun a S=>s_bi S rfl fun a S=>c_end ?_)
   rcases ite_of h0 with ⟨c2,h1⟩ | ⟨c2,h1⟩
   ·refine c_condT S rfl c2 (c_region (s_mv1 S rfl fun a S=>s_shr S (e:=8) rfl rfl (by decide) rfl rfl fun a S=>s_as1 S rfl fun a S=>c_end (c_region' (s_mv1 S rfl fun a S=>s_bi S rfl fun a S=>s_as1 S rfl fun a S=>c_end' (x_thenN ?_)))))
    exact j3 _ (wr .i64 (y3+8)) (shr y4 8) a w (S.sb rfl .nil) h1
   ·refine c_condF S rfl c2 (wp_skip (x_thenN ?_))
    exact j3 _ y3 y4 a w (S.sb rfl .nil) h1
  refine c_region (s_mv1 S rfl fun a S=>s_bi S rfl fun a S=>c_end ?_)
  rcases ite_of h0 with ⟨c3,h1⟩ | ⟨c3,h1⟩
  ·refine c_condT S rfl c3 (c_region (s_mv1 S rfl fun a S=>s_shr S (e:=16) rfl rfl (by decide) rfl rfl fun a S=>s_as1 S rfl fun a S=>c_end (c_region' (s_mv1 S rfl fun a S=>s_bi S rfl fun a S=>s_as1 S rfl fun a S=>c_end' (x_thenN ?_)))))
   exact j2 _ (wr .i64 (y1+16)) (shr y2 16) a w (S.sb rfl .nil) h1
  ·refine c_condF S rfl c3 (wp_skip (x_thenN ?_))
   exact j2 _ y1 y2 a w (S.sb rfl .nil) h1
 refine c_region (s_mv1 S rfl fun a S=>s_bi S rfl fun a S=>c_end ?_)
 rcases ite_of h0 with ⟨c4,h1⟩ | ⟨c4,h1⟩
 ·refine c_condT S rfl c4 (c_region (s_mv1 S rfl fun a S=>s_shr S (e:=32) rfl rfl (by decide) rfl rfl fun a S=>s_as1 S rfl fun a S=>c_end (c_region' (s_as1 S rfl fun a S=>c_end' (x_thenN ?_)))))
  exact j1 _ 32 (shr x1 32) a w0 (S.sb rfl .nil) h1
 ·refine c_condF S rfl c4 (wp_skip (x_thenN ?_))
  exact j1 _ 0 x1 a w0 (S.sb rfl .nil) h1
abbrev fk_.Ty:Type:=Int→Option Int
def fk_.Ctr (s:fk_.Ty):Prop:=∀ {x1:Int} {r:Int} (h0:s x1=some r) {mi:Mem} {w0:World},CtrB Tryz.prog 98 [(.w x1)] [] (fun (ch:Unit)=>((.i r):D)) (fun (ch:Unit)=>[]) mi w0
def fk_.f (x1:Int):Option Int:=(fj5_.f x1).bind fun t1=>(some t1)
theorem fk_.ok:fk_.Ctr (fk_.f):=by
 intro x1 r h0 mi w0 ok hm
 delta fk_.f at h0
 refine c_enterZ (n:=8) ok hm func98 rfl rfl rfl fun b0 hb a S=>c_region (s_as1 S rfl fun a S=>c_end (wp_seq (c_condF S rfl rfl (wp_skip (x_thenN (c_region (s_mv1 S rfl fun a S=>bindX h0 fun t1 et1 h1=>s_callK S (fj5_.ok et1) N111 rfl .pre (fun _=> .n) rfl fun ch1 m le1 a w S=>s_as1 S rfl fun a S=>c_end (wp_ret ?_))))))))
 obtain rfl:=Option.some.inj h1
 exact b_ret1 (d:=(.i t1)) S rfl rfl (S.rt hb)
abbrev fb_.Ty (g:SortG):Type:=(List g.α)→Int→Int→Option (List g.α)
def fb_.Ctr (g:SortG)(s:fb_.Ty g):Prop:=∀ {x1:List g.α} {x2:Int} {x3:Int} {ch_0_0:Option Addr} {ch_0_1:Nat} {ch_0_2:Nat} {r:List g.α} (h0:s x1 x2 x3=some r) {mi:Mem} {w0:World},CtrB Tryz.prog (g.φ 113) [(.s ch_0_0 ch_0_1 ch_0_2),(.i x2),(.i x3),(.v (.func (.func g.fc) #[] #[]))] [Res.row g.T g.e ch_0_0 ch_0_1 ch_0_2 x1] (fun (ch:Unit)=>((.tup []):D)) (fun (ch:Unit)=>[Res.row g.T g.e ch_0_0 ch_0_1 ch_0_2 r]) mi w0
def fb_.j1 (g:SortG)(y2:Int)(rec1:(List g.α)→Int→Option (List g.α))(y10:List g.α):Option (List g.α):=rec1 y10 (wr .i64 (y2+1))
def fb_.j2 (g:SortG)(y2:Int)(rec1:(List g.α)→Int→Option (List g.α))(y15:List g.α)(y16:Int)(rec2:(List g.α)→Int→Option (List g.α))(y17:Bool):Option (List g.α):=if y17=true then (if (0:Int)≤(wr .i64 (y16 - 1))∧(wr .i64 (y16 - 1))<((y15).length:Int) then (if (0:Int)≤y16∧y16<((y15).length:Int) then (if (0:Int)≤(wr .i64 (y16 - 1))∧(wr .i64 (y16 - 1))<((y15.set (Int.toNat y16) (gt y15 (wr .i64 (y16 - 1)))).length:Int) then (rec2 ((y15.set (Int.toNat y16) (gt y15 (wr .i64 (y16 - 1)))).set (Int.toNat (wr .i64 (y16 - 1))) (gt y15 y16)) (wr .i64 (y16 - 1))) else none) else none) else none) else (fb_.j1 g y2 rec1 y15)
def fb_.b2 (g:SortG)(k:Nat)(x2:Int)(y2:Int)(rec1:(List g.α)→Int→Option (List g.α))(rec2:(List g.α)→Int→Option (List g.α))(y15:List g.α)(y16:Int):Option (List g.α):=if (decide (x2<y16))=true then (if (0:Int)≤y16∧y16<((y15).length:Int) then (if (0:Int)≤(wr .i64 (y16 - 1))∧(wr .i64 (y16 - 1))<((y15).length:Int) then ((g.cmp k (gt y15 y16) (gt y15 (wr .i64 (y16 - 1)))).bind fun t1=>(fb_.j2 g y2 rec1 y15 y16 rec2 (decide (t1<0)))) else none) else none) else (fb_.j2 g y2 rec1 y15 y16 rec2 false)
def fb_.l2 (g:SortG)(k:Nat)(x2:Int)(y2:Int)(rec1:(List g.α)→Int→Option (List g.α)):Nat→(List g.α)→Int→Option (List g.α)
  | 0,_,_=>none
  | q+1,y15,y16=>fb_.b2 g k x2 y2 rec1 (fb_.l2 g k x2 y2 rec1 q) y15 y16
def fb_.b1 (g:SortG)(k:Nat)(x2:Int)(x3:Int)(rec1:(List g.α)→Int→Option (List g.α))(y1:List g.α)(y2:Int):Option (List g.α):=if (decide (y2<x3))=true then (fb_.l2 g k x2 y2 rec1 k y1 y2) else (some y1)
def fb_.l1 (g:SortG)(k:Nat)(x2:Int)(x3:Int):Nat→(List g.α)→Int→Option (List g.α)
  | 0,_,_=>none
  | q+1,y1,y2=>fb_.b1 g k x2 x3 (fb_.l1 g k x2 x3 q) y1 y2
def fb_.f (g:SortG)(k:Nat)(x1:List g.α)(x2:Int)(x3:Int):Option (List g.α):=fb_.l1 g k x2 x3 k x1 (wr .i64 (x2+1))
theorem fb_.ok (g:SortG)(h:SortG.Ok g)(k:Nat):fb_.Ctr g (fb_.f g k):=by
 intro x1 x2 x3 ch_0_0 ch_0_1 ch_0_2 r h0 mi w0 ok hm
 delta fb_.f at h0
 refine c_enterG (n:=53) [(.s ch_0_0 ch_0_1 ch_0_2),(.i x2),(.i x3),(.v (.func (.func g.fc) #[] #[]))] (l:=[(0,(.s ch_0_0 ch_0_1 ch_0_2)),(1,(.i x2)),(2,(.i x3)),(3,(.v (.func (.func g.fc) #[] #[])))]) h.n113 rfl rfl rfl ok hm ?_
 clear ok hm
 intro b0 hb a S
 refine c_region (s_mv1 S rfl fun a S=>s_bi S rfl fun a S=>s_as1 S rfl fun a S=>c_end (wp_block ?_))
 refine c_loop (fun q1 a w=>∃ m y1 y2,St 53 m b0 [(8,(.i y2)),(0,(.s ch_0_0 ch_0_1 ch_0_2)),(1,(.i x2)),(2,(.i x3)),(3,(.v (.func (.func g.fc) #[] #[])))] [Res.row g.T g.e ch_0_0 ch_0_1 ch_0_2 y1] a w∧fb_.l1 g k x2 x3 q1 y1 y2=some r) ?_ ?_ (k:=k) ⟨_,x1,(wr .i64 (x2+1)),(S.sb rfl (.c0 .n)),h0⟩
 ·rintro a w ⟨m,y1,y2,S,h0⟩
  exact (nomatch (show (none:Option (List g.α))=some r from h0))
 ·clear S h0
  rintro q1 a w ⟨m,y1,y2,S,h0⟩
  replace h0:fb_.b1 g k x2 x3 (fb_.l1 g k x2 x3 q1) y1 y2=some r:=h0
  delta fb_.b1 at h0
  refine wp_seq (c_region (s_mv2 S rfl fun a S=>s_bi S rfl fun a S=>c_end ?_))
  rcases ite_of h0 with ⟨c1,h1⟩ | ⟨c1,h1⟩
  ·refine c_condT S rfl c1 (wp_skip (x_thenN (wp_seq_k fun K1 hK1=>?_)))
   have j1:∀ m y10 a w,St 53 m b0 [(8,(.i y2)),(0,(.s ch_0_0 ch_0_1 ch_0_2)),(1,(.i x2)),(2,(.i x3)),(3,(.v (.func (.func g.fc) #[] #[])))] [Res.row g.T g.e ch_0_0 ch_0_1 ch_0_2 y10] a w→fb_.j1 g y2 (fb_.l1 g k x2 x3 q1) y10=some r→K1 a w:=by
    intro m y10 a w S h0
    delta fb_.j1 at h0
    refine hK1 a w (c_region' (s_mv1 S rfl fun a S=>s_bi S rfl fun a S=>s_as1 S rfl fun a S=>c_end' (x_thenN ?_)))
    exact ⟨_,y10,(wr .i64 (y2+1)),(S.sb rfl (.c0 .n)),h0⟩
   refine wp_block (c_region (s_mv1 S rfl fun a S=>s_as1 S rfl fun a S=>c_end (wp_block ?_)))
   refine c_loop (fun q2 a w=>∃ m y15 y16,St 53 m b0 [(9,(.i y16)),(8,(.i y2)),(0,(.s ch_0_0 ch_0_1 ch_0_2)),(1,(.i x2)),(2,(.i x3)),(3,(.v (.func (.func g.fc) #[] #[])))] [Res.row g.T g.e ch_0_0 ch_0_1 ch_0_2 y15] a w∧fb_.l2 g k x2 y2 (fb_.l1 g k x2 x3 q1) q2 y15 y16=some r) ?_ ?_ (k:=k) ⟨_,y1,y2,(S.sb rfl (.c0 .n)),h1⟩
   ·rintro a w ⟨m,y15,y16,S,h0⟩
    exact (nomatch (show (none:Option (List g.α))=some r from h0))
   ·clear S h1
    rintro q2 a w ⟨m,y15,y16,S,h0⟩
    replace h0:fb_.b2 g k x2 y2 (fb_.l1 g k x2 x3 q1) (fb_.l2 g k x2 y2 (fb_.l1 g k x2 x3 q1) q2) y15 y16=some r:=h0
    delta fb_.b2 at h0
    refine wp_seq (wp_seq_k fun K2 hK2=>?_)
    have j2:∀ m y17 a w,St 53 m b0 [(34,(.b y17)),(9,(.i y16)),(8,(.i y2)),(0,(.s ch_0_0 ch_0_1 ch_0_2)),(1,(.i x2)),(2,(.i x3)),(3,(.v (.func (.func g.fc) #[] #[])))] [Res.row g.T g.e ch_0_0 ch_0_1 ch_0_2 y15] a w→fb_.j2 g y2 (fb_.l1 g k x2 x3 q1) y15 y16 (fb_.l2 g k x2 y2 (fb_.l1 g k x2 x3 q1) q2) y17=some r→K2 a w:=by
     intro m y17 a w S h0
     delta fb_.j2 at h0
     refine hK2 a w ?_
     rcases ite_of h0 with ⟨c2,h1⟩ | ⟨c2,h1⟩
     ·refine c_condT S rfl c2 (wp_skip (x_thenN (wp_seq (wp_block ?_))))
      have hS:=S.rowx (fun _=> .h)
      clear S; obtain ⟨cs1,S⟩:=hS
      refine c_hS S (.take 0 (.take 1 (.tk 5 10 (.pure 2 (.pure 3 (.pure 4 (.alts (.run 15 false (.alts (.run 16 false (.alts (.run 17 false .done .nil)) .nil)) .nil)))))))) 15 (.c0 .n) ⟨Res.stay_rowx,trivial⟩ [(9,(.i y16)),(0,(.s ch_0_0 ch_0_1 ch_0_2))] rfl (by kernel_rfl) fun w S CL hw le=>?_
      refine h_mv4 S CL hw le rfl trivial trivial trivial trivial fun a S CL=>h_bin S CL hw le (subR rfl) rfl rfl rfl rfl rfl trivial fun a S CL=>?_
      obtain ⟨c3,h2⟩:=chk_of h1; clear h1
      refine h_iaddrX S CL hw le (subR rfl) (ty':=g.T) rfl .h rfl h.hU h.hT c3.1 c3.2 rfl rfl trivial fun g1 a hA1 S CL=>h_ldXW S CL hw le (subR rfl) (i:=(wr .i64 (y16 - 1))) rfl hA1 .h h.hT c3.1 c3.2 rfl rfl rfl trivial fun ch1 a S CL=>h_mv2 S CL hw le rfl trivial trivial fun a S CL=>?_
      obtain ⟨c4,h3⟩:=chk_of h2; clear h2
      refine h_iaddrX S CL hw le (subR rfl) (ty':=g.T) rfl .h rfl h.hU h.hT c4.1 c4.2 rfl rfl trivial fun g2 a hA2 S CL=>h_ldXW S CL hw le (subR rfl) (i:=y16) rfl hA2 .h h.hT c4.1 c4.2 rfl rfl rfl trivial fun ch2 a S CL=>h_iaddrX S CL hw le (subR rfl) (ty':=g.T) rfl .h rfl h.hU h.hT c4.1 c4.2 rfl rfl trivial fun g3 a hA3 S CL=>p_move S rfl rfl rfl trivial fun a S=>p_move S rfl rfl rfl trivial fun a S=>p_bin S rfl rfl rfl rfl rfl trivial fun a S=>h_run' S rfl trivial ?_
      replace S:=S.rowu .h
      refine s_stRW S (i:=y16) (u:=gt y15 (wr .i64 (y16 - 1))) (cu:=ch1) rfl rfl hA3 .h h.hT c4.1 c4.2 rfl fun w S=>?_
      refine h_back ⟨fun h=>(nomatch h),?_⟩
      refine h_run' S rfl trivial ?_
      obtain ⟨c5,h4⟩:=chk_of h3; clear h3
      refine s_iaddrO S (ty':=g.T) rfl .h rfl h.hU h.hT c5.1 c5.2 rfl fun g4 a hA4 S=>?_
      refine h_back ⟨fun h=>(nomatch h),?_⟩
      refine h_run' S rfl trivial (s_stRW S (i:=(wr .i64 (y16 - 1))) (u:=gt y15 y16) (cu:=ch2) rfl rfl hA4 .h h.hT c5.1 c5.2 rfl fun w S=>?_)
      refine h_back ⟨fun h=>(nomatch h),?_⟩
      refine h_done ?_; clear CL hw le
      refine x_blockN (x_thenN (c_region' (s_mv1 S rfl fun a S=>s_bi S rfl fun a S=>s_as1 S rfl fun a S=>c_end' (x_thenN ?_))))
      exact ⟨_,((y15.set (Int.toNat y16) (gt y15 (wr .i64 (y16 - 1)))).set (Int.toNat (wr .i64 (y16 - 1))) (gt y15 y16)),(wr .i64 (y16 - 1)),(S.sb rfl (.c0 .n)),h4⟩
     ·refine c_condF S rfl c2 (wp_exit (x_thenX (x_thenX (x_blockX (x_blockN (x_thenN ?_))))))
      exact j1 _ y15 a w (S.sb rfl (.c0 .n)) h1
    have hS:=S.rowx (fun _=> .h)
    clear S; obtain ⟨cs2,S⟩:=hS
    refine c_hS S (.tk 0 14 (.alts (.run 14 true (.take 15 (.take 16 .done)) .nil))) 17 (.c0 .n) ⟨Res.stay_rowx,trivial⟩ [(9,(.i y16)),(0,(.s ch_0_0 ch_0_1 ch_0_2)),(1,(.i x2)),(3,(.v (.func (.func g.fc) #[] #[])))] rfl (by kernel_rfl) fun w S CL hw le=>?_
    refine h_mv2 S CL hw le rfl trivial trivial fun a S CL=>h_bin S CL hw le (subR rfl) rfl rfl rfl rfl rfl trivial fun a S CL=>h_mv1 S CL hw le rfl trivial fun a S CL=>?_
    rcases ite_of h0 with ⟨c6,h1⟩ | ⟨c6,h1⟩
    ·refine h_mv3 S CL hw le rfl ⟨_,_,rfl,rfl,c6⟩ ⟨_,_,rfl,rfl,c6⟩ ⟨_,_,rfl,rfl,c6⟩ fun a S CL=>?_
     obtain ⟨c7,h2⟩:=chk_of h1; clear h1
     refine h_iaddrX S CL hw le (subR rfl) (ty':=g.T) rfl .h rfl h.hU h.hT c7.1 c7.2 rfl rfl ⟨_,_,rfl,rfl,c6⟩ fun g5 a hA5 S CL=>h_ldXW S CL hw le (subR rfl) (i:=y16) rfl hA5 .h h.hT c7.1 c7.2 rfl rfl rfl ⟨_,_,rfl,rfl,c6⟩ fun ch3 a S CL=>h_mv2 S CL hw le rfl ⟨_,_,rfl,rfl,c6⟩ ⟨_,_,rfl,rfl,c6⟩ fun a S CL=>h_bin S CL hw le (subR rfl) rfl rfl rfl rfl rfl ⟨_,_,rfl,rfl,c6⟩ fun a S CL=>?_
     obtain ⟨c8,h3⟩:=chk_of h2; clear h2
     refine h_iaddrX S CL hw le (subR rfl) (ty':=g.T) rfl .h rfl h.hU h.hT c8.1 c8.2 rfl rfl ⟨_,_,rfl,rfl,c6⟩ fun g6 a hA6 S CL=>h_ldXW S CL hw le (subR rfl) (i:=(wr .i64 (y16 - 1))) rfl hA6 .h h.hT c8.1 c8.2 rfl rfl rfl ⟨_,_,rfl,rfl,c6⟩ fun ch4 a S CL=>h_run' S rfl ⟨_,_,rfl,rfl,c6⟩ (bindX h3 fun t1 et1 h4=>s_callK S (h.hcmp et1) h.nc rfl .pre (fun _=> .n) rfl fun ch5 m le1 a w S=>?_)
     replace le:=le.trans le1
     refine CL.bk hw S (.c0 .n) le fun hw=>?_
     replace CL:=CL.add (t:=32) (d:=(.i t1)) S rfl rfl
     refine h_bin S CL hw le (subR rfl) rfl rfl rfl rfl rfl ⟨_,_,rfl,rfl,c6⟩ fun a S CL=>h_pick S CL hw le (subR rfl) (b:=true) (hc_of rfl c6) rfl rfl rfl trivial fun a S CL=>?_
     refine h_done ?_; clear CL hw le
     replace S:=S.rowu .h
     refine x_thenN ?_
     exact j2 _ (decide (t1<0)) a w (S.sb rfl (.c0 .n)) h4
    ·refine h_sk8 S CL rfl (ne_bool c6) fun a S CL=>h_sk2 S CL rfl (ne_bool c6) fun a S CL=>h_skipRt S rfl rfl rfl (ne_bool c6) rfl fun a S=>CL.bk hw S (.c0 .n) le fun hw=>?_
     replace CL:=CL.add (t:=32) (d:= .u) S rfl rfl
     refine h_sk1 S CL rfl (ne_bool c6) fun a S CL=>h_pick S CL hw le (subR rfl) (b:=false) (hc_of rfl c6) rfl rfl rfl trivial fun a S CL=>?_
     refine h_done ?_; clear CL hw le
     replace S:=S.rowu .h
     refine x_thenN ?_
     exact j2 _ false a w (S.sb rfl (.c0 .n)) h1
  ·refine c_condF S rfl c1 (wp_exit (x_thenX (x_thenX (x_blockX (b_end ?_)))))
   obtain rfl:=Option.some.inj h1
   exact b_ret0 S rfl (S.retX (Hx:=[]) hb _ _ (():Unit) (.c0 .n) trivial)
abbrev ff_.Ty (g:SortG):Type:=(List g.α)→Int→Int→Int→Option (List g.α)
def ff_.Ctr (g:SortG)(s:ff_.Ty g):Prop:=∀ {x1:List g.α} {x2:Int} {x3:Int} {x4:Int} {ch_0_0:Option Addr} {ch_0_1:Nat} {ch_0_2:Nat} {r:List g.α} (h0:s x1 x2 x3 x4=some r) {mi:Mem} {w0:World},CtrB Tryz.prog (g.φ 126) [(.s ch_0_0 ch_0_1 ch_0_2),(.i x2),(.i x3),(.i x4),(.v (.func (.func g.fc) #[] #[]))] [Res.row g.T g.e ch_0_0 ch_0_1 ch_0_2 x1] (fun (ch:Unit)=>((.tup []):D)) (fun (ch:Unit)=>[Res.row g.T g.e ch_0_0 ch_0_1 ch_0_2 r]) mi w0
def ff_.j1 (g:SortG)(k:Nat)(x4:Int)(y1:List g.α)(y2:Int)(rec1:(List g.α)→Int→Option (List g.α))(y4:Int):Option (List g.α):=if (0:Int)≤(wr .i64 (x4+y2))∧(wr .i64 (x4+y2))<((y1).length:Int) then (if (0:Int)≤(wr .i64 (x4+y4))∧(wr .i64 (x4+y4))<((y1).length:Int) then ((g.cmp k (gt y1 (wr .i64 (x4+y2))) (gt y1 (wr .i64 (x4+y4)))).bind fun t1=>(if (!(decide (t1<0)))=true then (some y1) else (if (0:Int)≤(wr .i64 (x4+y4))∧(wr .i64 (x4+y4))<((y1.set (Int.toNat (wr .i64 (x4+y2))) (gt y1 (wr .i64 (x4+y4)))).length:Int) then (rec1 ((y1.set (Int.toNat (wr .i64 (x4+y2))) (gt y1 (wr .i64 (x4+y4)))).set (Int.toNat (wr .i64 (x4+y4))) (gt y1 (wr .i64 (x4+y2)))) y4) else none))) else none) else none
def ff_.j2 (g:SortG)(k:Nat)(x4:Int)(y1:List g.α)(y2:Int)(rec1:(List g.α)→Int→Option (List g.α))(y5:Bool):Option (List g.α):=if y5=true then (ff_.j1 g k x4 y1 y2 rec1 (wr .i64 ((wr .i64 ((wr .i64 (2*y2))+1))+1))) else (ff_.j1 g k x4 y1 y2 rec1 (wr .i64 ((wr .i64 (2*y2))+1)))
def ff_.b1 (g:SortG)(k:Nat)(x3:Int)(x4:Int)(rec1:(List g.α)→Int→Option (List g.α))(y1:List g.α)(y2:Int):Option (List g.α):=if (decide (x3≤(wr .i64 ((wr .i64 (2*y2))+1))))=true then (some y1) else (if (decide ((wr .i64 ((wr .i64 ((wr .i64 (2*y2))+1))+1))<x3))=true then (if (0:Int)≤(wr .i64 (x4+(wr .i64 ((wr .i64 (2*y2))+1))))∧(wr .i64 (x4+(wr .i64 ((wr .i64 (2*y2))+1))))<((y1).length:Int) then (if (0:Int)≤(wr .i64 ((wr .i64 (x4+(wr .i64 ((wr .i64 (2*y2))+1))))+1))∧(wr .i64 ((wr .i64 (x4+(wr .i64 ((wr .i64 (2*y2))+1))))+1))<((y1).length:Int) then ((g.cmp k (gt y1 (wr .i64 (x4+(wr .i64 ((wr .i64 (2*y2))+1))))) (gt y1 (wr .i64 ((wr .i64 (x4+(wr .i64 ((wr .i64 (2*y2))+1))))+1)))).bind fun t3=>(ff_.j2 g k x4 y1 y2 rec1 (decide (t3<0)))) else none) else none) else (ff_.j2 g k x4 y1 y2 rec1 false))
def ff_.l1 (g:SortG)(k:Nat)(x3:Int)(x4:Int):Nat→(List g.α)→Int→Option (List g.α)
  | 0,_,_=>none
  | q+1,y1,y2=>ff_.b1 g k x3 x4 (ff_.l1 g k x3 x4 q) y1 y2
def ff_.f (g:SortG)(k:Nat)(x1:List g.α)(x2:Int)(x3:Int)(x4:Int):Option (List g.α):=ff_.l1 g k x3 x4 k x1 x2
theorem ff_.ok (g:SortG)(h:SortG.Ok g)(k:Nat):ff_.Ctr g (ff_.f g k):=by
 intro x1 x2 x3 x4 ch_0_0 ch_0_1 ch_0_2 r h0 mi w0 ok hm
 delta ff_.f at h0
 refine c_enterG (n:=82) [(.s ch_0_0 ch_0_1 ch_0_2),(.i x2),(.i x3),(.i x4),(.v (.func (.func g.fc) #[] #[]))] (l:=[(0,(.s ch_0_0 ch_0_1 ch_0_2)),(1,(.i x2)),(2,(.i x3)),(3,(.i x4)),(4,(.v (.func (.func g.fc) #[] #[])))]) h.n126 rfl rfl rfl ok hm ?_
 clear ok hm
 intro b0 hb a S
 refine c_region (s_mv1 S rfl fun a S=>s_as1 S rfl fun a S=>c_end (wp_block ?_))
 refine c_loop (fun q1 a w=>∃ m y1 y2,St 82 m b0 [(10,(.i y2)),(0,(.s ch_0_0 ch_0_1 ch_0_2)),(2,(.i x3)),(3,(.i x4)),(4,(.v (.func (.func g.fc) #[] #[])))] [Res.row g.T g.e ch_0_0 ch_0_1 ch_0_2 y1] a w∧ff_.l1 g k x3 x4 q1 y1 y2=some r) ?_ ?_ (k:=k) ⟨_,x1,x2,(S.sb rfl (.c0 .n)),h0⟩
 ·rintro a w ⟨m,y1,y2,S,h0⟩
  exact (nomatch (show (none:Option (List g.α))=some r from h0))
 ·clear S h0
  rintro q1 a w ⟨m,y1,y2,S,h0⟩
  replace h0:ff_.b1 g k x3 x4 (ff_.l1 g k x3 x4 q1) y1 y2=some r:=h0
  delta ff_.b1 at h0
  refine wp_block (c_region (s_mv1 S rfl fun a S=>s_bi S rfl fun a S=>s_bi S rfl fun a S=>s_as1 S rfl fun a S=>c_end (wp_seq (c_region (s_mv2 S rfl fun a S=>s_bi S rfl fun a S=>c_end ?_)))))
  rcases ite_of h0 with ⟨c1,h1⟩ | ⟨c1,h1⟩
  ·refine c_condT S rfl c1 (wp_exit (x_thenX (x_blockO (by decide) (x_thenX (x_blockX (b_end ?_))))))
   obtain rfl:=Option.some.inj h1
   exact b_ret0 S rfl (S.retX (Hx:=[]) hb _ _ (():Unit) (.c0 .n) trivial)
  ·refine c_condF S rfl c1 (wp_skip (x_thenN (wp_seq_k fun K1 hK1=>?_)))
   have j1:∀ m y4 a w,St 82 m b0 [(11,(.i y4)),(10,(.i y2)),(0,(.s ch_0_0 ch_0_1 ch_0_2)),(2,(.i x3)),(3,(.i x4)),(4,(.v (.func (.func g.fc) #[] #[])))] [Res.row g.T g.e ch_0_0 ch_0_1 ch_0_2 y1] a w→ff_.j1 g k x4 y1 y2 (ff_.l1 g k x3 x4 q1) y4=some r→K1 a w:=by
    intro m y4 a w S h0
    delta ff_.j1 at h0
    refine hK1 a w (wp_seq ?_)
    have hS:=S.rowx (fun _=> .h)
    clear S; obtain ⟨cs1,S⟩:=hS
    refine wp_seq (c_hS S (.tk 0 13 (.alts (.run 13 true (.take 14 (.take 15 .done)) .nil))) 16 (.c0 .n) ⟨Res.stay_rowx,trivial⟩ [(11,(.i y4)),(10,(.i y2)),(0,(.s ch_0_0 ch_0_1 ch_0_2)),(3,(.i x4)),(4,(.v (.func (.func g.fc) #[] #[])))] rfl (by kernel_rfl) ?_); clear S; intro w S CL hw le
    refine h_mv4 S CL hw le rfl trivial trivial trivial trivial fun a S CL=>h_bin S CL hw le (subR rfl) rfl rfl rfl rfl rfl trivial fun a S CL=>?_
    obtain ⟨c2,h1⟩:=chk_of h0; clear h0
    refine h_iaddrX S CL hw le (subR rfl) (ty':=g.T) rfl .h rfl h.hU h.hT c2.1 c2.2 rfl rfl trivial fun g1 a hA1 S CL=>h_ldXW S CL hw le (subR rfl) (i:=(wr .i64 (x4+y2))) rfl hA1 .h h.hT c2.1 c2.2 rfl rfl rfl trivial fun ch1 a S CL=>h_mv3 S CL hw le rfl trivial trivial trivial fun a S CL=>h_bin S CL hw le (subR rfl) rfl rfl rfl rfl rfl trivial fun a S CL=>?_
    obtain ⟨c3,h2⟩:=chk_of h1; clear h1
    refine h_iaddrX S CL hw le (subR rfl) (ty':=g.T) rfl .h rfl h.hU h.hT c3.1 c3.2 rfl rfl trivial fun g2 a hA2 S CL=>h_ldXW S CL hw le (subR rfl) (i:=(wr .i64 (x4+y4))) rfl hA2 .h h.hT c3.1 c3.2 rfl rfl rfl trivial fun ch2 a S CL=>h_run' S rfl trivial (bindX h2 fun t1 et1 h3=>s_callK S (h.hcmp et1) h.nc rfl .pre (fun _=> .n) rfl fun ch3 m le1 a w S=>?_)
    replace le:=le.trans le1
    refine CL.bk hw S (.c0 .n) le fun hw=>?_
    replace CL:=CL.add (t:=56) (d:=(.i t1)) S rfl rfl
    refine h_bin S CL hw le (subR rfl) rfl rfl rfl rfl rfl trivial fun a S CL=>h_not S CL hw le (subR rfl) rfl rfl rfl trivial fun a S CL=>?_
    refine h_done ?_; clear CL hw le
    replace S:=S.rowu .h
    refine x_thenN ?_
    rcases ite_of h3 with ⟨c4,h4⟩ | ⟨c4,h4⟩
    ·refine c_condT S rfl c4 (wp_ret (x_thenR (x_blockR (x_thenR (x_blockR ?_)))))
     obtain rfl:=Option.some.inj h4
     exact b_ret0 S rfl (S.retX (Hx:=[]) hb _ _ (():Unit) (.c0 .n) trivial)
    ·refine c_condF S rfl c4 (wp_skip (x_thenN ?_))
     have hS:=S.rowx (fun _=> .h)
     clear S; obtain ⟨cs2,S⟩:=hS
     refine wp_seq (c_hS S (.tk 0 4 (.tk 8 13 (.pure 4 (.pure 5 (.pure 6 (.pure 7 (.alts (.run 21 false (.alts (.run 22 false (.alts (.run 23 false .done .nil)) .nil)) .nil)))))))) 21 (.c0 .n) ⟨Res.stay_rowx,trivial⟩ [(11,(.i y4)),(10,(.i y2)),(0,(.s ch_0_0 ch_0_1 ch_0_2)),(3,(.i x4))] rfl (by kernel_rfl) ?_); clear S; intro w S CL hw le
     refine h_mv3 S CL hw le rfl trivial trivial trivial fun a S CL=>h_bin S CL hw le (subR rfl) rfl rfl rfl rfl rfl trivial fun a S CL=>h_mv3 S CL hw le rfl trivial trivial trivial fun a S CL=>h_bin S CL hw le (subR rfl) rfl rfl rfl rfl rfl trivial fun a S CL=>h_iaddrX S CL hw le (subR rfl) (ty':=g.T) rfl .h rfl h.hU h.hT c3.1 c3.2 rfl rfl trivial fun g3 a hA3 S CL=>h_ldXW S CL hw le (subR rfl) (i:=(wr .i64 (x4+y4))) rfl hA3 .h h.hT c3.1 c3.2 rfl rfl rfl trivial fun ch4 a S CL=>h_mv3 S CL hw le rfl trivial trivial trivial fun a S CL=>h_bin S CL hw le (subR rfl) rfl rfl rfl rfl rfl trivial fun a S CL=>h_iaddrX S CL hw le (subR rfl) (ty':=g.T) rfl .h rfl h.hU h.hT c2.1 c2.2 rfl rfl trivial fun g4 a hA4 S CL=>h_ldXW S CL hw le (subR rfl) (i:=(wr .i64 (x4+y2))) rfl hA4 .h h.hT c2.1 c2.2 rfl rfl rfl trivial fun ch5 a S CL=>h_iaddrX S CL hw le (subR rfl) (ty':=g.T) rfl .h rfl h.hU h.hT c2.1 c2.2 rfl rfl trivial fun g5 a hA5 S CL=>p_move S rfl rfl rfl trivial fun a S=>p_move S rfl rfl rfl trivial fun a S=>p_move S rfl rfl rfl trivial fun a S=>p_bin S rfl rfl rfl rfl rfl trivial fun a S=>h_run' S rfl trivial ?_
     replace S:=S.rowu .h
     refine s_stRW S (i:=(wr .i64 (x4+y2))) (u:=gt y1 (wr .i64 (x4+y4))) (cu:=ch4) rfl rfl hA5 .h h.hT c2.1 c2.2 rfl fun w S=>?_
     refine h_back ⟨fun h=>(nomatch h),?_⟩
     refine h_run' S rfl trivial ?_
     obtain ⟨c5,h5⟩:=chk_of h4; clear h4
     refine s_iaddrO S (ty':=g.T) rfl .h rfl h.hU h.hT c5.1 c5.2 rfl fun g6 a hA6 S=>?_
     refine h_back ⟨fun h=>(nomatch h),?_⟩
     refine h_run' S rfl trivial (s_stRW S (i:=(wr .i64 (x4+y4))) (u:=gt y1 (wr .i64 (x4+y2))) (cu:=ch5) rfl rfl hA6 .h h.hT c5.1 c5.2 rfl fun w S=>?_)
     refine h_back ⟨fun h=>(nomatch h),?_⟩
     refine h_done ?_; clear CL hw le
     refine x_thenN (c_region' (s_mv1 S rfl fun a S=>s_as1 S rfl fun a S=>c_end' (x_blockN (x_thenN ?_))))
     exact ⟨_,((y1.set (Int.toNat (wr .i64 (x4+y2))) (gt y1 (wr .i64 (x4+y4)))).set (Int.toNat (wr .i64 (x4+y4))) (gt y1 (wr .i64 (x4+y2)))),y4,(S.sb rfl (.c0 .n)),h5⟩
   refine wp_seq_k fun K2 hK2=>?_
   have j2:∀ m y5 a w,St 82 m b0 [(40,(.b y5)),(11,(.i (wr .i64 ((wr .i64 (2*y2))+1)))),(10,(.i y2)),(0,(.s ch_0_0 ch_0_1 ch_0_2)),(2,(.i x3)),(3,(.i x4)),(4,(.v (.func (.func g.fc) #[] #[])))] [Res.row g.T g.e ch_0_0 ch_0_1 ch_0_2 y1] a w→ff_.j2 g k x4 y1 y2 (ff_.l1 g k x3 x4 q1) y5=some r→K2 a w:=by
    intro m y5 a w S h0
    delta ff_.j2 at h0
    refine hK2 a w ?_
    rcases ite_of h0 with ⟨c6,h1⟩ | ⟨c6,h1⟩
    ·refine c_condT S rfl c6 (c_region' (s_mv1 S rfl fun a S=>s_bi S rfl fun a S=>s_as1 S rfl fun a S=>c_end' (x_thenN ?_)))
     exact j1 _ (wr .i64 ((wr .i64 ((wr .i64 (2*y2))+1))+1)) a w (S.sb rfl (.c0 .n)) h1
    ·refine c_condF S rfl c6 (wp_skip (x_thenN ?_))
     exact j1 _ (wr .i64 ((wr .i64 (2*y2))+1)) a w (S.sb rfl (.c0 .n)) h1
   have hS:=S.rowx (fun _=> .h)
   clear S; obtain ⟨cs3,S⟩:=hS
   refine c_hS S (.tk 0 19 (.alts (.run 19 true (.take 20 (.take 21 .done)) .nil))) 22 (.c0 .n) ⟨Res.stay_rowx,trivial⟩ [(11,(.i (wr .i64 ((wr .i64 (2*y2))+1)))),(0,(.s ch_0_0 ch_0_1 ch_0_2)),(2,(.i x3)),(3,(.i x4)),(4,(.v (.func (.func g.fc) #[] #[])))] rfl (by kernel_rfl) fun w S CL hw le=>?_
   refine h_mv1 S CL hw le rfl trivial fun a S CL=>h_bin S CL hw le (subR rfl) rfl rfl rfl rfl rfl trivial fun a S CL=>h_mv1 S CL hw le rfl trivial fun a S CL=>h_bin S CL hw le (subR rfl) rfl rfl rfl rfl rfl trivial fun a S CL=>h_mv1 S CL hw le rfl trivial fun a S CL=>?_
   rcases ite_of h1 with ⟨c7,h2⟩ | ⟨c7,h2⟩
   ·refine h_mv4 S CL hw le rfl ⟨_,_,rfl,rfl,c7⟩ ⟨_,_,rfl,rfl,c7⟩ ⟨_,_,rfl,rfl,c7⟩ ⟨_,_,rfl,rfl,c7⟩ fun a S CL=>h_bin S CL hw le (subR rfl) rfl rfl rfl rfl rfl ⟨_,_,rfl,rfl,c7⟩ fun a S CL=>?_
    obtain ⟨c8,h3⟩:=chk_of h2; clear h2
    refine h_iaddrX S CL hw le (subR rfl) (ty':=g.T) rfl .h rfl h.hU h.hT c8.1 c8.2 rfl rfl ⟨_,_,rfl,rfl,c7⟩ fun g9 a hA7 S CL=>h_ldXW S CL hw le (subR rfl) (i:=(wr .i64 (x4+(wr .i64 ((wr .i64 (2*y2))+1))))) rfl hA7 .h h.hT c8.1 c8.2 rfl rfl rfl ⟨_,_,rfl,rfl,c7⟩ fun ch8 a S CL=>h_mv3 S CL hw le rfl ⟨_,_,rfl,rfl,c7⟩ ⟨_,_,rfl,rfl,c7⟩ ⟨_,_,rfl,rfl,c7⟩ fun a S CL=>h_bin S CL hw le (subR rfl) rfl rfl rfl rfl rfl ⟨_,_,rfl,rfl,c7⟩ fun a S CL=>h_bin S CL hw le (subR rfl) rfl rfl rfl rfl rfl ⟨_,_,rfl,rfl,c7⟩ fun a S CL=>?_
    obtain ⟨c9,h4⟩:=chk_of h3; clear h3
    refine h_iaddrX S CL hw le (subR rfl) (ty':=g.T) rfl .h rfl h.hU h.hT c9.1 c9.2 rfl rfl ⟨_,_,rfl,rfl,c7⟩ fun g10 a hA8 S CL=>h_ldXW S CL hw le (subR rfl) (i:=(wr .i64 ((wr .i64 (x4+(wr .i64 ((wr .i64 (2*y2))+1))))+1))) rfl hA8 .h h.hT c9.1 c9.2 rfl rfl rfl ⟨_,_,rfl,rfl,c7⟩ fun ch9 a S CL=>h_run' S rfl ⟨_,_,rfl,rfl,c7⟩ (bindX h4 fun t3 et3 h5=>s_callK S (h.hcmp et3) h.nc rfl .pre (fun _=> .n) rfl fun ch10 m le1 a w S=>?_)
    replace le:=le.trans le1
    refine CL.bk hw S (.c0 .n) le fun hw=>?_
    replace CL:=CL.add (t:=38) (d:=(.i t3)) S rfl rfl
    refine h_bin S CL hw le (subR rfl) rfl rfl rfl rfl rfl ⟨_,_,rfl,rfl,c7⟩ fun a S CL=>h_pick S CL hw le (subR rfl) (b:=true) (hc_of rfl c7) rfl rfl rfl trivial fun a S CL=>?_
    refine h_done ?_; clear CL hw le
    replace S:=S.rowu .h
    refine x_thenN ?_
    exact j2 _ (decide (t3<0)) a w (S.sb rfl (.c0 .n)) h5
   ·refine h_sk8 S CL rfl (ne_bool c7) fun a S CL=>h_sk4 S CL rfl (ne_bool c7) fun a S CL=>h_sk2 S CL rfl (ne_bool c7) fun a S CL=>h_skipRt S rfl rfl rfl (ne_bool c7) rfl fun a S=>CL.bk hw S (.c0 .n) le fun hw=>?_
    replace CL:=CL.add (t:=38) (d:= .u) S rfl rfl
    refine h_sk1 S CL rfl (ne_bool c7) fun a S CL=>h_pick S CL hw le (subR rfl) (b:=false) (hc_of rfl c7) rfl rfl rfl trivial fun a S CL=>?_
    refine h_done ?_; clear CL hw le
    replace S:=S.rowu .h
    refine x_thenN ?_
    exact j2 _ false a w (S.sb rfl (.c0 .n)) h2
abbrev fe3_.Ty (g:SortG):Type:=(List g.α)→Int→Int→Option (List g.α)
def fe3_.Ctr (g:SortG)(s:fe3_.Ty g):Prop:=∀ {x1:List g.α} {x2:Int} {x3:Int} {ch_0_0:Option Addr} {ch_0_1:Nat} {ch_0_2:Nat} {r:List g.α} (h0:s x1 x2 x3=some r) {mi:Mem} {w0:World},CtrB Tryz.prog (g.φ 114) [(.s ch_0_0 ch_0_1 ch_0_2),(.i x2),(.i x3),(.v (.func (.func g.fc) #[] #[]))] [Res.row g.T g.e ch_0_0 ch_0_1 ch_0_2 x1] (fun (ch:Unit)=>((.tup []):D)) (fun (ch:Unit)=>[Res.row g.T g.e ch_0_0 ch_0_1 ch_0_2 r]) mi w0
def fe3_.b1 (g:SortG)(k:Nat)(x2:Int)(rec1:(List g.α)→Int→Option (List g.α))(y4:List g.α)(y5:Int):Option (List g.α):=if (decide (0≤y5))=true then (if (0:Int)≤(wr .i64 (x2+y5))∧(wr .i64 (x2+y5))<((y4).length:Int) then (if (0:Int)≤x2∧x2<((y4).length:Int) then (if (0:Int)≤(wr .i64 (x2+y5))∧(wr .i64 (x2+y5))<((y4.set (Int.toNat x2) (gt y4 (wr .i64 (x2+y5)))).length:Int) then ((ff_.f g k ((y4.set (Int.toNat x2) (gt y4 (wr .i64 (x2+y5)))).set (Int.toNat (wr .i64 (x2+y5))) (gt y4 x2)) 0 y5 x2).bind fun t1=>(rec1 t1 (wr .i64 (y5 - 1)))) else none) else none) else none) else (some y4)
def fe3_.l1 (g:SortG)(k:Nat)(x2:Int):Nat→(List g.α)→Int→Option (List g.α)
  | 0,_,_=>none
  | q+1,y4,y5=>fe3_.b1 g k x2 (fe3_.l1 g k x2 q) y4 y5
def fe3_.j1 (g:SortG)(k:Nat)(x2:Int)(x3:Int)(y1:List g.α):Option (List g.α):=fe3_.l1 g k x2 k y1 (wr .i64 ((wr .i64 (x3 - x2)) - 1))
def fe3_.b2 (g:SortG)(k:Nat)(x2:Int)(x3:Int)(rec2:(List g.α)→Int→Option (List g.α))(y8:List g.α)(y9:Int):Option (List g.α):=if (decide (0≤y9))=true then ((ff_.f g k y8 y9 (wr .i64 (x3 - x2)) x2).bind fun t4=>(rec2 t4 (wr .i64 (y9 - 1)))) else (fe3_.j1 g k x2 x3 y8)
def fe3_.l2 (g:SortG)(k:Nat)(x2:Int)(x3:Int):Nat→(List g.α)→Int→Option (List g.α)
  | 0,_,_=>none
  | q+1,y8,y9=>fe3_.b2 g k x2 x3 (fe3_.l2 g k x2 x3 q) y8 y9
def fe3_.f (g:SortG)(k:Nat)(x1:List g.α)(x2:Int)(x3:Int):Option (List g.α):=fe3_.l2 g k x2 x3 k x1 (wr .i64 (Int.tdiv (wr .i64 ((wr .i64 (x3 - x2)) - 1)) 2))
theorem fe3_.ok (g:SortG)(h:SortG.Ok g)(k:Nat):fe3_.Ctr g (fe3_.f g k):=by
 intro x1 x2 x3 ch_0_0 ch_0_1 ch_0_2 r h0 mi w0 ok hm
 delta fe3_.f at h0
 refine c_enterG (n:=60) [(.s ch_0_0 ch_0_1 ch_0_2),(.i x2),(.i x3),(.v (.func (.func g.fc) #[] #[]))] (l:=[(0,(.s ch_0_0 ch_0_1 ch_0_2)),(1,(.i x2)),(2,(.i x3)),(3,(.v (.func (.func g.fc) #[] #[])))]) h.n114 rfl rfl rfl ok hm ?_
 clear ok hm
 intro b0 hb a S
 refine c_region (s_mv1 S rfl fun a S=>s_as1 S rfl fun a S=>c_end (c_region (s_as1 S rfl fun a S=>c_end (c_region (s_mv2 S rfl fun a S=>s_bi S rfl fun a S=>s_as1 S rfl fun a S=>c_end (wp_seq_k fun K1 hK1=>?_))))))
 have j1:∀ m y1 a w,St 60 m b0 [(10,(.i (wr .i64 (x3 - x2)))),(9,(.i 0)),(8,(.i x2)),(0,(.s ch_0_0 ch_0_1 ch_0_2)),(3,(.v (.func (.func g.fc) #[] #[])))] [Res.row g.T g.e ch_0_0 ch_0_1 ch_0_2 y1] a w→fe3_.j1 g k x2 x3 y1=some r→K1 a w:=by
  intro m y1 a w S h0
  delta fe3_.j1 at h0
  refine hK1 a w (c_region (s_mv1 S rfl fun a S=>s_bi S rfl fun a S=>s_as1 S rfl fun a S=>c_end (wp_block ?_)))
  refine c_loop (fun q1 a w=>∃ m y4 y5,St 60 m b0 [(12,(.i y5)),(9,(.i 0)),(8,(.i x2)),(0,(.s ch_0_0 ch_0_1 ch_0_2)),(3,(.v (.func (.func g.fc) #[] #[])))] [Res.row g.T g.e ch_0_0 ch_0_1 ch_0_2 y4] a w∧fe3_.l1 g k x2 q1 y4 y5=some r) ?_ ?_ (k:=k) ⟨_,y1,(wr .i64 ((wr .i64 (x3 - x2)) - 1)),(S.sb rfl (.c0 .n)),h0⟩
  ·rintro a w ⟨m,y4,y5,S,h0⟩
   exact (nomatch (show (none:Option (List g.α))=some r from h0))
  ·clear S h0
   rintro q1 a w ⟨m,y4,y5,S,h0⟩
   replace h0:fe3_.b1 g k x2 (fe3_.l1 g k x2 q1) y4 y5=some r:=h0
   delta fe3_.b1 at h0
   refine wp_seq (c_region (s_mv1 S rfl fun a S=>s_bi S rfl fun a S=>c_end ?_))
   rcases ite_of h0 with ⟨c1,h1⟩ | ⟨c1,h1⟩
   ·refine c_condT S rfl c1 (wp_skip (x_thenN (wp_seq (wp_block ?_))))
    have hS:=S.rowx (fun _=> .h)
    clear S; obtain ⟨cs1,S⟩:=hS
    refine wp_seq (c_hS S (.take 0 (.take 1 (.tk 6 11 (.pure 2 (.pure 3 (.pure 4 (.pure 5 (.alts (.run 17 false (.alts (.run 18 false (.alts (.run 19 false .done .nil)) .nil)) .nil))))))))) 17 (.c0 .n) ⟨Res.stay_rowx,trivial⟩ [(12,(.i y5)),(8,(.i x2)),(0,(.s ch_0_0 ch_0_1 ch_0_2))] rfl (by kernel_rfl) ?_); clear S; intro w S CL hw le
    refine h_mv4 S CL hw le rfl trivial trivial trivial trivial fun a S CL=>h_mv1 S CL hw le rfl trivial fun a S CL=>h_bin S CL hw le (subR rfl) rfl rfl rfl rfl rfl trivial fun a S CL=>?_
    obtain ⟨c2,h2⟩:=chk_of h1; clear h1
    refine h_iaddrX S CL hw le (subR rfl) (ty':=g.T) rfl .h rfl h.hU h.hT c2.1 c2.2 rfl rfl trivial fun g1 a hA1 S CL=>h_ldXW S CL hw le (subR rfl) (i:=(wr .i64 (x2+y5))) rfl hA1 .h h.hT c2.1 c2.2 rfl rfl rfl trivial fun ch1 a S CL=>h_mv2 S CL hw le rfl trivial trivial fun a S CL=>?_
    obtain ⟨c3,h3⟩:=chk_of h2; clear h2
    refine h_iaddrX S CL hw le (subR rfl) (ty':=g.T) rfl .h rfl h.hU h.hT c3.1 c3.2 rfl rfl trivial fun g2 a hA2 S CL=>h_ldXW S CL hw le (subR rfl) (i:=x2) rfl hA2 .h h.hT c3.1 c3.2 rfl rfl rfl trivial fun ch2 a S CL=>h_iaddrX S CL hw le (subR rfl) (ty':=g.T) rfl .h rfl h.hU h.hT c3.1 c3.2 rfl rfl trivial fun g3 a hA3 S CL=>p_move S rfl rfl rfl trivial fun a S=>p_move S rfl rfl rfl trivial fun a S=>p_move S rfl rfl rfl trivial fun a S=>p_bin S rfl rfl rfl rfl rfl trivial fun a S=>h_run' S rfl trivial ?_
    replace S:=S.rowu .h
    refine s_stRW S (i:=x2) (u:=gt y4 (wr .i64 (x2+y5))) (cu:=ch1) rfl rfl hA3 .h h.hT c3.1 c3.2 rfl fun w S=>?_
    refine h_back ⟨fun h=>(nomatch h),?_⟩
    refine h_run' S rfl trivial ?_
    obtain ⟨c4,h4⟩:=chk_of h3; clear h3
    refine s_iaddrO S (ty':=g.T) rfl .h rfl h.hU h.hT c4.1 c4.2 rfl fun g4 a hA4 S=>?_
    refine h_back ⟨fun h=>(nomatch h),?_⟩
    refine h_run' S rfl trivial (s_stRW S (i:=(wr .i64 (x2+y5))) (u:=gt y4 x2) (cu:=ch2) rfl rfl hA4 .h h.hT c4.1 c4.2 rfl fun w S=>?_)
    refine h_back ⟨fun h=>(nomatch h),?_⟩
    refine h_done ?_; clear CL hw le
    refine x_thenN (c_region' (s_mv5 S rfl fun a S=>bindX h4 fun t1 et1 h5=>s_callK S (ff_.ok g h k et1) h.n126.fn rfl .pre (fun _=> .c1) rfl fun ch3 m le1 a w S=>c_end' (x_blockN (x_thenN (c_region' (s_mv1 S rfl fun a S=>s_bi S rfl fun a S=>s_as1 S rfl fun a S=>c_end' (x_thenN ?_)))))))
    exact ⟨_,t1,(wr .i64 (y5 - 1)),(S.sb rfl (.c0 .n)),h5⟩
   ·refine c_condF S rfl c1 (wp_exit (x_thenX (x_thenX (x_blockX (b_end ?_)))))
    obtain rfl:=Option.some.inj h1
    exact b_ret0 S rfl (S.retX (Hx:=[]) hb _ _ (():Unit) (.c0 .n) trivial)
 refine c_region (s_mv1 S rfl fun a S=>s_bi S rfl fun a S=>s_quo S rfl rfl (by decide) rfl fun a S=>s_as1 S rfl fun a S=>c_end (wp_block ?_))
 refine c_loop (fun q2 a w=>∃ m y8 y9,St 60 m b0 [(11,(.i y9)),(10,(.i (wr .i64 (x3 - x2)))),(9,(.i 0)),(8,(.i x2)),(0,(.s ch_0_0 ch_0_1 ch_0_2)),(3,(.v (.func (.func g.fc) #[] #[])))] [Res.row g.T g.e ch_0_0 ch_0_1 ch_0_2 y8] a w∧fe3_.l2 g k x2 x3 q2 y8 y9=some r) ?_ ?_ (k:=k) ⟨_,x1,(wr .i64 (Int.tdiv (wr .i64 ((wr .i64 (x3 - x2)) - 1)) 2)),(S.sb rfl (.c0 .n)),h0⟩
 ·rintro a w ⟨m,y8,y9,S,h0⟩
  exact (nomatch (show (none:Option (List g.α))=some r from h0))
 ·clear S h0
  rintro q2 a w ⟨m,y8,y9,S,h0⟩
  replace h0:fe3_.b2 g k x2 x3 (fe3_.l2 g k x2 x3 q2) y8 y9=some r:=h0
  delta fe3_.b2 at h0
  refine wp_seq (c_region (s_mv1 S rfl fun a S=>s_bi S rfl fun a S=>c_end ?_))
  rcases ite_of h0 with ⟨c5,h1⟩ | ⟨c5,h1⟩
  ·refine c_condT S rfl c5 (wp_skip (x_thenN (wp_seq (wp_block (c_region' (s_mv5 S rfl fun a S=>bindX h1 fun t4 et4 h2=>s_callK S (ff_.ok g h k et4) h.n126.fn rfl .pre (fun _=> .c1) rfl fun ch4 m le1 a w S=>c_end' (x_blockN (x_thenN (c_region' (s_mv1 S rfl fun a S=>s_bi S rfl fun a S=>s_as1 S rfl fun a S=>c_end' (x_thenN ?_)))))))))))
   exact ⟨_,t4,(wr .i64 (y9 - 1)),(S.sb rfl (.c0 .n)),h2⟩
  ·refine c_condF S rfl c5 (wp_exit (x_thenX (x_thenX (x_blockX (x_thenN ?_)))))
   exact j1 _ y8 a w (S.sb rfl (.c0 .n)) h1
abbrev fg3_.Ty (g:SortG):Type:=(List g.α)→Int→Int→Int→Option (Int×Int×Int)
def fg3_.Ctr (g:SortG)(s:fg3_.Ty g):Prop:=∀ {x1:List g.α} {x2:Int} {x3:Int} {x4:Int} {ch_0_0:Option Addr} {ch_0_1:Nat} {ch_0_2:Nat} {ch_3_0:Nat} {r:Int×Int×Int} (h0:s x1 x2 x3 x4=some r) {mi:Mem} {w0:World},CtrB Tryz.prog (g.φ 130) [(.s ch_0_0 ch_0_1 ch_0_2),(.i x2),(.i x3),(.p ch_3_0),(.v (.func (.func g.fc) #[] #[]))] [Res.row g.T g.e ch_0_0 ch_0_1 ch_0_2 x1,Res.cells ch_3_0 3 [.i x4]] (fun (ch:Unit)=>((.tup [(false,[.i r.1]),(false,[.i r.2.1])]):D)) (fun (ch:Unit)=>[Res.row g.T g.e ch_0_0 ch_0_1 ch_0_2 x1,Res.cells ch_3_0 3 [.i r.t2]]) mi w0
def fg3_.f (g:SortG)(k:Nat)(x1:List g.α)(x2:Int)(x3:Int)(x4:Int):Option (Int×Int×Int):=if (0:Int)≤x3∧x3<((x1).length:Int) then (if (0:Int)≤x2∧x2<((x1).length:Int) then ((g.cmp k (gt x1 x3) (gt x1 x2)).bind fun t1=>(if (decide (t1<0))=true then (some (x3,x2,wr .i64 (x4+1))) else (some (x2,x3,x4)))) else none) else none
theorem fg3_.ok (g:SortG)(h:SortG.Ok g)(k:Nat):fg3_.Ctr g (fg3_.f g k):=by
 intro x1 x2 x3 x4 ch_0_0 ch_0_1 ch_0_2 ch_3_0 r h0 mi w0 ok hm
 delta fg3_.f at h0
 refine c_enterG (n:=32) [(.s ch_0_0 ch_0_1 ch_0_2),(.i x2),(.i x3),(.p ch_3_0),(.v (.func (.func g.fc) #[] #[]))] (l:=[(0,(.s ch_0_0 ch_0_1 ch_0_2)),(1,(.i x2)),(2,(.i x3)),(3,(.p ch_3_0)),(4,(.v (.func (.func g.fc) #[] #[])))]) h.n130 rfl rfl rfl ok hm ?_
 clear ok hm
 intro b0 hb a S
 refine c_region (s_as2 S rfl fun a S=>c_end (wp_seq ?_))
 have hS:=S.rowx (fun _=> .h)
 clear S; obtain ⟨cs1,S⟩:=hS
 refine wp_seq (c_hS S (.tk 0 9 (.alts (.run 9 true (.take 10 .done) .nil))) 11 (.c0 .n) ⟨Res.stay_rowx,trivial⟩ [(0,(.s ch_0_0 ch_0_1 ch_0_2)),(1,(.i x2)),(2,(.i x3)),(4,(.v (.func (.func g.fc) #[] #[])))] rfl (by kernel_rfl) ?_); clear S; intro w S CL hw le
 refine h_mv3 S CL hw le rfl trivial trivial trivial fun a S CL=>?_
 obtain ⟨c1,h1⟩:=chk_of h0; clear h0
 refine h_iaddrX S CL hw le (subR rfl) (ty':=g.T) rfl .h rfl h.hU h.hT c1.1 c1.2 rfl rfl trivial fun g1 a hA1 S CL=>h_ldXW S CL hw le (subR rfl) (i:=x3) rfl hA1 .h h.hT c1.1 c1.2 rfl rfl rfl trivial fun ch1 a S CL=>h_mv2 S CL hw le rfl trivial trivial fun a S CL=>?_
 obtain ⟨c2,h2⟩:=chk_of h1; clear h1
 refine h_iaddrX S CL hw le (subR rfl) (ty':=g.T) rfl .h rfl h.hU h.hT c2.1 c2.2 rfl rfl trivial fun g2 a hA2 S CL=>h_ldXW S CL hw le (subR rfl) (i:=x2) rfl hA2 .h h.hT c2.1 c2.2 rfl rfl rfl trivial fun ch2 a S CL=>h_run' S rfl trivial (bindX h2 fun t1 et1 h3=>s_callK S (h.hcmp et1) h.nc rfl .pre (fun _=> .n) rfl fun ch3 m le1 a w S=>?_)
 replace le:=le.trans le1
 refine CL.bk hw S (.c0 .n) le fun hw=>?_
 replace CL:=CL.add (t:=21) (d:=(.i t1)) S rfl rfl
 refine h_bin S CL hw le (subR rfl) rfl rfl rfl rfl rfl trivial fun a S CL=>?_
 refine h_done ?_; clear CL hw le
 replace S:=S.rowu .h
 refine x_thenN ?_
 rcases ite_of h3 with ⟨c3,h4⟩ | ⟨c3,h4⟩
 ·refine c_condT S rfl c3 (c_region (s_mv1 S rfl fun a S=>s_nilchk S rfl rfl fun a S=>s_load1 S rfl .h1 T3 (v:=(.int .i64 x4)) rfl rfl fun a S=>s_bi S rfl fun a S=>s_nilchk S rfl rfl fun a S=>s_storeJ S 0 rfl rfl rfl rfl .h1 T3 rfl rfl fun w S=>c_end (c_region (s_mv2 S rfl fun a S=>s_as2 S rfl fun a S=>c_end (wp_ret (x_thenR ?_))))))
  obtain rfl:=Option.some.inj h4
  exact b_ret2 (d1:=(.i x3)) (d2:=(.i x2)) S rfl rfl rfl fun ok1 ok2=>S.retX (Hx:=[]) hb _ _ (():Unit) (.c0 (.c0 .n)) ⟨⟨ok1,trivial⟩,⟨ok2,trivial⟩,trivial⟩
 ·refine c_condF S rfl c3 (wp_skip (x_thenN (c_region (s_mv2 S rfl fun a S=>s_as2 S rfl fun a S=>c_end (wp_ret ?_)))))
  obtain rfl:=Option.some.inj h4
  exact b_ret2 (d1:=(.i x2)) (d2:=(.i x3)) S rfl rfl rfl fun ok1 ok2=>S.retX (Hx:=[]) hb _ _ (():Unit) (.c0 (.c0 .n)) ⟨⟨ok1,trivial⟩,⟨ok2,trivial⟩,trivial⟩
abbrev fg1_.Ty (g:SortG):Type:=(List g.α)→Int→Int→Int→Int→Option (Int×Int)
def fg1_.Ctr (g:SortG)(s:fg1_.Ty g):Prop:=∀ {x1:List g.α} {x2:Int} {x3:Int} {x4:Int} {x5:Int} {ch_0_0:Option Addr} {ch_0_1:Nat} {ch_0_2:Nat} {ch_4_0:Nat} {r:Int×Int} (h0:s x1 x2 x3 x4 x5=some r) {mi:Mem} {w0:World},CtrB Tryz.prog (g.φ 128) [(.s ch_0_0 ch_0_1 ch_0_2),(.i x2),(.i x3),(.i x4),(.p ch_4_0),(.v (.func (.func g.fc) #[] #[]))] [Res.row g.T g.e ch_0_0 ch_0_1 ch_0_2 x1,Res.cells ch_4_0 3 [.i x5]] (fun (ch:Unit)=>((.i r.1):D)) (fun (ch:Unit)=>[Res.row g.T g.e ch_0_0 ch_0_1 ch_0_2 x1,Res.cells ch_4_0 3 [.i r.2]]) mi w0
def fg1_.f (g:SortG)(k:Nat)(x1:List g.α)(x2:Int)(x3:Int)(x4:Int)(x5:Int):Option (Int×Int):=(fg3_.f g k x1 x2 x3 x5).bind fun t1=>((fg3_.f g k x1 t1.2.1 x4 t1.2.2).bind fun t2=>((fg3_.f g k x1 t1.1 t2.1 t2.2.2).bind fun t3=>(some (t3.2.1,t3.2.2))))
theorem fg1_.ok (g:SortG)(h:SortG.Ok g)(k:Nat):fg1_.Ctr g (fg1_.f g k):=by
 intro x1 x2 x3 x4 x5 ch_0_0 ch_0_1 ch_0_2 ch_4_0 r h0 mi w0 ok hm
 delta fg1_.f at h0
 refine c_enterG (n:=41) [(.s ch_0_0 ch_0_1 ch_0_2),(.i x2),(.i x3),(.i x4),(.p ch_4_0),(.v (.func (.func g.fc) #[] #[]))] (l:=[(0,(.s ch_0_0 ch_0_1 ch_0_2)),(1,(.i x2)),(2,(.i x3)),(3,(.i x4)),(4,(.p ch_4_0)),(5,(.v (.func (.func g.fc) #[] #[])))]) h.n128 rfl rfl rfl ok hm ?_
 clear ok hm
 intro b0 hb a S
 refine c_region (s_as1 S rfl fun a S=>c_end (c_region (s_mv5 S rfl fun a S=>bindX h0 fun t1 et1 h1=>s_callK S (fg3_.ok g h k et1) h.n130.fn rfl .pre (fun _=> .c2) rfl fun ch1 m le1 a w S=>s_mv1 S rfl fun a S=>s_extract S rfl rfl rfl rfl fun a S=>s_extract S rfl rfl rfl rfl fun a S=>s_as2 S rfl fun a S=>c_end (c_region (s_mv5 S rfl fun a S=>bindX h1 fun t2 et2 h2=>s_callK S (fg3_.ok g h k et2) h.n130.fn rfl .pre (fun _=> .c2) rfl fun ch2 m le1 a w S=>s_mv1 S rfl fun a S=>s_extract S rfl rfl rfl rfl fun a S=>s_extract S rfl rfl rfl rfl fun a S=>s_as2 S rfl fun a S=>c_end (c_region (s_mv5 S rfl fun a S=>bindX h2 fun t3 et3 h3=>s_callK S (fg3_.ok g h k et3) h.n130.fn rfl .pre (fun _=> .c2) rfl fun ch3 m le1 a w S=>s_mv1 S rfl fun a S=>s_extract S rfl rfl rfl rfl fun a S=>s_extract S rfl rfl rfl rfl fun a S=>s_as2 S rfl fun a S=>c_end (c_region (s_mv1 S rfl fun a S=>s_as1 S rfl fun a S=>c_end (wp_ret ?_))))))))))
 obtain rfl:=Option.some.inj h3
 exact b_ret1 (d:=(.i t3.2.1)) S rfl rfl fun ok=>S.retX (Hx:=[]) hb _ _ (():Unit) (.c0 (.c0 .n)) ok
abbrev fa8_.Ty (g:SortG):Type:=(List g.α)→Int→Int→Option (Int×Int)
def fa8_.Ctr (g:SortG)(s:fa8_.Ty g):Prop:=∀ {x1:List g.α} {x2:Int} {x3:Int} {ch_0_0:Option Addr} {ch_0_1:Nat} {ch_0_2:Nat} {ch_2_0:Nat} {r:Int×Int} (h0:s x1 x2 x3=some r) {mi:Mem} {w0:World},CtrB Tryz.prog (g.φ 127) [(.s ch_0_0 ch_0_1 ch_0_2),(.i x2),(.p ch_2_0),(.v (.func (.func g.fc) #[] #[]))] [Res.row g.T g.e ch_0_0 ch_0_1 ch_0_2 x1,Res.cells ch_2_0 3 [.i x3]] (fun (ch:Unit)=>((.i r.1):D)) (fun (ch:Unit)=>[Res.row g.T g.e ch_0_0 ch_0_1 ch_0_2 x1,Res.cells ch_2_0 3 [.i r.2]]) mi w0
def fa8_.f (g:SortG)(k:Nat)(x1:List g.α)(x2:Int)(x3:Int):Option (Int×Int):=(fg1_.f g k x1 (wr .i64 (x2 - 1)) x2 (wr .i64 (x2+1)) x3).bind fun t1=>(some (t1.1,t1.2))
theorem fa8_.ok (g:SortG)(h:SortG.Ok g)(k:Nat):fa8_.Ctr g (fa8_.f g k):=by
 intro x1 x2 x3 ch_0_0 ch_0_1 ch_0_2 ch_2_0 r h0 mi w0 ok hm
 delta fa8_.f at h0
 refine c_enterG (n:=18) [(.s ch_0_0 ch_0_1 ch_0_2),(.i x2),(.p ch_2_0),(.v (.func (.func g.fc) #[] #[]))] (l:=[(0,(.s ch_0_0 ch_0_1 ch_0_2)),(1,(.i x2)),(2,(.p ch_2_0)),(3,(.v (.func (.func g.fc) #[] #[])))]) h.n127 rfl rfl rfl ok hm ?_
 clear ok hm
 intro b0 hb a S
 refine c_region (s_as1 S rfl fun a S=>c_end (c_region (s_mv2 S rfl fun a S=>s_bi S rfl fun a S=>s_mv2 S rfl fun a S=>s_bi S rfl fun a S=>s_mv2 S rfl fun a S=>bindX h0 fun t1 et1 h1=>s_callK S (fg1_.ok g h k et1) h.n128.fn rfl .pre (fun _=> .c2) rfl fun ch1 m le1 a w S=>s_as1 S rfl fun a S=>c_end (wp_ret ?_))))
 obtain rfl:=Option.some.inj h1
 exact b_ret1 (d:=(.i t1.1)) S rfl rfl fun ok=>S.retX (Hx:=[]) hb _ _ (():Unit) (.c0 (.c0 .n)) ok
abbrev fc7_.Ty (g:SortG):Type:=(List g.α)→Int→Int→Option (Int×Int)
def fc7_.Ctr (g:SortG)(s:fc7_.Ty g):Prop:=∀ {x1:List g.α} {x2:Int} {x3:Int} {ch_0_0:Option Addr} {ch_0_1:Nat} {ch_0_2:Nat} {r:Int×Int} (h0:s x1 x2 x3=some r) {mi:Mem} {w0:World},CtrB Tryz.prog (g.φ 116) [(.s ch_0_0 ch_0_1 ch_0_2),(.i x2),(.i x3),(.v (.func (.func g.fc) #[] #[]))] [Res.row g.T g.e ch_0_0 ch_0_1 ch_0_2 x1] (fun (ch:Unit)=>((.tup [(false,[.i r.1]),(false,[.i r.2])]):D)) (fun (ch:Unit)=>[Res.row g.T g.e ch_0_0 ch_0_1 ch_0_2 x1]) mi w0
def fc7_.j1 (g:SortG)(y1:Int)(y2:Int):Option (Int×Int):=if (y2==0)=true then (some (y1,1)) else (if (y2==12)=true then (some (y1,2)) else (some (y1,0)))
def fc7_.j2 (g:SortG)(k:Nat)(x1:List g.α)(y3:Int)(y4:Int)(y5:Int)(y6:Int):Option (Int×Int):=(fg1_.f g k x1 y5 y4 y3 y6).bind fun t1=>(fc7_.j1 g t1.1 t1.2)
def fc7_.f (g:SortG)(k:Nat)(x1:List g.α)(x2:Int)(x3:Int):Option (Int×Int):=if (decide (8≤(wr .i64 (x3 - x2))))=true then (if (decide (50≤(wr .i64 (x3 - x2))))=true then ((fa8_.f g k x1 (wr .i64 (x2+(wr .i64 ((wr .i64 (Int.tdiv (wr .i64 (x3 - x2)) 4))*1)))) 0).bind fun t2=>((fa8_.f g k x1 (wr .i64 (x2+(wr .i64 ((wr .i64 (Int.tdiv (wr .i64 (x3 - x2)) 4))*2)))) t2.2).bind fun t3=>((fa8_.f g k x1 (wr .i64 (x2+(wr .i64 ((wr .i64 (Int.tdiv (wr .i64 (x3 - x2)) 4))*3)))) t3.2).bind fun t4=>(fc7_.j2 g k x1 t4.1 t3.1 t2.1 t4.2)))) else (fc7_.j2 g k x1 (wr .i64 (x2+(wr .i64 ((wr .i64 (Int.tdiv (wr .i64 (x3 - x2)) 4))*3)))) (wr .i64 (x2+(wr .i64 ((wr .i64 (Int.tdiv (wr .i64 (x3 - x2)) 4))*2)))) (wr .i64 (x2+(wr .i64 ((wr .i64 (Int.tdiv (wr .i64 (x3 - x2)) 4))*1)))) 0)) else (fc7_.j1 g (wr .i64 (x2+(wr .i64 ((wr .i64 (Int.tdiv (wr .i64 (x3 - x2)) 4))*2)))) 0)
theorem fc7_.ok (g:SortG)(h:SortG.Ok g)(k:Nat):fc7_.Ctr g (fc7_.f g k):=by
 intro x1 x2 x3 ch_0_0 ch_0_1 ch_0_2 r h0 mi w0 ok hm
 delta fc7_.f at h0
 refine c_enterG (n:=63) [(.s ch_0_0 ch_0_1 ch_0_2),(.i x2),(.i x3),(.v (.func (.func g.fc) #[] #[]))] (l:=[(0,(.s ch_0_0 ch_0_1 ch_0_2)),(1,(.i x2)),(2,(.i x3)),(3,(.v (.func (.func g.fc) #[] #[])))]) h.n116 rfl rfl rfl ok hm ?_
 clear ok hm
 intro b0 hb a S
 refine c_region (s_as2 S rfl fun a S=>c_end (c_region (s_mv2 S rfl fun a S=>s_bi S rfl fun a S=>s_as1 S rfl fun a S=>c_end (c_region (s_alloc S Z3 rfl rfl rfl fun g1 a w S=>c_end (c_region (s_mv2 S rfl fun a S=>s_quo S rfl rfl (by decide) rfl fun a S=>s_bi S rfl fun a S=>s_bi S rfl fun a S=>s_as1 S rfl fun a S=>c_end (c_region (s_mv2 S rfl fun a S=>s_quo S rfl rfl (by decide) rfl fun a S=>s_bi S rfl fun a S=>s_bi S rfl fun a S=>s_as1 S rfl fun a S=>c_end (c_region (s_mv2 S rfl fun a S=>s_quo S rfl rfl (by decide) rfl fun a S=>s_bi S rfl fun a S=>s_bi S rfl fun a S=>s_as1 S rfl fun a S=>c_end (wp_seq_k fun K1 hK1=>?_))))))))))))
 have j1:∀ m y1 g3 y2 a w,St 63 m b0 [(13,(.i y1)),(11,(.p g3))] [Res.row g.T g.e ch_0_0 ch_0_1 ch_0_2 x1,Res.cells g3 3 [.i y2]] a w→fc7_.j1 g y1 y2=some r→K1 a w:=by
  intro m y1 g3 y2 a w S h0
  delta fc7_.j1 at h0
  refine hK1 a w (c_region (s_load1 S rfl .h1 T3 (v:=(.int .i64 y2)) rfl rfl fun a S=>c_end (wp_block (c_region (s_bi S rfl fun a S=>s_as1 S rfl fun a S=>c_end ?_)))))
  rcases ite_of h0 with ⟨c1,h1⟩ | ⟨c1,h1⟩
  ·refine c_condT S rfl c1 (c_region (s_mv1 S rfl fun a S=>s_as2 S rfl fun a S=>c_end (wp_ret (x_blockR ?_))))
   obtain rfl:=Option.some.inj h1
   exact b_ret2 (d1:=(.i y1)) (d2:=(.i 1)) S rfl rfl rfl fun ok1 ok2=>S.retX (Hx:=[]) hb _ _ (():Unit) (.c0 .n) ⟨⟨ok1,trivial⟩,⟨ok2,trivial⟩,trivial⟩
  ·refine c_condF S rfl c1 (c_region (s_bi S rfl fun a S=>s_as1 S rfl fun a S=>c_end ?_))
   rcases ite_of h1 with ⟨c2,h2⟩ | ⟨c2,h2⟩
   ·refine c_condT S rfl c2 (c_region (s_mv1 S rfl fun a S=>s_as2 S rfl fun a S=>c_end (wp_ret (x_blockR ?_))))
    obtain rfl:=Option.some.inj h2
    exact b_ret2 (d1:=(.i y1)) (d2:=(.i 2)) S rfl rfl rfl fun ok1 ok2=>S.retX (Hx:=[]) hb _ _ (():Unit) (.c0 .n) ⟨⟨ok1,trivial⟩,⟨ok2,trivial⟩,trivial⟩
   ·refine c_condF S rfl c2 (c_region (s_mv1 S rfl fun a S=>s_as2 S rfl fun a S=>c_end (wp_ret (x_blockR ?_))))
    obtain rfl:=Option.some.inj h2
    exact b_ret2 (d1:=(.i y1)) (d2:=(.i 0)) S rfl rfl rfl fun ok1 ok2=>S.retX (Hx:=[]) hb _ _ (():Unit) (.c0 .n) ⟨⟨ok1,trivial⟩,⟨ok2,trivial⟩,trivial⟩
 refine c_region (s_mv1 S rfl fun a S=>s_bi S rfl fun a S=>c_end ?_)
 rcases ite_of h0 with ⟨c3,h1⟩ | ⟨c3,h1⟩
 ·refine c_condT S rfl c3 (wp_seq_k fun K2 hK2=>?_)
  have j2:∀ m y3 y4 y5 g4 y6 a w,St 63 m b0 [(14,(.i y3)),(13,(.i y4)),(12,(.i y5)),(11,(.p g4)),(0,(.s ch_0_0 ch_0_1 ch_0_2)),(3,(.v (.func (.func g.fc) #[] #[])))] [Res.row g.T g.e ch_0_0 ch_0_1 ch_0_2 x1,Res.cells g4 3 [.i y6]] a w→fc7_.j2 g k x1 y3 y4 y5 y6=some r→K2 a w:=by
   intro m y3 y4 y5 g4 y6 a w S h0
   delta fc7_.j2 at h0
   refine hK2 a w (c_region' (s_mv5 S rfl fun a S=>bindX h0 fun t1 et1 h1=>s_callK S (fg1_.ok g h k et1) h.n128.fn rfl .pre (fun _=> .c2) rfl fun ch1 m le1 a w S=>s_as1 S rfl fun a S=>c_end' (x_thenN ?_)))
   exact j1 _ t1.1 g4 t1.2 a w (S.sb rfl (.c0 (.c0 .n))) h1
  refine c_region (s_mv1 S rfl fun a S=>s_bi S rfl fun a S=>c_end ?_)
  rcases ite_of h1 with ⟨c4,h2⟩ | ⟨c4,h2⟩
  ·refine c_condT S rfl c4 (c_region (s_mv3 S rfl fun a S=>bindX h2 fun t2 et2 h3=>s_callK S (fa8_.ok g h k et2) h.n127.fn rfl (.c1 (.c0 .n)) (fun _=> .c2) rfl fun ch2 m le1 a w S=>s_as1 S rfl fun a S=>c_end (c_region (s_mv3 S rfl fun a S=>bindX h3 fun t3 et3 h4=>s_callK S (fa8_.ok g h k et3) h.n127.fn rfl .pre (fun _=> .c2) rfl fun ch3 m le1 a w S=>s_as1 S rfl fun a S=>c_end (c_region' (s_mv3 S rfl fun a S=>bindX h4 fun t4 et4 h5=>s_callK S (fa8_.ok g h k et4) h.n127.fn rfl .pre (fun _=> .c2) rfl fun ch4 m le1 a w S=>s_as1 S rfl fun a S=>c_end' (x_thenN ?_)))))))
   exact j2 _ t4.1 t3.1 t2.1 g1 t4.2 a w (S.sb rfl (.c0 (.c0 .n))) h5
  ·refine c_condF S rfl c4 (wp_skip (x_thenN ?_))
   exact j2 _ (wr .i64 (x2+(wr .i64 ((wr .i64 (Int.tdiv (wr .i64 (x3 - x2)) 4))*3)))) (wr .i64 (x2+(wr .i64 ((wr .i64 (Int.tdiv (wr .i64 (x3 - x2)) 4))*2)))) (wr .i64 (x2+(wr .i64 ((wr .i64 (Int.tdiv (wr .i64 (x3 - x2)) 4))*1)))) g1 0 a w (S.sb rfl (.c1 (.c0 .n))) h2
 ·refine c_condF S rfl c3 (wp_skip (x_thenN ?_))
  exact j1 _ (wr .i64 (x2+(wr .i64 ((wr .i64 (Int.tdiv (wr .i64 (x3 - x2)) 4))*2)))) g1 0 a w (S.sb rfl (.c1 (.c0 .n))) h1
abbrev fb2_.Ty (g:SortG):Type:=(List g.α)→Int→Int→Option (List g.α)
def fb2_.Ctr (g:SortG)(s:fb2_.Ty g):Prop:=∀ {x1:List g.α} {x2:Int} {x3:Int} {ch_0_0:Option Addr} {ch_0_1:Nat} {ch_0_2:Nat} {r:List g.α} (h0:s x1 x2 x3=some r) {mi:Mem} {w0:World},CtrB Tryz.prog (g.φ 117) [(.s ch_0_0 ch_0_1 ch_0_2),(.i x2),(.i x3),(.v (.func (.func g.fc) #[] #[]))] [Res.row g.T g.e ch_0_0 ch_0_1 ch_0_2 x1] (fun (ch:Unit)=>((.tup []):D)) (fun (ch:Unit)=>[Res.row g.T g.e ch_0_0 ch_0_1 ch_0_2 r]) mi w0
def fb2_.b1 (g:SortG)(rec1:(List g.α)→Int→Int→Option (List g.α))(y1:List g.α)(y2:Int)(y3:Int):Option (List g.α):=if (decide (y3<y2))=true then (if (0:Int)≤y2∧y2<((y1).length:Int) then (if (0:Int)≤y3∧y3<((y1).length:Int) then (if (0:Int)≤y2∧y2<((y1.set (Int.toNat y3) (gt y1 y2)).length:Int) then (rec1 ((y1.set (Int.toNat y3) (gt y1 y2)).set (Int.toNat y2) (gt y1 y3)) (wr .i64 (y2 - 1)) (wr .i64 (y3+1))) else none) else none) else none) else (some y1)
def fb2_.l1 (g:SortG):Nat→(List g.α)→Int→Int→Option (List g.α)
  | 0,_,_,_=>none
  | q+1,y1,y2,y3=>fb2_.b1 g (fb2_.l1 g q) y1 y2 y3
def fb2_.f (g:SortG)(k:Nat)(x1:List g.α)(x2:Int)(x3:Int):Option (List g.α):=fb2_.l1 g k x1 (wr .i64 (x3 - 1)) x2
theorem fb2_.ok (g:SortG)(h:SortG.Ok g)(k:Nat):fb2_.Ctr g (fb2_.f g k):=by
 intro x1 x2 x3 ch_0_0 ch_0_1 ch_0_2 r h0 mi w0 ok hm
 delta fb2_.f at h0
 refine c_enterG (n:=34) [(.s ch_0_0 ch_0_1 ch_0_2),(.i x2),(.i x3),(.v (.func (.func g.fc) #[] #[]))] (l:=[(0,(.s ch_0_0 ch_0_1 ch_0_2)),(1,(.i x2)),(2,(.i x3)),(3,(.v (.func (.func g.fc) #[] #[])))]) h.n117 rfl rfl rfl ok hm ?_
 clear ok hm
 intro b0 hb a S
 refine c_region (s_mv1 S rfl fun a S=>s_as1 S rfl fun a S=>c_end (c_region (s_mv1 S rfl fun a S=>s_bi S rfl fun a S=>s_as1 S rfl fun a S=>c_end (wp_block ?_))))
 refine c_loop (fun q1 a w=>∃ m y1 y2 y3,St 34 m b0 [(9,(.i y2)),(8,(.i y3)),(0,(.s ch_0_0 ch_0_1 ch_0_2))] [Res.row g.T g.e ch_0_0 ch_0_1 ch_0_2 y1] a w∧fb2_.l1 g q1 y1 y2 y3=some r) ?_ ?_ (k:=k) ⟨_,x1,(wr .i64 (x3 - 1)),x2,(S.sb rfl (.c0 .n)),h0⟩
 ·rintro a w ⟨m,y1,y2,y3,S,h0⟩
  exact (nomatch (show (none:Option (List g.α))=some r from h0))
 ·clear S h0
  rintro q1 a w ⟨m,y1,y2,y3,S,h0⟩
  replace h0:fb2_.b1 g (fb2_.l1 g q1) y1 y2 y3=some r:=h0
  delta fb2_.b1 at h0
  refine wp_seq (c_region (s_mv2 S rfl fun a S=>s_bi S rfl fun a S=>c_end ?_))
  rcases ite_of h0 with ⟨c1,h1⟩ | ⟨c1,h1⟩
  ·refine c_condT S rfl c1 (wp_skip (x_thenN (wp_block ?_)))
   have hS:=S.rowx (fun _=> .h)
   clear S; obtain ⟨cs1,S⟩:=hS
   refine wp_seq (c_hS S (.take 0 (.take 1 (.tk 4 9 (.pure 2 (.pure 3 (.alts (.run 13 false (.alts (.run 14 false (.alts (.run 15 false .done .nil)) .nil)) .nil))))))) 13 (.c0 .n) ⟨Res.stay_rowx,trivial⟩ [(9,(.i y2)),(8,(.i y3)),(0,(.s ch_0_0 ch_0_1 ch_0_2))] rfl (by kernel_rfl) ?_); clear S; intro w S CL hw le
   refine h_mv4 S CL hw le rfl trivial trivial trivial trivial fun a S CL=>?_
   obtain ⟨c2,h2⟩:=chk_of h1; clear h1
   refine h_iaddrX S CL hw le (subR rfl) (ty':=g.T) rfl .h rfl h.hU h.hT c2.1 c2.2 rfl rfl trivial fun g1 a hA1 S CL=>h_ldXW S CL hw le (subR rfl) (i:=y2) rfl hA1 .h h.hT c2.1 c2.2 rfl rfl rfl trivial fun ch1 a S CL=>h_mv2 S CL hw le rfl trivial trivial fun a S CL=>?_
   obtain ⟨c3,h3⟩:=chk_of h2; clear h2
   refine h_iaddrX S CL hw le (subR rfl) (ty':=g.T) rfl .h rfl h.hU h.hT c3.1 c3.2 rfl rfl trivial fun g2 a hA2 S CL=>h_ldXW S CL hw le (subR rfl) (i:=y3) rfl hA2 .h h.hT c3.1 c3.2 rfl rfl rfl trivial fun ch2 a S CL=>h_iaddrX S CL hw le (subR rfl) (ty':=g.T) rfl .h rfl h.hU h.hT c3.1 c3.2 rfl rfl trivial fun g3 a hA3 S CL=>p_move S rfl rfl rfl trivial fun a S=>p_move S rfl rfl rfl trivial fun a S=>h_run' S rfl trivial ?_
   replace S:=S.rowu .h
   refine s_stRW S (i:=y3) (u:=gt y1 y2) (cu:=ch1) rfl rfl hA3 .h h.hT c3.1 c3.2 rfl fun w S=>?_
   refine h_back ⟨fun h=>(nomatch h),?_⟩
   refine h_run' S rfl trivial ?_
   obtain ⟨c4,h4⟩:=chk_of h3; clear h3
   refine s_iaddrO S (ty':=g.T) rfl .h rfl h.hU h.hT c4.1 c4.2 rfl fun g4 a hA4 S=>?_
   refine h_back ⟨fun h=>(nomatch h),?_⟩
   refine h_run' S rfl trivial (s_stRW S (i:=y2) (u:=gt y1 y3) (cu:=ch2) rfl rfl hA4 .h h.hT c4.1 c4.2 rfl fun w S=>?_)
   refine h_back ⟨fun h=>(nomatch h),?_⟩
   refine h_done ?_; clear CL hw le
   refine x_thenN (c_region (s_mv1 S rfl fun a S=>s_bi S rfl fun a S=>s_as1 S rfl fun a S=>c_end (c_region' (s_mv1 S rfl fun a S=>s_bi S rfl fun a S=>s_as1 S rfl fun a S=>c_end' (x_blockN (x_thenN ?_))))))
   exact ⟨_,((y1.set (Int.toNat y3) (gt y1 y2)).set (Int.toNat y2) (gt y1 y3)),(wr .i64 (y2 - 1)),(wr .i64 (y3+1)),(S.sb rfl (.c0 .n)),h4⟩
  ·refine c_condF S rfl c1 (wp_exit (x_thenX (x_thenX (x_blockX (b_end ?_)))))
   obtain rfl:=Option.some.inj h1
   exact b_ret0 S rfl (S.retX (Hx:=[]) hb _ _ (():Unit) (.c0 .n) trivial)
abbrev fa_.Ty (g:SortG):Type:=(List g.α)→Int→Int→Option (Bool×(List g.α))
def fa_.Ctr (g:SortG)(s:fa_.Ty g):Prop:=∀ {x1:List g.α} {x2:Int} {x3:Int} {ch_0_0:Option Addr} {ch_0_1:Nat} {ch_0_2:Nat} {r:Bool×(List g.α)} (h0:s x1 x2 x3=some r) {mi:Mem} {w0:World},CtrB Tryz.prog (g.φ 118) [(.s ch_0_0 ch_0_1 ch_0_2),(.i x2),(.i x3),(.v (.func (.func g.fc) #[] #[]))] [Res.row g.T g.e ch_0_0 ch_0_1 ch_0_2 x1] (fun (ch:Unit)=>((.b r.1):D)) (fun (ch:Unit)=>[Res.row g.T g.e ch_0_0 ch_0_1 ch_0_2 r.2]) mi w0
def fa_.j1 (g:SortG)(y1:List g.α):Option (Bool×(List g.α)):=some (false,y1)
def fa_.j2 (g:SortG)(y40:Int)(rec1:(List g.α)→Int→Int→Option (Bool×(List g.α)))(y57:List g.α)(y58:Int):Option (Bool×(List g.α)):=rec1 y57 (wr .i64 (y40+1)) y58
def fa_.b2 (g:SortG)(k:Nat)(x3:Int)(y40:Int)(rec1:(List g.α)→Int→Int→Option (Bool×(List g.α)))(y64:Int)(rec2:(List g.α)→Int→Option (Bool×(List g.α)))(y72:List g.α)(y73:Int):Option (Bool×(List g.α)):=if (decide (y73<x3))=true then (if (0:Int)≤y73∧y73<((y72).length:Int) then (if (0:Int)≤(wr .i64 (y73 - 1))∧(wr .i64 (y73 - 1))<((y72).length:Int) then ((g.cmp k (gt y72 y73) (gt y72 (wr .i64 (y73 - 1)))).bind fun t1=>(if (!(decide (t1<0)))=true then (fa_.j2 g y40 rec1 y72 y64) else (if (0:Int)≤(wr .i64 (y73 - 1))∧(wr .i64 (y73 - 1))<((y72.set (Int.toNat y73) (gt y72 (wr .i64 (y73 - 1)))).length:Int) then (rec2 ((y72.set (Int.toNat y73) (gt y72 (wr .i64 (y73 - 1)))).set (Int.toNat (wr .i64 (y73 - 1))) (gt y72 y73)) (wr .i64 (y73+1))) else none))) else none) else none) else (fa_.j2 g y40 rec1 y72 y64)
def fa_.l2 (g:SortG)(k:Nat)(x3:Int)(y40:Int)(rec1:(List g.α)→Int→Int→Option (Bool×(List g.α)))(y64:Int):Nat→(List g.α)→Int→Option (Bool×(List g.α))
  | 0,_,_=>none
  | q+1,y72,y73=>fa_.b2 g k x3 y40 rec1 y64 (fa_.l2 g k x3 y40 rec1 y64 q) y72 y73
def fa_.j4 (g:SortG)(k:Nat)(x3:Int)(y40:Int)(rec1:(List g.α)→Int→Int→Option (Bool×(List g.α)))(y64:Int)(y69:List g.α):Option (Bool×(List g.α)):=if (decide (2≤(wr .i64 (x3 - y64))))=true then (fa_.l2 g k x3 y40 rec1 y64 k y69 (wr .i64 (y64+1))) else (fa_.j2 g y40 rec1 y69 y64)
def fa_.b3 (g:SortG)(k:Nat)(x3:Int)(y40:Int)(rec1:(List g.α)→Int→Int→Option (Bool×(List g.α)))(y64:Int)(rec3:(List g.α)→Int→Option (Bool×(List g.α)))(y76:List g.α)(y77:Int):Option (Bool×(List g.α)):=if (decide (1≤y77))=true then (if (0:Int)≤y77∧y77<((y76).length:Int) then (if (0:Int)≤(wr .i64 (y77 - 1))∧(wr .i64 (y77 - 1))<((y76).length:Int) then ((g.cmp k (gt y76 y77) (gt y76 (wr .i64 (y77 - 1)))).bind fun t4=>(if (!(decide (t4<0)))=true then (fa_.j4 g k x3 y40 rec1 y64 y76) else (if (0:Int)≤(wr .i64 (y77 - 1))∧(wr .i64 (y77 - 1))<((y76.set (Int.toNat y77) (gt y76 (wr .i64 (y77 - 1)))).length:Int) then (rec3 ((y76.set (Int.toNat y77) (gt y76 (wr .i64 (y77 - 1)))).set (Int.toNat (wr .i64 (y77 - 1))) (gt y76 y77)) (wr .i64 (y77 - 1))) else none))) else none) else none) else (fa_.j4 g k x3 y40 rec1 y64 y76)
def fa_.l3 (g:SortG)(k:Nat)(x3:Int)(y40:Int)(rec1:(List g.α)→Int→Int→Option (Bool×(List g.α)))(y64:Int):Nat→(List g.α)→Int→Option (Bool×(List g.α))
  | 0,_,_=>none
  | q+1,y76,y77=>fa_.b3 g k x3 y40 rec1 y64 (fa_.l3 g k x3 y40 rec1 y64 q) y76 y77
def fa_.j3 (g:SortG)(k:Nat)(x2:Int)(x3:Int)(y39:List g.α)(y40:Int)(rec1:(List g.α)→Int→Int→Option (Bool×(List g.α)))(y64:Int):Option (Bool×(List g.α)):=if (y64==x3)=true then (some (true,y39)) else (if (decide ((wr .i64 (x3 - x2))<50))=true then (some (false,y39)) else (if (0:Int)≤(wr .i64 (y64 - 1))∧(wr .i64 (y64 - 1))<((y39).length:Int) then (if (0:Int)≤y64∧y64<((y39).length:Int) then (if (0:Int)≤(wr .i64 (y64 - 1))∧(wr .i64 (y64 - 1))<((y39.set (Int.toNat y64) (gt y39 (wr .i64 (y64 - 1)))).length:Int) then (if (decide (2≤(wr .i64 (y64 - x2))))=true then (fa_.l3 g k x3 y40 rec1 y64 k ((y39.set (Int.toNat y64) (gt y39 (wr .i64 (y64 - 1)))).set (Int.toNat (wr .i64 (y64 - 1))) (gt y39 y64)) (wr .i64 (y64 - 1))) else (fa_.j4 g k x3 y40 rec1 y64 ((y39.set (Int.toNat y64) (gt y39 (wr .i64 (y64 - 1)))).set (Int.toNat (wr .i64 (y64 - 1))) (gt y39 y64)))) else none) else none) else none))
def fa_.j5 (g:SortG)(k:Nat)(x2:Int)(x3:Int)(y39:List g.α)(y40:Int)(rec1:(List g.α)→Int→Int→Option (Bool×(List g.α)))(y81:Int)(rec4:Int→Option (Bool×(List g.α)))(y82:Bool):Option (Bool×(List g.α)):=if y82=true then (rec4 (wr .i64 (y81+1))) else (fa_.j3 g k x2 x3 y39 y40 rec1 y81)
def fa_.b4 (g:SortG)(k:Nat)(x2:Int)(x3:Int)(y39:List g.α)(y40:Int)(rec1:(List g.α)→Int→Int→Option (Bool×(List g.α)))(rec4:Int→Option (Bool×(List g.α)))(y81:Int):Option (Bool×(List g.α)):=if (decide (y81<x3))=true then (if (0:Int)≤y81∧y81<((y39).length:Int) then (if (0:Int)≤(wr .i64 (y81 - 1))∧(wr .i64 (y81 - 1))<((y39).length:Int) then ((g.cmp k (gt y39 y81) (gt y39 (wr .i64 (y81 - 1)))).bind fun t6=>(fa_.j5 g k x2 x3 y39 y40 rec1 y81 rec4 (!(decide (t6<0))))) else none) else none) else (fa_.j5 g k x2 x3 y39 y40 rec1 y81 rec4 false)
def fa_.l4 (g:SortG)(k:Nat)(x2:Int)(x3:Int)(y39:List g.α)(y40:Int)(rec1:(List g.α)→Int→Int→Option (Bool×(List g.α))):Nat→Int→Option (Bool×(List g.α))
  | 0,_=>none
  | q+1,y81=>fa_.b4 g k x2 x3 y39 y40 rec1 (fa_.l4 g k x2 x3 y39 y40 rec1 q) y81
def fa_.b1 (g:SortG)(k:Nat)(x2:Int)(x3:Int)(rec1:(List g.α)→Int→Int→Option (Bool×(List g.α)))(y39:List g.α)(y40:Int)(y41:Int):Option (Bool×(List g.α)):=if (decide (y40<5))=true then (fa_.l4 g k x2 x3 y39 y40 rec1 k y41) else (fa_.j1 g y39)
def fa_.l1 (g:SortG)(k:Nat)(x2:Int)(x3:Int):Nat→(List g.α)→Int→Int→Option (Bool×(List g.α))
  | 0,_,_,_=>none
  | q+1,y39,y40,y41=>fa_.b1 g k x2 x3 (fa_.l1 g k x2 x3 q) y39 y40 y41
def fa_.f (g:SortG)(k:Nat)(x1:List g.α)(x2:Int)(x3:Int):Option (Bool×(List g.α)):=fa_.l1 g k x2 x3 k x1 0 (wr .i64 (x2+1))
theorem fa_.ok (g:SortG)(h:SortG.Ok g)(k:Nat):fa_.Ctr g (fa_.f g k):=by
 intro x1 x2 x3 ch_0_0 ch_0_1 ch_0_2 r h0 mi w0 ok hm
 delta fa_.f at h0
 refine c_enterG (n:=141) [(.s ch_0_0 ch_0_1 ch_0_2),(.i x2),(.i x3),(.v (.func (.func g.fc) #[] #[]))] (l:=[(0,(.s ch_0_0 ch_0_1 ch_0_2)),(1,(.i x2)),(2,(.i x3)),(3,(.v (.func (.func g.fc) #[] #[])))]) h.n118 rfl rfl rfl ok hm ?_
 clear ok hm
 intro b0 hb a S
 refine c_region (s_as1 S rfl fun a S=>c_end (c_region (s_mv1 S rfl fun a S=>s_bi S rfl fun a S=>s_as1 S rfl fun a S=>c_end (wp_seq_k fun K1 hK1=>?_))))
 have j1:∀ m y1 a w,St 141 m b0 [] [Res.row g.T g.e ch_0_0 ch_0_1 ch_0_2 y1] a w→fa_.j1 g y1=some r→K1 a w:=by
  intro m y1 a w S h0
  delta fa_.j1 at h0
  refine hK1 a w (c_region (s_as1 S rfl fun a S=>c_end (wp_ret ?_)))
  obtain rfl:=Option.some.inj h0
  exact b_ret1 (d:=(.b false)) S rfl rfl fun ok=>S.retX (Hx:=[]) hb _ _ (():Unit) (.c0 .n) ok
 refine c_region (s_as1 S rfl fun a S=>c_end (wp_block ?_))
 refine c_loop (fun q1 a w=>∃ m y39 y40 y41,St 141 m b0 [(10,(.i y40)),(9,(.i y41)),(0,(.s ch_0_0 ch_0_1 ch_0_2)),(1,(.i x2)),(2,(.i x3)),(3,(.v (.func (.func g.fc) #[] #[])))] [Res.row g.T g.e ch_0_0 ch_0_1 ch_0_2 y39] a w∧fa_.l1 g k x2 x3 q1 y39 y40 y41=some r) ?_ ?_ (k:=k) ⟨_,x1,0,(wr .i64 (x2+1)),(S.sb rfl (.c0 .n)),h0⟩
 ·rintro a w ⟨m,y39,y40,y41,S,h0⟩
  exact (nomatch (show (none:Option (Bool×(List g.α)))=some r from h0))
 ·clear S h0
  rintro q1 a w ⟨m,y39,y40,y41,S,h0⟩
  replace h0:fa_.b1 g k x2 x3 (fa_.l1 g k x2 x3 q1) y39 y40 y41=some r:=h0
  delta fa_.b1 at h0
  refine wp_seq (c_region (s_mv1 S rfl fun a S=>s_bi S rfl fun a S=>c_end ?_))
  rcases ite_of h0 with ⟨c1,h1⟩ | ⟨c1,h1⟩
  ·refine c_condT S rfl c1 (wp_skip (x_thenN (wp_seq_k fun K2 hK2=>?_)))
   have j2:∀ m y57 y58 a w,St 141 m b0 [(10,(.i y40)),(9,(.i y58)),(0,(.s ch_0_0 ch_0_1 ch_0_2)),(1,(.i x2)),(2,(.i x3)),(3,(.v (.func (.func g.fc) #[] #[])))] [Res.row g.T g.e ch_0_0 ch_0_1 ch_0_2 y57] a w→fa_.j2 g y40 (fa_.l1 g k x2 x3 q1) y57 y58=some r→K2 a w:=by
    intro m y57 y58 a w S h0
    delta fa_.j2 at h0
    refine hK2 a w (c_region' (s_mv1 S rfl fun a S=>s_bi S rfl fun a S=>s_as1 S rfl fun a S=>c_end' (x_thenN ?_)))
    exact ⟨_,y57,(wr .i64 (y40+1)),y58,(S.sb rfl (.c0 .n)),h0⟩
   refine wp_block (wp_seq_k fun K3 hK3=>?_)
   have j3:∀ m y64 a w,St 141 m b0 [(10,(.i y40)),(9,(.i y64)),(0,(.s ch_0_0 ch_0_1 ch_0_2)),(1,(.i x2)),(2,(.i x3)),(3,(.v (.func (.func g.fc) #[] #[])))] [Res.row g.T g.e ch_0_0 ch_0_1 ch_0_2 y39] a w→fa_.j3 g k x2 x3 y39 y40 (fa_.l1 g k x2 x3 q1) y64=some r→K3 a w:=by
    intro m y64 a w S h0
    delta fa_.j3 at h0
    refine hK3 a w (wp_seq (c_region (s_mv2 S rfl fun a S=>s_bi S rfl fun a S=>c_end ?_)))
    rcases ite_of h0 with ⟨c2,h1⟩ | ⟨c2,h1⟩
    ·refine c_condT S rfl c2 (c_region (s_as1 S rfl fun a S=>c_end (wp_ret (x_thenR (x_blockR (x_thenR (x_thenR (x_blockR (x_thenR ?_)))))))))
     obtain rfl:=Option.some.inj h1
     exact b_ret1 (d:=(.b true)) S rfl rfl fun ok=>S.retX (Hx:=[]) hb _ _ (():Unit) (.c0 .n) ok
    ·refine c_condF S rfl c2 (wp_skip (x_thenN (wp_seq (c_region (s_mv2 S rfl fun a S=>s_bi S rfl fun a S=>s_bi S rfl fun a S=>c_end ?_)))))
     rcases ite_of h1 with ⟨c3,h2⟩ | ⟨c3,h2⟩
     ·refine c_condT S rfl c3 (c_region (s_as1 S rfl fun a S=>c_end (wp_ret (x_thenR (x_blockR (x_thenR (x_thenR (x_blockR (x_thenR ?_)))))))))
      obtain rfl:=Option.some.inj h2
      exact b_ret1 (d:=(.b false)) S rfl rfl fun ok=>S.retX (Hx:=[]) hb _ _ (():Unit) (.c0 .n) ok
     ·refine c_condF S rfl c3 (wp_skip (x_thenN ?_))
      have hS:=S.rowx (fun _=> .h)
      clear S; obtain ⟨cs1,S⟩:=hS
      refine wp_seq (c_hS S (.take 0 (.take 1 (.tk 5 10 (.pure 2 (.pure 3 (.pure 4 (.alts (.run 15 false (.alts (.run 16 false (.alts (.run 17 false .done .nil)) .nil)) .nil)))))))) 15 (.c0 .n) ⟨Res.stay_rowx,trivial⟩ [(9,(.i y64)),(0,(.s ch_0_0 ch_0_1 ch_0_2))] rfl (by kernel_rfl) ?_); clear S; intro w S CL hw le
      refine h_mv4 S CL hw le rfl trivial trivial trivial trivial fun a S CL=>h_bin S CL hw le (subR rfl) rfl rfl rfl rfl rfl trivial fun a S CL=>?_
      obtain ⟨c4,h3⟩:=chk_of h2; clear h2
      refine h_iaddrX S CL hw le (subR rfl) (ty':=g.T) rfl .h rfl h.hU h.hT c4.1 c4.2 rfl rfl trivial fun g1 a hA1 S CL=>h_ldXW S CL hw le (subR rfl) (i:=(wr .i64 (y64 - 1))) rfl hA1 .h h.hT c4.1 c4.2 rfl rfl rfl trivial fun ch1 a S CL=>h_mv2 S CL hw le rfl trivial trivial fun a S CL=>?_
      obtain ⟨c5,h4⟩:=chk_of h3; clear h3
      refine h_iaddrX S CL hw le (subR rfl) (ty':=g.T) rfl .h rfl h.hU h.hT c5.1 c5.2 rfl rfl trivial fun g2 a hA2 S CL=>h_ldXW S CL hw le (subR rfl) (i:=y64) rfl hA2 .h h.hT c5.1 c5.2 rfl rfl rfl trivial fun ch2 a S CL=>h_iaddrX S CL hw le (subR rfl) (ty':=g.T) rfl .h rfl h.hU h.hT c5.1 c5.2 rfl rfl trivial fun g3 a hA3 S CL=>p_move S rfl rfl rfl trivial fun a S=>p_move S rfl rfl rfl trivial fun a S=>p_bin S rfl rfl rfl rfl rfl trivial fun a S=>h_run' S rfl trivial ?_
      replace S:=S.rowu .h
      refine s_stRW S (i:=y64) (u:=gt y39 (wr .i64 (y64 - 1))) (cu:=ch1) rfl rfl hA3 .h h.hT c5.1 c5.2 rfl fun w S=>?_
      refine h_back ⟨fun h=>(nomatch h),?_⟩
      refine h_run' S rfl trivial ?_
      obtain ⟨c6,h5⟩:=chk_of h4; clear h4
      refine s_iaddrO S (ty':=g.T) rfl .h rfl h.hU h.hT c6.1 c6.2 rfl fun g4 a hA4 S=>?_
      refine h_back ⟨fun h=>(nomatch h),?_⟩
      refine h_run' S rfl trivial (s_stRW S (i:=(wr .i64 (y64 - 1))) (u:=gt y39 y64) (cu:=ch2) rfl rfl hA4 .h h.hT c6.1 c6.2 rfl fun w S=>?_)
      refine h_back ⟨fun h=>(nomatch h),?_⟩
      refine h_done ?_; clear CL hw le
      refine x_thenN (wp_seq_k fun K4 hK4=>?_)
      have j4:∀ m y69 a w,St 141 m b0 [(10,(.i y40)),(9,(.i y64)),(0,(.s ch_0_0 ch_0_1 ch_0_2)),(1,(.i x2)),(2,(.i x3)),(3,(.v (.func (.func g.fc) #[] #[])))] [Res.row g.T g.e ch_0_0 ch_0_1 ch_0_2 y69] a w→fa_.j4 g k x3 y40 (fa_.l1 g k x2 x3 q1) y64 y69=some r→K4 a w:=by
       intro m y69 a w S h0
       delta fa_.j4 at h0
       refine hK4 a w (c_region (s_mv2 S rfl fun a S=>s_bi S rfl fun a S=>s_bi S rfl fun a S=>c_end ?_))
       rcases ite_of h0 with ⟨c7,h1⟩ | ⟨c7,h1⟩
       ·refine c_condT S rfl c7 (c_region (s_mv1 S rfl fun a S=>s_bi S rfl fun a S=>s_as1 S rfl fun a S=>c_end (wp_block ?_)))
        refine c_loop (fun q2 a w=>∃ m y72 y73,St 141 m b0 [(12,(.i y73)),(10,(.i y40)),(9,(.i y64)),(0,(.s ch_0_0 ch_0_1 ch_0_2)),(1,(.i x2)),(2,(.i x3)),(3,(.v (.func (.func g.fc) #[] #[])))] [Res.row g.T g.e ch_0_0 ch_0_1 ch_0_2 y72] a w∧fa_.l2 g k x3 y40 (fa_.l1 g k x2 x3 q1) y64 q2 y72 y73=some r) ?_ ?_ (k:=k) ⟨_,y69,(wr .i64 (y64+1)),(S.sb rfl (.c0 .n)),h1⟩
        ·rintro a w ⟨m,y72,y73,S,h0⟩
         exact (nomatch (show (none:Option (Bool×(List g.α)))=some r from h0))
        ·clear S h1
         rintro q2 a w ⟨m,y72,y73,S,h0⟩
         replace h0:fa_.b2 g k x3 y40 (fa_.l1 g k x2 x3 q1) y64 (fa_.l2 g k x3 y40 (fa_.l1 g k x2 x3 q1) y64 q2) y72 y73=some r:=h0
         delta fa_.b2 at h0
         refine wp_seq (c_region (s_mv2 S rfl fun a S=>s_bi S rfl fun a S=>c_end ?_))
         rcases ite_of h0 with ⟨c8,h1⟩ | ⟨c8,h1⟩
         ·refine c_condT S rfl c8 (wp_skip (x_thenN (wp_seq (wp_block (wp_seq ?_)))))
          have hS:=S.rowx (fun _=> .h)
          clear S; obtain ⟨cs2,S⟩:=hS
          refine wp_seq (c_hS S (.tk 0 10 (.alts (.run 10 true (.take 11 (.take 12 .done)) .nil))) 13 (.c0 .n) ⟨Res.stay_rowx,trivial⟩ [(12,(.i y73)),(0,(.s ch_0_0 ch_0_1 ch_0_2)),(3,(.v (.func (.func g.fc) #[] #[])))] rfl (by kernel_rfl) ?_); clear S; intro w S CL hw le
          refine h_mv3 S CL hw le rfl trivial trivial trivial fun a S CL=>?_
          obtain ⟨c9,h2⟩:=chk_of h1; clear h1
          refine h_iaddrX S CL hw le (subR rfl) (ty':=g.T) rfl .h rfl h.hU h.hT c9.1 c9.2 rfl rfl trivial fun g31 a hA5 S CL=>h_ldXW S CL hw le (subR rfl) (i:=y73) rfl hA5 .h h.hT c9.1 c9.2 rfl rfl rfl trivial fun ch25 a S CL=>h_mv2 S CL hw le rfl trivial trivial fun a S CL=>h_bin S CL hw le (subR rfl) rfl rfl rfl rfl rfl trivial fun a S CL=>?_
          obtain ⟨c10,h3⟩:=chk_of h2; clear h2
          refine h_iaddrX S CL hw le (subR rfl) (ty':=g.T) rfl .h rfl h.hU h.hT c10.1 c10.2 rfl rfl trivial fun g32 a hA6 S CL=>h_ldXW S CL hw le (subR rfl) (i:=(wr .i64 (y73 - 1))) rfl hA6 .h h.hT c10.1 c10.2 rfl rfl rfl trivial fun ch26 a S CL=>h_run' S rfl trivial (bindX h3 fun t1 et1 h4=>s_callK S (h.hcmp et1) h.nc rfl .pre (fun _=> .n) rfl fun ch27 m le1 a w S=>?_)
          replace le:=le.trans le1
          refine CL.bk hw S (.c0 .n) le fun hw=>?_
          replace CL:=CL.add (t:=122) (d:=(.i t1)) S rfl rfl
          refine h_bin S CL hw le (subR rfl) rfl rfl rfl rfl rfl trivial fun a S CL=>h_not S CL hw le (subR rfl) rfl rfl rfl trivial fun a S CL=>?_
          refine h_done ?_; clear CL hw le
          replace S:=S.rowu .h
          refine x_thenN ?_
          rcases ite_of h4 with ⟨c11,h5⟩ | ⟨c11,h5⟩
          ·refine c_condT S rfl c11 (wp_exit (x_thenX (x_blockO (by decide) (x_thenX (x_thenX (x_blockX (x_blockN (x_thenN ?_))))))))
           exact j2 _ y72 y64 a w (S.sb rfl (.c0 .n)) h5
          ·refine c_condF S rfl c11 (wp_skip (x_thenN ?_))
           have hS:=S.rowx (fun _=> .h)
           clear S; obtain ⟨cs3,S⟩:=hS
           refine c_hS S (.take 0 (.take 1 (.tk 5 10 (.pure 2 (.pure 3 (.pure 4 (.alts (.run 15 false (.alts (.run 16 false (.alts (.run 17 false .done .nil)) .nil)) .nil)))))))) 15 (.c0 .n) ⟨Res.stay_rowx,trivial⟩ [(12,(.i y73)),(0,(.s ch_0_0 ch_0_1 ch_0_2))] rfl (by kernel_rfl) fun w S CL hw le=>?_
           refine h_mv4 S CL hw le rfl trivial trivial trivial trivial fun a S CL=>h_bin S CL hw le (subR rfl) rfl rfl rfl rfl rfl trivial fun a S CL=>h_iaddrX S CL hw le (subR rfl) (ty':=g.T) rfl .h rfl h.hU h.hT c10.1 c10.2 rfl rfl trivial fun g33 a hA7 S CL=>h_ldXW S CL hw le (subR rfl) (i:=(wr .i64 (y73 - 1))) rfl hA7 .h h.hT c10.1 c10.2 rfl rfl rfl trivial fun ch28 a S CL=>h_mv2 S CL hw le rfl trivial trivial fun a S CL=>h_iaddrX S CL hw le (subR rfl) (ty':=g.T) rfl .h rfl h.hU h.hT c9.1 c9.2 rfl rfl trivial fun g34 a hA8 S CL=>h_ldXW S CL hw le (subR rfl) (i:=y73) rfl hA8 .h h.hT c9.1 c9.2 rfl rfl rfl trivial fun ch29 a S CL=>h_iaddrX S CL hw le (subR rfl) (ty':=g.T) rfl .h rfl h.hU h.hT c9.1 c9.2 rfl rfl trivial fun g35 a hA9 S CL=>p_move S rfl rfl rfl trivial fun a S=>p_move S rfl rfl rfl trivial fun a S=>p_bin S rfl rfl rfl rfl rfl trivial fun a S=>h_run' S rfl trivial ?_
           replace S:=S.rowu .h
           refine s_stRW S (i:=y73) (u:=gt y72 (wr .i64 (y73 - 1))) (cu:=ch28) rfl rfl hA9 .h h.hT c9.1 c9.2 rfl fun w S=>?_
           refine h_back ⟨fun h=>(nomatch h),?_⟩
           refine h_run' S rfl trivial ?_
           obtain ⟨c12,h6⟩:=chk_of h5; clear h5
           refine s_iaddrO S (ty':=g.T) rfl .h rfl h.hU h.hT c12.1 c12.2 rfl fun g36 a hA10 S=>?_
           refine h_back ⟨fun h=>(nomatch h),?_⟩
           refine h_run' S rfl trivial (s_stRW S (i:=(wr .i64 (y73 - 1))) (u:=gt y72 y73) (cu:=ch29) rfl rfl hA10 .h h.hT c12.1 c12.2 rfl fun w S=>?_)
           refine h_back ⟨fun h=>(nomatch h),?_⟩
           refine h_done ?_; clear CL hw le
           refine x_blockN (x_thenN (c_region' (s_mv1 S rfl fun a S=>s_bi S rfl fun a S=>s_as1 S rfl fun a S=>c_end' (x_thenN ?_))))
           exact ⟨_,((y72.set (Int.toNat y73) (gt y72 (wr .i64 (y73 - 1)))).set (Int.toNat (wr .i64 (y73 - 1))) (gt y72 y73)),(wr .i64 (y73+1)),(S.sb rfl (.c0 .n)),h6⟩
         ·refine c_condF S rfl c8 (wp_exit (x_thenX (x_thenX (x_blockX (x_blockN (x_thenN ?_))))))
          exact j2 _ y72 y64 a w (S.sb rfl (.c0 .n)) h1
       ·refine c_condF S rfl c7 (wp_skip (x_blockN (x_thenN ?_)))
        exact j2 _ y69 y64 a w (S.sb rfl (.c0 .n)) h1
      refine c_region (s_mv2 S rfl fun a S=>s_bi S rfl fun a S=>s_bi S rfl fun a S=>c_end ?_)
      rcases ite_of h5 with ⟨c13,h6⟩ | ⟨c13,h6⟩
      ·refine c_condT S rfl c13 (c_region (s_mv1 S rfl fun a S=>s_bi S rfl fun a S=>s_as1 S rfl fun a S=>c_end (wp_block ?_)))
       refine c_loop (fun q3 a w=>∃ m y76 y77,St 141 m b0 [(11,(.i y77)),(10,(.i y40)),(9,(.i y64)),(0,(.s ch_0_0 ch_0_1 ch_0_2)),(1,(.i x2)),(2,(.i x3)),(3,(.v (.func (.func g.fc) #[] #[])))] [Res.row g.T g.e ch_0_0 ch_0_1 ch_0_2 y76] a w∧fa_.l3 g k x3 y40 (fa_.l1 g k x2 x3 q1) y64 q3 y76 y77=some r) ?_ ?_ (k:=k) ⟨_,((y39.set (Int.toNat y64) (gt y39 (wr .i64 (y64 - 1)))).set (Int.toNat (wr .i64 (y64 - 1))) (gt y39 y64)),(wr .i64 (y64 - 1)),(S.sb rfl (.c0 .n)),h6⟩
       ·rintro a w ⟨m,y76,y77,S,h0⟩
        exact (nomatch (show (none:Option (Bool×(List g.α)))=some r from h0))
       ·clear S h6
        rintro q3 a w ⟨m,y76,y77,S,h0⟩
        replace h0:fa_.b3 g k x3 y40 (fa_.l1 g k x2 x3 q1) y64 (fa_.l3 g k x3 y40 (fa_.l1 g k x2 x3 q1) y64 q3) y76 y77=some r:=h0
        delta fa_.b3 at h0
        refine wp_seq (c_region (s_mv1 S rfl fun a S=>s_bi S rfl fun a S=>c_end ?_))
        rcases ite_of h0 with ⟨c14,h1⟩ | ⟨c14,h1⟩
        ·refine c_condT S rfl c14 (wp_skip (x_thenN (wp_seq (wp_block (wp_seq ?_)))))
         have hS:=S.rowx (fun _=> .h)
         clear S; obtain ⟨cs4,S⟩:=hS
         refine wp_seq (c_hS S (.tk 0 10 (.alts (.run 10 true (.take 11 (.take 12 .done)) .nil))) 13 (.c0 .n) ⟨Res.stay_rowx,trivial⟩ [(11,(.i y77)),(0,(.s ch_0_0 ch_0_1 ch_0_2)),(3,(.v (.func (.func g.fc) #[] #[])))] rfl (by kernel_rfl) ?_); clear S; intro w S CL hw le
         refine h_mv3 S CL hw le rfl trivial trivial trivial fun a S CL=>?_
         obtain ⟨c15,h2⟩:=chk_of h1; clear h1
         refine h_iaddrX S CL hw le (subR rfl) (ty':=g.T) rfl .h rfl h.hU h.hT c15.1 c15.2 rfl rfl trivial fun g49 a hA11 S CL=>h_ldXW S CL hw le (subR rfl) (i:=y77) rfl hA11 .h h.hT c15.1 c15.2 rfl rfl rfl trivial fun ch40 a S CL=>h_mv2 S CL hw le rfl trivial trivial fun a S CL=>h_bin S CL hw le (subR rfl) rfl rfl rfl rfl rfl trivial fun a S CL=>?_
         obtain ⟨c16,h3⟩:=chk_of h2; clear h2
         refine h_iaddrX S CL hw le (subR rfl) (ty':=g.T) rfl .h rfl h.hU h.hT c16.1 c16.2 rfl rfl trivial fun g50 a hA12 S CL=>h_ldXW S CL hw le (subR rfl) (i:=(wr .i64 (y77 - 1))) rfl hA12 .h h.hT c16.1 c16.2 rfl rfl rfl trivial fun ch41 a S CL=>h_run' S rfl trivial (bindX h3 fun t4 et4 h4=>s_callK S (h.hcmp et4) h.nc rfl .pre (fun _=> .n) rfl fun ch42 m le1 a w S=>?_)
         replace le:=le.trans le1
         refine CL.bk hw S (.c0 .n) le fun hw=>?_
         replace CL:=CL.add (t:=82) (d:=(.i t4)) S rfl rfl
         refine h_bin S CL hw le (subR rfl) rfl rfl rfl rfl rfl trivial fun a S CL=>h_not S CL hw le (subR rfl) rfl rfl rfl trivial fun a S CL=>?_
         refine h_done ?_; clear CL hw le
         replace S:=S.rowu .h
         refine x_thenN ?_
         rcases ite_of h4 with ⟨c17,h5⟩ | ⟨c17,h5⟩
         ·refine c_condT S rfl c17 (wp_exit (x_thenX (x_blockO (by decide) (x_thenX (x_thenX (x_blockX (x_thenN ?_)))))))
          exact j4 _ y76 a w (S.sb rfl (.c0 .n)) h5
         ·refine c_condF S rfl c17 (wp_skip (x_thenN ?_))
          have hS:=S.rowx (fun _=> .h)
          clear S; obtain ⟨cs5,S⟩:=hS
          refine c_hS S (.take 0 (.take 1 (.tk 5 10 (.pure 2 (.pure 3 (.pure 4 (.alts (.run 15 false (.alts (.run 16 false (.alts (.run 17 false .done .nil)) .nil)) .nil)))))))) 15 (.c0 .n) ⟨Res.stay_rowx,trivial⟩ [(11,(.i y77)),(0,(.s ch_0_0 ch_0_1 ch_0_2))] rfl (by kernel_rfl) fun w S CL hw le=>?_
          refine h_mv4 S CL hw le rfl trivial trivial trivial trivial fun a S CL=>h_bin S CL hw le (subR rfl) rfl rfl rfl rfl rfl trivial fun a S CL=>h_iaddrX S CL hw le (subR rfl) (ty':=g.T) rfl .h rfl h.hU h.hT c16.1 c16.2 rfl rfl trivial fun g51 a hA13 S CL=>h_ldXW S CL hw le (subR rfl) (i:=(wr .i64 (y77 - 1))) rfl hA13 .h h.hT c16.1 c16.2 rfl rfl rfl trivial fun ch43 a S CL=>h_mv2 S CL hw le rfl trivial trivial fun a S CL=>h_iaddrX S CL hw le (subR rfl) (ty':=g.T) rfl .h rfl h.hU h.hT c15.1 c15.2 rfl rfl trivial fun g52 a hA14 S CL=>h_ldXW S CL hw le (subR rfl) (i:=y77) rfl hA14 .h h.hT c15.1 c15.2 rfl rfl rfl trivial fun ch44 a S CL=>h_iaddrX S CL hw le (subR rfl) (ty':=g.T) rfl .h rfl h.hU h.hT c15.1 c15.2 rfl rfl trivial fun g53 a hA15 S CL=>p_move S rfl rfl rfl trivial fun a S=>p_move S rfl rfl rfl trivial fun a S=>p_bin S rfl rfl rfl rfl rfl trivial fun a S=>h_run' S rfl trivial ?_
          replace S:=S.rowu .h
          refine s_stRW S (i:=y77) (u:=gt y76 (wr .i64 (y77 - 1))) (cu:=ch43) rfl rfl hA15 .h h.hT c15.1 c15.2 rfl fun w S=>?_
          refine h_back ⟨fun h=>(nomatch h),?_⟩
          refine h_run' S rfl trivial ?_
          obtain ⟨c18,h6⟩:=chk_of h5; clear h5
          refine s_iaddrO S (ty':=g.T) rfl .h rfl h.hU h.hT c18.1 c18.2 rfl fun g54 a hA16 S=>?_
          refine h_back ⟨fun h=>(nomatch h),?_⟩
          refine h_run' S rfl trivial (s_stRW S (i:=(wr .i64 (y77 - 1))) (u:=gt y76 y77) (cu:=ch44) rfl rfl hA16 .h h.hT c18.1 c18.2 rfl fun w S=>?_)
          refine h_back ⟨fun h=>(nomatch h),?_⟩
          refine h_done ?_; clear CL hw le
          refine x_blockN (x_thenN (c_region' (s_mv1 S rfl fun a S=>s_bi S rfl fun a S=>s_as1 S rfl fun a S=>c_end' (x_thenN ?_))))
          exact ⟨_,((y76.set (Int.toNat y77) (gt y76 (wr .i64 (y77 - 1)))).set (Int.toNat (wr .i64 (y77 - 1))) (gt y76 y77)),(wr .i64 (y77 - 1)),(S.sb rfl (.c0 .n)),h6⟩
        ·refine c_condF S rfl c14 (wp_exit (x_thenX (x_thenX (x_blockX (x_thenN ?_)))))
         exact j4 _ y76 a w (S.sb rfl (.c0 .n)) h1
      ·refine c_condF S rfl c13 (wp_skip (x_thenN ?_))
       exact j4 _ ((y39.set (Int.toNat y64) (gt y39 (wr .i64 (y64 - 1)))).set (Int.toNat (wr .i64 (y64 - 1))) (gt y39 y64)) a w (S.sb rfl (.c0 .n)) h6
   refine wp_block ?_
   refine c_loop (fun q4 a w=>∃ m y81,St 141 m b0 [(10,(.i y40)),(9,(.i y81)),(0,(.s ch_0_0 ch_0_1 ch_0_2)),(1,(.i x2)),(2,(.i x3)),(3,(.v (.func (.func g.fc) #[] #[])))] [Res.row g.T g.e ch_0_0 ch_0_1 ch_0_2 y39] a w∧fa_.l4 g k x2 x3 y39 y40 (fa_.l1 g k x2 x3 q1) q4 y81=some r) ?_ ?_ (k:=k) ⟨_,y41,(S.sb rfl (.c0 .n)),h1⟩
   ·rintro a w ⟨m,y81,S,h0⟩
    exact (nomatch (show (none:Option (Bool×(List g.α)))=some r from h0))
   ·clear S h1
    rintro q4 a w ⟨m,y81,S,h0⟩
    replace h0:fa_.b4 g k x2 x3 y39 y40 (fa_.l1 g k x2 x3 q1) (fa_.l4 g k x2 x3 y39 y40 (fa_.l1 g k x2 x3 q1) q4) y81=some r:=h0
    delta fa_.b4 at h0
    refine wp_seq (wp_seq_k fun K5 hK5=>?_)
    have j5:∀ m y82 a w,St 141 m b0 [(36,(.b y82)),(10,(.i y40)),(9,(.i y81)),(0,(.s ch_0_0 ch_0_1 ch_0_2)),(1,(.i x2)),(2,(.i x3)),(3,(.v (.func (.func g.fc) #[] #[])))] [Res.row g.T g.e ch_0_0 ch_0_1 ch_0_2 y39] a w→fa_.j5 g k x2 x3 y39 y40 (fa_.l1 g k x2 x3 q1) y81 (fa_.l4 g k x2 x3 y39 y40 (fa_.l1 g k x2 x3 q1) q4) y82=some r→K5 a w:=by
     intro m y82 a w S h0
     delta fa_.j5 at h0
     refine hK5 a w ?_
     rcases ite_of h0 with ⟨c19,h1⟩ | ⟨c19,h1⟩
     ·refine c_condT S rfl c19 (wp_skip (x_thenN (wp_block (c_region' (s_mv1 S rfl fun a S=>s_bi S rfl fun a S=>s_as1 S rfl fun a S=>c_end' (x_blockN (x_thenN ?_)))))))
      exact ⟨_,(wr .i64 (y81+1)),(S.sb rfl (.c0 .n)),h1⟩
     ·refine c_condF S rfl c19 (wp_exit (x_thenX (x_thenX (x_blockX (x_thenN ?_)))))
      exact j3 _ y81 a w (S.sb rfl (.c0 .n)) h1
    have hS:=S.rowx (fun _=> .h)
    clear S; obtain ⟨cs6,S⟩:=hS
    refine c_hS S (.tk 0 14 (.alts (.run 14 true (.tk 15 3 .done) .nil))) 18 (.c0 .n) ⟨Res.stay_rowx,trivial⟩ [(9,(.i y81)),(0,(.s ch_0_0 ch_0_1 ch_0_2)),(2,(.i x3)),(3,(.v (.func (.func g.fc) #[] #[])))] rfl (by kernel_rfl) fun w S CL hw le=>?_
    refine h_mv2 S CL hw le rfl trivial trivial fun a S CL=>h_bin S CL hw le (subR rfl) rfl rfl rfl rfl rfl trivial fun a S CL=>h_mv1 S CL hw le rfl trivial fun a S CL=>?_
    rcases ite_of h0 with ⟨c20,h1⟩ | ⟨c20,h1⟩
    ·refine h_mv3 S CL hw le rfl ⟨_,_,rfl,rfl,c20⟩ ⟨_,_,rfl,rfl,c20⟩ ⟨_,_,rfl,rfl,c20⟩ fun a S CL=>?_
     obtain ⟨c21,h2⟩:=chk_of h1; clear h1
     refine h_iaddrX S CL hw le (subR rfl) (ty':=g.T) rfl .h rfl h.hU h.hT c21.1 c21.2 rfl rfl ⟨_,_,rfl,rfl,c20⟩ fun g57 a hA17 S CL=>h_ldXW S CL hw le (subR rfl) (i:=y81) rfl hA17 .h h.hT c21.1 c21.2 rfl rfl rfl ⟨_,_,rfl,rfl,c20⟩ fun ch47 a S CL=>h_mv2 S CL hw le rfl ⟨_,_,rfl,rfl,c20⟩ ⟨_,_,rfl,rfl,c20⟩ fun a S CL=>h_bin S CL hw le (subR rfl) rfl rfl rfl rfl rfl ⟨_,_,rfl,rfl,c20⟩ fun a S CL=>?_
     obtain ⟨c22,h3⟩:=chk_of h2; clear h2
     refine h_iaddrX S CL hw le (subR rfl) (ty':=g.T) rfl .h rfl h.hU h.hT c22.1 c22.2 rfl rfl ⟨_,_,rfl,rfl,c20⟩ fun g58 a hA18 S CL=>h_ldXW S CL hw le (subR rfl) (i:=(wr .i64 (y81 - 1))) rfl hA18 .h h.hT c22.1 c22.2 rfl rfl rfl ⟨_,_,rfl,rfl,c20⟩ fun ch48 a S CL=>h_run' S rfl ⟨_,_,rfl,rfl,c20⟩ (bindX h3 fun t6 et6 h4=>s_callK S (h.hcmp et6) h.nc rfl .pre (fun _=> .n) rfl fun ch49 m le1 a w S=>?_)
     replace le:=le.trans le1
     refine CL.bk hw S (.c0 .n) le fun hw=>?_
     replace CL:=CL.add (t:=33) (d:=(.i t6)) S rfl rfl
     refine h_bin S CL hw le (subR rfl) rfl rfl rfl rfl rfl ⟨_,_,rfl,rfl,c20⟩ fun a S CL=>h_not S CL hw le (subR rfl) rfl rfl rfl ⟨_,_,rfl,rfl,c20⟩ fun a S CL=>h_pick S CL hw le (subR rfl) (b:=true) (hc_of rfl c20) rfl rfl rfl trivial fun a S CL=>?_
     refine h_done ?_; clear CL hw le
     replace S:=S.rowu .h
     refine x_thenN ?_
     exact j5 _ (!(decide (t6<0))) a w (S.sb rfl (.c0 .n)) h4
    ·refine h_sk8 S CL rfl (ne_bool c20) fun a S CL=>h_sk2 S CL rfl (ne_bool c20) fun a S CL=>h_skipRt S rfl rfl rfl (ne_bool c20) rfl fun a S=>CL.bk hw S (.c0 .n) le fun hw=>?_
     replace CL:=CL.add (t:=33) (d:= .u) S rfl rfl
     refine h_sk2 S CL rfl (ne_bool c20) fun a S CL=>h_pick S CL hw le (subR rfl) (b:=false) (hc_of rfl c20) rfl rfl rfl trivial fun a S CL=>?_
     refine h_done ?_; clear CL hw le
     replace S:=S.rowu .h
     refine x_thenN ?_
     exact j5 _ false a w (S.sb rfl (.c0 .n)) h1
  ·refine c_condF S rfl c1 (wp_exit (x_thenX (x_thenX (x_blockX (x_thenN ?_)))))
   exact j1 _ y39 a w (S.sub trivial (.c0 .n)) h1
abbrev fa7_.Ty (g:SortG):Type:=(List g.α)→Int→Int→Int→Option (Int×(List g.α))
def fa7_.Ctr (g:SortG)(s:fa7_.Ty g):Prop:=∀ {x1:List g.α} {x2:Int} {x3:Int} {x4:Int} {ch_0_0:Option Addr} {ch_0_1:Nat} {ch_0_2:Nat} {r:Int×(List g.α)} (h0:s x1 x2 x3 x4=some r) {mi:Mem} {w0:World},CtrB Tryz.prog (g.φ 119) [(.s ch_0_0 ch_0_1 ch_0_2),(.i x2),(.i x3),(.i x4),(.v (.func (.func g.fc) #[] #[]))] [Res.row g.T g.e ch_0_0 ch_0_1 ch_0_2 x1] (fun (ch:Unit)=>((.i r.1):D)) (fun (ch:Unit)=>[Res.row g.T g.e ch_0_0 ch_0_1 ch_0_2 r.2]) mi w0
def fa7_.j1 (g:SortG)(y1:List g.α)(y2:Int):Option (Int×(List g.α)):=some (y2,y1)
def fa7_.j3 (g:SortG)(y30:List g.α)(rec1:(List g.α)→Int→Int→Option (Int×(List g.α)))(y38:Int)(y44:Int):Option (Int×(List g.α)):=if (decide (y44<y38))=true then (fa7_.j1 g y30 y38) else (if (0:Int)≤y44∧y44<((y30).length:Int) then (if (0:Int)≤y38∧y38<((y30).length:Int) then (if (0:Int)≤y44∧y44<((y30.set (Int.toNat y38) (gt y30 y44)).length:Int) then (rec1 ((y30.set (Int.toNat y38) (gt y30 y44)).set (Int.toNat y44) (gt y30 y38)) (wr .i64 (y44 - 1)) (wr .i64 (y38+1))) else none) else none) else none)
def fa7_.j4 (g:SortG)(y30:List g.α)(rec1:(List g.α)→Int→Int→Option (Int×(List g.α)))(y38:Int)(y48:Int)(rec2:Int→Option (Int×(List g.α)))(y49:Bool):Option (Int×(List g.α)):=if y49=true then (rec2 (wr .i64 (y48 - 1))) else (fa7_.j3 g y30 rec1 y38 y48)
def fa7_.b2 (g:SortG)(k:Nat)(x2:Int)(y30:List g.α)(rec1:(List g.α)→Int→Int→Option (Int×(List g.α)))(y38:Int)(rec2:Int→Option (Int×(List g.α)))(y48:Int):Option (Int×(List g.α)):=if (decide (y38≤y48))=true then (if (0:Int)≤x2∧x2<((y30).length:Int) then (if (0:Int)≤y48∧y48<((y30).length:Int) then ((g.cmp k (gt y30 x2) (gt y30 y48)).bind fun t1=>(fa7_.j4 g y30 rec1 y38 y48 rec2 (decide (t1<0)))) else none) else none) else (fa7_.j4 g y30 rec1 y38 y48 rec2 false)
def fa7_.l2 (g:SortG)(k:Nat)(x2:Int)(y30:List g.α)(rec1:(List g.α)→Int→Int→Option (Int×(List g.α)))(y38:Int):Nat→Int→Option (Int×(List g.α))
  | 0,_=>none
  | q+1,y48=>fa7_.b2 g k x2 y30 rec1 y38 (fa7_.l2 g k x2 y30 rec1 y38 q) y48
def fa7_.j2 (g:SortG)(k:Nat)(x2:Int)(y30:List g.α)(y31:Int)(rec1:(List g.α)→Int→Int→Option (Int×(List g.α)))(y38:Int):Option (Int×(List g.α)):=fa7_.l2 g k x2 y30 rec1 y38 k y31
def fa7_.j5 (g:SortG)(k:Nat)(x2:Int)(y30:List g.α)(y31:Int)(rec1:(List g.α)→Int→Int→Option (Int×(List g.α)))(y53:Int)(rec3:Int→Option (Int×(List g.α)))(y54:Bool):Option (Int×(List g.α)):=if y54=true then (rec3 (wr .i64 (y53+1))) else (fa7_.j2 g k x2 y30 y31 rec1 y53)
def fa7_.b3 (g:SortG)(k:Nat)(x2:Int)(y30:List g.α)(y31:Int)(rec1:(List g.α)→Int→Int→Option (Int×(List g.α)))(rec3:Int→Option (Int×(List g.α)))(y53:Int):Option (Int×(List g.α)):=if (decide (y53≤y31))=true then (if (0:Int)≤x2∧x2<((y30).length:Int) then (if (0:Int)≤y53∧y53<((y30).length:Int) then ((g.cmp k (gt y30 x2) (gt y30 y53)).bind fun t3=>(fa7_.j5 g k x2 y30 y31 rec1 y53 rec3 (!(decide (t3<0))))) else none) else none) else (fa7_.j5 g k x2 y30 y31 rec1 y53 rec3 false)
def fa7_.l3 (g:SortG)(k:Nat)(x2:Int)(y30:List g.α)(y31:Int)(rec1:(List g.α)→Int→Int→Option (Int×(List g.α))):Nat→Int→Option (Int×(List g.α))
  | 0,_=>none
  | q+1,y53=>fa7_.b3 g k x2 y30 y31 rec1 (fa7_.l3 g k x2 y30 y31 rec1 q) y53
def fa7_.b1 (g:SortG)(k:Nat)(x2:Int)(rec1:(List g.α)→Int→Int→Option (Int×(List g.α)))(y30:List g.α)(y31:Int)(y32:Int):Option (Int×(List g.α)):=fa7_.l3 g k x2 y30 y31 rec1 k y32
def fa7_.l1 (g:SortG)(k:Nat)(x2:Int):Nat→(List g.α)→Int→Int→Option (Int×(List g.α))
  | 0,_,_,_=>none
  | q+1,y30,y31,y32=>fa7_.b1 g k x2 (fa7_.l1 g k x2 q) y30 y31 y32
def fa7_.f (g:SortG)(k:Nat)(x1:List g.α)(x2:Int)(x3:Int)(x4:Int):Option (Int×(List g.α)):=if (0:Int)≤x4∧x4<((x1).length:Int) then (if (0:Int)≤x2∧x2<((x1).length:Int) then (if (0:Int)≤x4∧x4<((x1.set (Int.toNat x2) (gt x1 x4)).length:Int) then (fa7_.l1 g k x2 k ((x1.set (Int.toNat x2) (gt x1 x4)).set (Int.toNat x4) (gt x1 x2)) (wr .i64 (x3 - 1)) (wr .i64 (x2+1))) else none) else none) else none
theorem fa7_.ok (g:SortG)(h:SortG.Ok g)(k:Nat):fa7_.Ctr g (fa7_.f g k):=by
 intro x1 x2 x3 x4 ch_0_0 ch_0_1 ch_0_2 r h0 mi w0 ok hm
 delta fa7_.f at h0
 refine c_enterG (n:=90) [(.s ch_0_0 ch_0_1 ch_0_2),(.i x2),(.i x3),(.i x4),(.v (.func (.func g.fc) #[] #[]))] (l:=[(0,(.s ch_0_0 ch_0_1 ch_0_2)),(1,(.i x2)),(2,(.i x3)),(3,(.i x4)),(4,(.v (.func (.func g.fc) #[] #[])))]) h.n119 rfl rfl rfl ok hm ?_
 clear ok hm
 intro b0 hb a S
 refine c_region (s_as1 S rfl fun a S=>c_end ?_)
 have hS:=S.rowx (fun _=> .h)
 clear S; obtain ⟨cs1,S⟩:=hS
 refine wp_seq (c_hS S (.take 0 (.take 1 (.tk 4 9 (.pure 2 (.pure 3 (.alts (.run 13 false (.alts (.run 14 false (.alts (.run 15 false .done .nil)) .nil)) .nil))))))) 13 (.c0 .n) ⟨Res.stay_rowx,trivial⟩ [(0,(.s ch_0_0 ch_0_1 ch_0_2)),(1,(.i x2)),(3,(.i x4))] rfl (by kernel_rfl) ?_); clear S; intro w S CL hw le
 refine h_mv4 S CL hw le rfl trivial trivial trivial trivial fun a S CL=>?_
 obtain ⟨c1,h1⟩:=chk_of h0; clear h0
 refine h_iaddrX S CL hw le (subR rfl) (ty':=g.T) rfl .h rfl h.hU h.hT c1.1 c1.2 rfl rfl trivial fun g1 a hA1 S CL=>h_ldXW S CL hw le (subR rfl) (i:=x4) rfl hA1 .h h.hT c1.1 c1.2 rfl rfl rfl trivial fun ch1 a S CL=>h_mv2 S CL hw le rfl trivial trivial fun a S CL=>?_
 obtain ⟨c2,h2⟩:=chk_of h1; clear h1
 refine h_iaddrX S CL hw le (subR rfl) (ty':=g.T) rfl .h rfl h.hU h.hT c2.1 c2.2 rfl rfl trivial fun g2 a hA2 S CL=>h_ldXW S CL hw le (subR rfl) (i:=x2) rfl hA2 .h h.hT c2.1 c2.2 rfl rfl rfl trivial fun ch2 a S CL=>h_iaddrX S CL hw le (subR rfl) (ty':=g.T) rfl .h rfl h.hU h.hT c2.1 c2.2 rfl rfl trivial fun g3 a hA3 S CL=>p_move S rfl rfl rfl trivial fun a S=>p_move S rfl rfl rfl trivial fun a S=>h_run' S rfl trivial ?_
 replace S:=S.rowu .h
 refine s_stRW S (i:=x2) (u:=gt x1 x4) (cu:=ch1) rfl rfl hA3 .h h.hT c2.1 c2.2 rfl fun w S=>?_
 refine h_back ⟨fun h=>(nomatch h),?_⟩
 refine h_run' S rfl trivial ?_
 obtain ⟨c3,h3⟩:=chk_of h2; clear h2
 refine s_iaddrO S (ty':=g.T) rfl .h rfl h.hU h.hT c3.1 c3.2 rfl fun g4 a hA4 S=>?_
 refine h_back ⟨fun h=>(nomatch h),?_⟩
 refine h_run' S rfl trivial (s_stRW S (i:=x4) (u:=gt x1 x2) (cu:=ch2) rfl rfl hA4 .h h.hT c3.1 c3.2 rfl fun w S=>?_)
 refine h_back ⟨fun h=>(nomatch h),?_⟩
 refine h_done ?_; clear CL hw le
 refine x_thenN (c_region (s_mv1 S rfl fun a S=>s_bi S rfl fun a S=>s_mv1 S rfl fun a S=>s_bi S rfl fun a S=>s_as2 S rfl fun a S=>c_end (wp_seq_k fun K1 hK1=>?_)))
 have j1:∀ m y1 y2 a w,St 90 m b0 [(11,(.i y2))] [Res.row g.T g.e ch_0_0 ch_0_1 ch_0_2 y1] a w→fa7_.j1 g y1 y2=some r→K1 a w:=by
  intro m y1 y2 a w S h0
  delta fa7_.j1 at h0
  refine hK1 a w (c_region (s_mv1 S rfl fun a S=>s_as1 S rfl fun a S=>c_end (wp_ret ?_)))
  obtain rfl:=Option.some.inj h0
  exact b_ret1 (d:=(.i y2)) S rfl rfl fun ok=>S.retX (Hx:=[]) hb _ _ (():Unit) (.c0 .n) ok
 refine wp_block ?_
 refine c_loop (fun q1 a w=>∃ m y30 y31 y32,St 90 m b0 [(12,(.i y31)),(11,(.i y32)),(0,(.s ch_0_0 ch_0_1 ch_0_2)),(1,(.i x2)),(4,(.v (.func (.func g.fc) #[] #[])))] [Res.row g.T g.e ch_0_0 ch_0_1 ch_0_2 y30] a w∧fa7_.l1 g k x2 q1 y30 y31 y32=some r) ?_ ?_ (k:=k) ⟨_,((x1.set (Int.toNat x2) (gt x1 x4)).set (Int.toNat x4) (gt x1 x2)),(wr .i64 (x3 - 1)),(wr .i64 (x2+1)),(S.sb rfl (.c0 .n)),h3⟩
 ·rintro a w ⟨m,y30,y31,y32,S,h0⟩
  exact (nomatch (show (none:Option (Int×(List g.α)))=some r from h0))
 ·clear S h3
  rintro q1 a w ⟨m,y30,y31,y32,S,h0⟩
  replace h0:fa7_.b1 g k x2 (fa7_.l1 g k x2 q1) y30 y31 y32=some r:=h0
  delta fa7_.b1 at h0
  refine wp_block (wp_seq_k fun K2 hK2=>?_)
  have j2:∀ m y38 a w,St 90 m b0 [(12,(.i y31)),(11,(.i y38)),(0,(.s ch_0_0 ch_0_1 ch_0_2)),(1,(.i x2)),(4,(.v (.func (.func g.fc) #[] #[])))] [Res.row g.T g.e ch_0_0 ch_0_1 ch_0_2 y30] a w→fa7_.j2 g k x2 y30 y31 (fa7_.l1 g k x2 q1) y38=some r→K2 a w:=by
   intro m y38 a w S h0
   delta fa7_.j2 at h0
   refine hK2 a w (wp_seq_k fun K3 hK3=>?_)
   have j3:∀ m y44 a w,St 90 m b0 [(12,(.i y44)),(11,(.i y38)),(0,(.s ch_0_0 ch_0_1 ch_0_2)),(1,(.i x2)),(4,(.v (.func (.func g.fc) #[] #[])))] [Res.row g.T g.e ch_0_0 ch_0_1 ch_0_2 y30] a w→fa7_.j3 g y30 (fa7_.l1 g k x2 q1) y38 y44=some r→K3 a w:=by
    intro m y44 a w S h0
    delta fa7_.j3 at h0
    refine hK3 a w (wp_seq (c_region (s_mv2 S rfl fun a S=>s_bi S rfl fun a S=>c_end ?_)))
    rcases ite_of h0 with ⟨c4,h1⟩ | ⟨c4,h1⟩
    ·refine c_condT S rfl c4 (wp_exit (x_thenX (x_blockO (by decide) (x_thenX (x_blockX (x_thenN ?_))))))
     exact j1 _ y30 y38 a w (S.sub ⟨rfl,trivial⟩ (.c0 .n)) h1
    ·refine c_condF S rfl c4 (wp_skip (x_thenN ?_))
     have hS:=S.rowx (fun _=> .h)
     clear S; obtain ⟨cs2,S⟩:=hS
     refine wp_seq (c_hS S (.take 0 (.take 1 (.tk 4 9 (.pure 2 (.pure 3 (.alts (.run 13 false (.alts (.run 14 false (.alts (.run 15 false .done .nil)) .nil)) .nil))))))) 13 (.c0 .n) ⟨Res.stay_rowx,trivial⟩ [(12,(.i y44)),(11,(.i y38)),(0,(.s ch_0_0 ch_0_1 ch_0_2))] rfl (by kernel_rfl) ?_); clear S; intro w S CL hw le
     refine h_mv4 S CL hw le rfl trivial trivial trivial trivial fun a S CL=>?_
     obtain ⟨c5,h2⟩:=chk_of h1; clear h1
     refine h_iaddrX S CL hw le (subR rfl) (ty':=g.T) rfl .h rfl h.hU h.hT c5.1 c5.2 rfl rfl trivial fun g13 a hA5 S CL=>h_ldXW S CL hw le (subR rfl) (i:=y44) rfl hA5 .h h.hT c5.1 c5.2 rfl rfl rfl trivial fun ch7 a S CL=>h_mv2 S CL hw le rfl trivial trivial fun a S CL=>?_
     obtain ⟨c6,h3⟩:=chk_of h2; clear h2
     refine h_iaddrX S CL hw le (subR rfl) (ty':=g.T) rfl .h rfl h.hU h.hT c6.1 c6.2 rfl rfl trivial fun g14 a hA6 S CL=>h_ldXW S CL hw le (subR rfl) (i:=y38) rfl hA6 .h h.hT c6.1 c6.2 rfl rfl rfl trivial fun ch8 a S CL=>h_iaddrX S CL hw le (subR rfl) (ty':=g.T) rfl .h rfl h.hU h.hT c6.1 c6.2 rfl rfl trivial fun g15 a hA7 S CL=>p_move S rfl rfl rfl trivial fun a S=>p_move S rfl rfl rfl trivial fun a S=>h_run' S rfl trivial ?_
     replace S:=S.rowu .h
     refine s_stRW S (i:=y38) (u:=gt y30 y44) (cu:=ch7) rfl rfl hA7 .h h.hT c6.1 c6.2 rfl fun w S=>?_
     refine h_back ⟨fun h=>(nomatch h),?_⟩
     refine h_run' S rfl trivial ?_
     obtain ⟨c7,h4⟩:=chk_of h3; clear h3
     refine s_iaddrO S (ty':=g.T) rfl .h rfl h.hU h.hT c7.1 c7.2 rfl fun g16 a hA8 S=>?_
     refine h_back ⟨fun h=>(nomatch h),?_⟩
     refine h_run' S rfl trivial (s_stRW S (i:=y44) (u:=gt y30 y38) (cu:=ch8) rfl rfl hA8 .h h.hT c7.1 c7.2 rfl fun w S=>?_)
     refine h_back ⟨fun h=>(nomatch h),?_⟩
     refine h_done ?_; clear CL hw le
     refine x_thenN (c_region (s_mv1 S rfl fun a S=>s_bi S rfl fun a S=>s_as1 S rfl fun a S=>c_end (c_region' (s_mv1 S rfl fun a S=>s_bi S rfl fun a S=>s_as1 S rfl fun a S=>c_end' (x_blockN (x_thenN ?_))))))
     exact ⟨_,((y30.set (Int.toNat y38) (gt y30 y44)).set (Int.toNat y44) (gt y30 y38)),(wr .i64 (y44 - 1)),(wr .i64 (y38+1)),(S.sb rfl (.c0 .n)),h4⟩
   refine wp_block ?_
   refine c_loop (fun q2 a w=>∃ m y48,St 90 m b0 [(12,(.i y48)),(11,(.i y38)),(0,(.s ch_0_0 ch_0_1 ch_0_2)),(1,(.i x2)),(4,(.v (.func (.func g.fc) #[] #[])))] [Res.row g.T g.e ch_0_0 ch_0_1 ch_0_2 y30] a w∧fa7_.l2 g k x2 y30 (fa7_.l1 g k x2 q1) y38 q2 y48=some r) ?_ ?_ (k:=k) ⟨_,y31,(S.sb rfl (.c0 .n)),h0⟩
   ·rintro a w ⟨m,y48,S,h0⟩
    exact (nomatch (show (none:Option (Int×(List g.α)))=some r from h0))
   ·clear S h0
    rintro q2 a w ⟨m,y48,S,h0⟩
    replace h0:fa7_.b2 g k x2 y30 (fa7_.l1 g k x2 q1) y38 (fa7_.l2 g k x2 y30 (fa7_.l1 g k x2 q1) y38 q2) y48=some r:=h0
    delta fa7_.b2 at h0
    refine wp_seq (wp_seq_k fun K4 hK4=>?_)
    have j4:∀ m y49 a w,St 90 m b0 [(65,(.b y49)),(12,(.i y48)),(11,(.i y38)),(0,(.s ch_0_0 ch_0_1 ch_0_2)),(1,(.i x2)),(4,(.v (.func (.func g.fc) #[] #[])))] [Res.row g.T g.e ch_0_0 ch_0_1 ch_0_2 y30] a w→fa7_.j4 g y30 (fa7_.l1 g k x2 q1) y38 y48 (fa7_.l2 g k x2 y30 (fa7_.l1 g k x2 q1) y38 q2) y49=some r→K4 a w:=by
     intro m y49 a w S h0
     delta fa7_.j4 at h0
     refine hK4 a w ?_
     rcases ite_of h0 with ⟨c8,h1⟩ | ⟨c8,h1⟩
     ·refine c_condT S rfl c8 (wp_skip (x_thenN (wp_block (c_region' (s_mv1 S rfl fun a S=>s_bi S rfl fun a S=>s_as1 S rfl fun a S=>c_end' (x_blockN (x_thenN ?_)))))))
      exact ⟨_,(wr .i64 (y48 - 1)),(S.sb rfl (.c0 .n)),h1⟩
     ·refine c_condF S rfl c8 (wp_exit (x_thenX (x_thenX (x_blockX (x_thenN ?_)))))
      exact j3 _ y48 a w (S.sb rfl (.c0 .n)) h1
    have hS:=S.rowx (fun _=> .h)
    clear S; obtain ⟨cs3,S⟩:=hS
    refine c_hS S (.tk 0 13 (.alts (.run 13 true (.take 14 (.take 15 .done)) .nil))) 16 (.c0 .n) ⟨Res.stay_rowx,trivial⟩ [(12,(.i y48)),(11,(.i y38)),(0,(.s ch_0_0 ch_0_1 ch_0_2)),(1,(.i x2)),(4,(.v (.func (.func g.fc) #[] #[])))] rfl (by kernel_rfl) fun w S CL hw le=>?_
    refine h_mv2 S CL hw le rfl trivial trivial fun a S CL=>h_bin S CL hw le (subR rfl) rfl rfl rfl rfl rfl trivial fun a S CL=>h_mv1 S CL hw le rfl trivial fun a S CL=>?_
    rcases ite_of h0 with ⟨c9,h1⟩ | ⟨c9,h1⟩
    ·refine h_mv3 S CL hw le rfl ⟨_,_,rfl,rfl,c9⟩ ⟨_,_,rfl,rfl,c9⟩ ⟨_,_,rfl,rfl,c9⟩ fun a S CL=>?_
     obtain ⟨c10,h2⟩:=chk_of h1; clear h1
     refine h_iaddrX S CL hw le (subR rfl) (ty':=g.T) rfl .h rfl h.hU h.hT c10.1 c10.2 rfl rfl ⟨_,_,rfl,rfl,c9⟩ fun g19 a hA9 S CL=>h_ldXW S CL hw le (subR rfl) (i:=x2) rfl hA9 .h h.hT c10.1 c10.2 rfl rfl rfl ⟨_,_,rfl,rfl,c9⟩ fun ch11 a S CL=>h_mv2 S CL hw le rfl ⟨_,_,rfl,rfl,c9⟩ ⟨_,_,rfl,rfl,c9⟩ fun a S CL=>?_
     obtain ⟨c11,h3⟩:=chk_of h2; clear h2
     refine h_iaddrX S CL hw le (subR rfl) (ty':=g.T) rfl .h rfl h.hU h.hT c11.1 c11.2 rfl rfl ⟨_,_,rfl,rfl,c9⟩ fun g20 a hA10 S CL=>h_ldXW S CL hw le (subR rfl) (i:=y48) rfl hA10 .h h.hT c11.1 c11.2 rfl rfl rfl ⟨_,_,rfl,rfl,c9⟩ fun ch12 a S CL=>h_run' S rfl ⟨_,_,rfl,rfl,c9⟩ (bindX h3 fun t1 et1 h4=>s_callK S (h.hcmp et1) h.nc rfl .pre (fun _=> .n) rfl fun ch13 m le1 a w S=>?_)
     replace le:=le.trans le1
     refine CL.bk hw S (.c0 .n) le fun hw=>?_
     replace CL:=CL.add (t:=63) (d:=(.i t1)) S rfl rfl
     refine h_bin S CL hw le (subR rfl) rfl rfl rfl rfl rfl ⟨_,_,rfl,rfl,c9⟩ fun a S CL=>h_pick S CL hw le (subR rfl) (b:=true) (hc_of rfl c9) rfl rfl rfl trivial fun a S CL=>?_
     refine h_done ?_; clear CL hw le
     replace S:=S.rowu .h
     refine x_thenN ?_
     exact j4 _ (decide (t1<0)) a w (S.sb rfl (.c0 .n)) h4
    ·refine h_sk8 S CL rfl (ne_bool c9) fun a S CL=>h_sk1 S CL rfl (ne_bool c9) fun a S CL=>h_skipRt S rfl rfl rfl (ne_bool c9) rfl fun a S=>CL.bk hw S (.c0 .n) le fun hw=>?_
     replace CL:=CL.add (t:=63) (d:= .u) S rfl rfl
     refine h_sk1 S CL rfl (ne_bool c9) fun a S CL=>h_pick S CL hw le (subR rfl) (b:=false) (hc_of rfl c9) rfl rfl rfl trivial fun a S CL=>?_
     refine h_done ?_; clear CL hw le
     replace S:=S.rowu .h
     refine x_thenN ?_
     exact j4 _ false a w (S.sb rfl (.c0 .n)) h1
  refine wp_block ?_
  refine c_loop (fun q3 a w=>∃ m y53,St 90 m b0 [(12,(.i y31)),(11,(.i y53)),(0,(.s ch_0_0 ch_0_1 ch_0_2)),(1,(.i x2)),(4,(.v (.func (.func g.fc) #[] #[])))] [Res.row g.T g.e ch_0_0 ch_0_1 ch_0_2 y30] a w∧fa7_.l3 g k x2 y30 y31 (fa7_.l1 g k x2 q1) q3 y53=some r) ?_ ?_ (k:=k) ⟨_,y32,(S.sb rfl (.c0 .n)),h0⟩
  ·rintro a w ⟨m,y53,S,h0⟩
   exact (nomatch (show (none:Option (Int×(List g.α)))=some r from h0))
  ·clear S h0
   rintro q3 a w ⟨m,y53,S,h0⟩
   replace h0:fa7_.b3 g k x2 y30 y31 (fa7_.l1 g k x2 q1) (fa7_.l3 g k x2 y30 y31 (fa7_.l1 g k x2 q1) q3) y53=some r:=h0
   delta fa7_.b3 at h0
   refine wp_seq (wp_seq_k fun K5 hK5=>?_)
   have j5:∀ m y54 a w,St 90 m b0 [(47,(.b y54)),(12,(.i y31)),(11,(.i y53)),(0,(.s ch_0_0 ch_0_1 ch_0_2)),(1,(.i x2)),(4,(.v (.func (.func g.fc) #[] #[])))] [Res.row g.T g.e ch_0_0 ch_0_1 ch_0_2 y30] a w→fa7_.j5 g k x2 y30 y31 (fa7_.l1 g k x2 q1) y53 (fa7_.l3 g k x2 y30 y31 (fa7_.l1 g k x2 q1) q3) y54=some r→K5 a w:=by
    intro m y54 a w S h0
    delta fa7_.j5 at h0
    refine hK5 a w ?_
    rcases ite_of h0 with ⟨c12,h1⟩ | ⟨c12,h1⟩
    ·refine c_condT S rfl c12 (wp_skip (x_thenN (wp_block (c_region' (s_mv1 S rfl fun a S=>s_bi S rfl fun a S=>s_as1 S rfl fun a S=>c_end' (x_blockN (x_thenN ?_)))))))
     exact ⟨_,(wr .i64 (y53+1)),(S.sb rfl (.c0 .n)),h1⟩
    ·refine c_condF S rfl c12 (wp_exit (x_thenX (x_thenX (x_blockX (x_thenN ?_)))))
     exact j2 _ y53 a w (S.sb rfl (.c0 .n)) h1
   have hS:=S.rowx (fun _=> .h)
   clear S; obtain ⟨cs4,S⟩:=hS
   refine c_hS S (.tk 0 13 (.alts (.run 13 true (.tk 14 3 .done) .nil))) 17 (.c0 .n) ⟨Res.stay_rowx,trivial⟩ [(12,(.i y31)),(11,(.i y53)),(0,(.s ch_0_0 ch_0_1 ch_0_2)),(1,(.i x2)),(4,(.v (.func (.func g.fc) #[] #[])))] rfl (by kernel_rfl) fun w S CL hw le=>?_
   refine h_mv2 S CL hw le rfl trivial trivial fun a S CL=>h_bin S CL hw le (subR rfl) rfl rfl rfl rfl rfl trivial fun a S CL=>h_mv1 S CL hw le rfl trivial fun a S CL=>?_
   rcases ite_of h0 with ⟨c13,h1⟩ | ⟨c13,h1⟩
   ·refine h_mv3 S CL hw le rfl ⟨_,_,rfl,rfl,c13⟩ ⟨_,_,rfl,rfl,c13⟩ ⟨_,_,rfl,rfl,c13⟩ fun a S CL=>?_
    obtain ⟨c14,h2⟩:=chk_of h1; clear h1
    refine h_iaddrX S CL hw le (subR rfl) (ty':=g.T) rfl .h rfl h.hU h.hT c14.1 c14.2 rfl rfl ⟨_,_,rfl,rfl,c13⟩ fun g23 a hA11 S CL=>h_ldXW S CL hw le (subR rfl) (i:=x2) rfl hA11 .h h.hT c14.1 c14.2 rfl rfl rfl ⟨_,_,rfl,rfl,c13⟩ fun ch16 a S CL=>h_mv2 S CL hw le rfl ⟨_,_,rfl,rfl,c13⟩ ⟨_,_,rfl,rfl,c13⟩ fun a S CL=>?_
    obtain ⟨c15,h3⟩:=chk_of h2; clear h2
    refine h_iaddrX S CL hw le (subR rfl) (ty':=g.T) rfl .h rfl h.hU h.hT c15.1 c15.2 rfl rfl ⟨_,_,rfl,rfl,c13⟩ fun g24 a hA12 S CL=>h_ldXW S CL hw le (subR rfl) (i:=y53) rfl hA12 .h h.hT c15.1 c15.2 rfl rfl rfl ⟨_,_,rfl,rfl,c13⟩ fun ch17 a S CL=>h_run' S rfl ⟨_,_,rfl,rfl,c13⟩ (bindX h3 fun t3 et3 h4=>s_callK S (h.hcmp et3) h.nc rfl .pre (fun _=> .n) rfl fun ch18 m le1 a w S=>?_)
    replace le:=le.trans le1
    refine CL.bk hw S (.c0 .n) le fun hw=>?_
    replace CL:=CL.add (t:=44) (d:=(.i t3)) S rfl rfl
    refine h_bin S CL hw le (subR rfl) rfl rfl rfl rfl rfl ⟨_,_,rfl,rfl,c13⟩ fun a S CL=>h_not S CL hw le (subR rfl) rfl rfl rfl ⟨_,_,rfl,rfl,c13⟩ fun a S CL=>h_pick S CL hw le (subR rfl) (b:=true) (hc_of rfl c13) rfl rfl rfl trivial fun a S CL=>?_
    refine h_done ?_; clear CL hw le
    replace S:=S.rowu .h
    refine x_thenN ?_
    exact j5 _ (!(decide (t3<0))) a w (S.sb rfl (.c0 .n)) h4
   ·refine h_sk8 S CL rfl (ne_bool c13) fun a S CL=>h_sk1 S CL rfl (ne_bool c13) fun a S CL=>h_skipRt S rfl rfl rfl (ne_bool c13) rfl fun a S=>CL.bk hw S (.c0 .n) le fun hw=>?_
    replace CL:=CL.add (t:=44) (d:= .u) S rfl rfl
    refine h_sk2 S CL rfl (ne_bool c13) fun a S CL=>h_pick S CL hw le (subR rfl) (b:=false) (hc_of rfl c13) rfl rfl rfl trivial fun a S CL=>?_
    refine h_done ?_; clear CL hw le
    replace S:=S.rowu .h
    refine x_thenN ?_
    exact j5 _ false a w (S.sb rfl (.c0 .n)) h1
end
end GW
