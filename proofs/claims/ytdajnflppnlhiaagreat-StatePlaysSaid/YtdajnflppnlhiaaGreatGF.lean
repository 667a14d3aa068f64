import Derived.Test.YtdajnflppnlhiaaGreatProg
import Derived.Test.YtdajnflppnlhiaaGreatGE
set_option linter.unusedVariables false
set_option linter.unusedSimpArgs false
set_option maxRecDepth 10000
set_option maxHeartbeats 4000000
namespace GW
open Go Go.RowKit Go.Proofs Go.Proofs.Tryz
noncomputable section
abbrev fe0_.Ty (g:SortG):Type:=(List g.α)→Int→Int→Int→Option (Int×Bool×(List g.α))
def fe0_.Ctr (g:SortG)(s:fe0_.Ty g):Prop:=∀ {x1:List g.α} {x2:Int} {x3:Int} {x4:Int} {ch_0_0:Option Addr} {ch_0_1:Nat} {ch_0_2:Nat} {r:Int×Bool×(List g.α)} (h0:s x1 x2 x3 x4=some r) {mi:Mem} {w0:World},CtrB Tryz.prog (g.φ 120) [(.s ch_0_0 ch_0_1 ch_0_2),(.i x2),(.i x3),(.i x4),(.v (.func (.func g.fc) #[] #[]))] [Res.row g.T g.e ch_0_0 ch_0_1 ch_0_2 x1] (fun (ch:Unit)=>((.tup [(false,[.i r.1]),(false,[.b r.2.1])]):D)) (fun (ch:Unit)=>[Res.row g.T g.e ch_0_0 ch_0_1 ch_0_2 r.t2]) mi w0
def fe0_.j3 (g:SortG)(x2:Int)(y50:List g.α)(y51:Int):Option (Int×Bool×(List g.α)):=if (0:Int)≤x2∧x2<((y50).length:Int) then (if (0:Int)≤y51∧y51<((y50).length:Int) then (if (0:Int)≤x2∧x2<((y50.set (Int.toNat y51) (gt y50 x2)).length:Int) then (some (y51,false,(y50.set (Int.toNat y51) (gt y50 x2)).set (Int.toNat x2) (gt y50 y51))) else none) else none) else none
def fe0_.j5 (g:SortG)(x2:Int)(y79:List g.α)(rec1:(List g.α)→Int→Int→Option (Int×Bool×(List g.α)))(y87:Int)(y93:Int):Option (Int×Bool×(List g.α)):=if (decide (y93<y87))=true then (fe0_.j3 g x2 y79 y93) else (if (0:Int)≤y93∧y93<((y79).length:Int) then (if (0:Int)≤y87∧y87<((y79).length:Int) then (if (0:Int)≤y93∧y93<((y79.set (Int.toNat y87) (gt y79 y93)).length:Int) then (rec1 ((y79.set (Int.toNat y87) (gt y79 y93)).set (Int.toNat y93) (gt y79 y87)) (wr .i64 (y93 - 1)) (wr .i64 (y87+1))) else none) else none) else none)
def fe0_.j6 (g:SortG)(x2:Int)(y79:List g.α)(rec1:(List g.α)→Int→Int→Option (Int×Bool×(List g.α)))(y87:Int)(y97:Int)(rec2:Int→Option (Int×Bool×(List g.α)))(y98:Bool):Option (Int×Bool×(List g.α)):=if y98=true then (rec2 (wr .i64 (y97 - 1))) else (fe0_.j5 g x2 y79 rec1 y87 y97)
def fe0_.b2 (g:SortG)(k:Nat)(x2:Int)(y79:List g.α)(rec1:(List g.α)→Int→Int→Option (Int×Bool×(List g.α)))(y87:Int)(rec2:Int→Option (Int×Bool×(List g.α)))(y97:Int):Option (Int×Bool×(List g.α)):=if (decide (y87≤y97))=true then (if (0:Int)≤y97∧y97<((y79).length:Int) then (if (0:Int)≤x2∧x2<((y79).length:Int) then ((g.cmp k (gt y79 y97) (gt y79 x2)).bind fun t1=>(fe0_.j6 g x2 y79 rec1 y87 y97 rec2 (!(decide (t1<0))))) else none) else none) else (fe0_.j6 g x2 y79 rec1 y87 y97 rec2 false)
def fe0_.l2 (g:SortG)(k:Nat)(x2:Int)(y79:List g.α)(rec1:(List g.α)→Int→Int→Option (Int×Bool×(List g.α)))(y87:Int):Nat→Int→Option (Int×Bool×(List g.α))
  | 0,_=>none
  | q+1,y97=>fe0_.b2 g k x2 y79 rec1 y87 (fe0_.l2 g k x2 y79 rec1 y87 q) y97
def fe0_.j4 (g:SortG)(k:Nat)(x2:Int)(y79:List g.α)(y80:Int)(rec1:(List g.α)→Int→Int→Option (Int×Bool×(List g.α)))(y87:Int):Option (Int×Bool×(List g.α)):=fe0_.l2 g k x2 y79 rec1 y87 k y80
def fe0_.j7 (g:SortG)(k:Nat)(x2:Int)(y79:List g.α)(y80:Int)(rec1:(List g.α)→Int→Int→Option (Int×Bool×(List g.α)))(y102:Int)(rec3:Int→Option (Int×Bool×(List g.α)))(y103:Bool):Option (Int×Bool×(List g.α)):=if y103=true then (rec3 (wr .i64 (y102+1))) else (fe0_.j4 g k x2 y79 y80 rec1 y102)
def fe0_.b3 (g:SortG)(k:Nat)(x2:Int)(y79:List g.α)(y80:Int)(rec1:(List g.α)→Int→Int→Option (Int×Bool×(List g.α)))(rec3:Int→Option (Int×Bool×(List g.α)))(y102:Int):Option (Int×Bool×(List g.α)):=if (decide (y102≤y80))=true then (if (0:Int)≤y102∧y102<((y79).length:Int) then (if (0:Int)≤x2∧x2<((y79).length:Int) then ((g.cmp k (gt y79 y102) (gt y79 x2)).bind fun t3=>(fe0_.j7 g k x2 y79 y80 rec1 y102 rec3 (decide (t3<0)))) else none) else none) else (fe0_.j7 g k x2 y79 y80 rec1 y102 rec3 false)
def fe0_.l3 (g:SortG)(k:Nat)(x2:Int)(y79:List g.α)(y80:Int)(rec1:(List g.α)→Int→Int→Option (Int×Bool×(List g.α))):Nat→Int→Option (Int×Bool×(List g.α))
  | 0,_=>none
  | q+1,y102=>fe0_.b3 g k x2 y79 y80 rec1 (fe0_.l3 g k x2 y79 y80 rec1 q) y102
def fe0_.b1 (g:SortG)(k:Nat)(x2:Int)(rec1:(List g.α)→Int→Int→Option (Int×Bool×(List g.α)))(y79:List g.α)(y80:Int)(y81:Int):Option (Int×Bool×(List g.α)):=fe0_.l3 g k x2 y79 y80 rec1 k y81
def fe0_.l1 (g:SortG)(k:Nat)(x2:Int):Nat→(List g.α)→Int→Int→Option (Int×Bool×(List g.α))
  | 0,_,_,_=>none
  | q+1,y79,y80,y81=>fe0_.b1 g k x2 (fe0_.l1 g k x2 q) y79 y80 y81
def fe0_.j2 (g:SortG)(k:Nat)(x1:List g.α)(x2:Int)(x4:Int)(y1:Int)(y7:Int):Option (Int×Bool×(List g.α)):=if (decide (y7<y1))=true then (if (0:Int)≤x2∧x2<(((x1.set (Int.toNat x2) (gt x1 x4)).set (Int.toNat x4) (gt x1 x2)).length:Int) then (if (0:Int)≤y7∧y7<(((x1.set (Int.toNat x2) (gt x1 x4)).set (Int.toNat x4) (gt x1 x2)).length:Int) then (if (0:Int)≤x2∧x2<((((x1.set (Int.toNat x2) (gt x1 x4)).set (Int.toNat x4) (gt x1 x2)).set (Int.toNat y7) (gt ((x1.set (Int.toNat x2) (gt x1 x4)).set (Int.toNat x4) (gt x1 x2)) x2)).length:Int) then (some (y7,true,(((x1.set (Int.toNat x2) (gt x1 x4)).set (Int.toNat x4) (gt x1 x2)).set (Int.toNat y7) (gt ((x1.set (Int.toNat x2) (gt x1 x4)).set (Int.toNat x4) (gt x1 x2)) x2)).set (Int.toNat x2) (gt ((x1.set (Int.toNat x2) (gt x1 x4)).set (Int.toNat x4) (gt x1 x2)) y7))) else none) else none) else none) else (if (0:Int)≤y7∧y7<(((x1.set (Int.toNat x2) (gt x1 x4)).set (Int.toNat x4) (gt x1 x2)).length:Int) then (if (0:Int)≤y1∧y1<(((x1.set (Int.toNat x2) (gt x1 x4)).set (Int.toNat x4) (gt x1 x2)).length:Int) then (if (0:Int)≤y7∧y7<((((x1.set (Int.toNat x2) (gt x1 x4)).set (Int.toNat x4) (gt x1 x2)).set (Int.toNat y1) (gt ((x1.set (Int.toNat x2) (gt x1 x4)).set (Int.toNat x4) (gt x1 x2)) y7)).length:Int) then (fe0_.l1 g k x2 k ((((x1.set (Int.toNat x2) (gt x1 x4)).set (Int.toNat x4) (gt x1 x2)).set (Int.toNat y1) (gt ((x1.set (Int.toNat x2) (gt x1 x4)).set (Int.toNat x4) (gt x1 x2)) y7)).set (Int.toNat y7) (gt ((x1.set (Int.toNat x2) (gt x1 x4)).set (Int.toNat x4) (gt x1 x2)) y1)) (wr .i64 (y7 - 1)) (wr .i64 (y1+1))) else none) else none) else none)
def fe0_.j8 (g:SortG)(k:Nat)(x1:List g.α)(x2:Int)(x4:Int)(y1:Int)(y107:Int)(rec4:Int→Option (Int×Bool×(List g.α)))(y108:Bool):Option (Int×Bool×(List g.α)):=if y108=true then (rec4 (wr .i64 (y107 - 1))) else (fe0_.j2 g k x1 x2 x4 y1 y107)
def fe0_.b4 (g:SortG)(k:Nat)(x1:List g.α)(x2:Int)(x4:Int)(y1:Int)(rec4:Int→Option (Int×Bool×(List g.α)))(y107:Int):Option (Int×Bool×(List g.α)):=if (decide (y1≤y107))=true then (if (0:Int)≤y107∧y107<(((x1.set (Int.toNat x2) (gt x1 x4)).set (Int.toNat x4) (gt x1 x2)).length:Int) then (if (0:Int)≤x2∧x2<(((x1.set (Int.toNat x2) (gt x1 x4)).set (Int.toNat x4) (gt x1 x2)).length:Int) then ((g.cmp k (gt ((x1.set (Int.toNat x2) (gt x1 x4)).set (Int.toNat x4) (gt x1 x2)) y107) (gt ((x1.set (Int.toNat x2) (gt x1 x4)).set (Int.toNat x4) (gt x1 x2)) x2)).bind fun t5=>(fe0_.j8 g k x1 x2 x4 y1 y107 rec4 (!(decide (t5<0))))) else none) else none) else (fe0_.j8 g k x1 x2 x4 y1 y107 rec4 false)
def fe0_.l4 (g:SortG)(k:Nat)(x1:List g.α)(x2:Int)(x4:Int)(y1:Int):Nat→Int→Option (Int×Bool×(List g.α))
  | 0,_=>none
  | q+1,y107=>fe0_.b4 g k x1 x2 x4 y1 (fe0_.l4 g k x1 x2 x4 y1 q) y107
def fe0_.j1 (g:SortG)(k:Nat)(x1:List g.α)(x2:Int)(x3:Int)(x4:Int)(y1:Int):Option (Int×Bool×(List g.α)):=fe0_.l4 g k x1 x2 x4 y1 k (wr .i64 (x3 - 1))
def fe0_.j9 (g:SortG)(k:Nat)(x1:List g.α)(x2:Int)(x3:Int)(x4:Int)(y112:Int)(rec5:Int→Option (Int×Bool×(List g.α)))(y113:Bool):Option (Int×Bool×(List g.α)):=if y113=true then (rec5 (wr .i64 (y112+1))) else (fe0_.j1 g k x1 x2 x3 x4 y112)
def fe0_.b5 (g:SortG)(k:Nat)(x1:List g.α)(x2:Int)(x3:Int)(x4:Int)(rec5:Int→Option (Int×Bool×(List g.α)))(y112:Int):Option (Int×Bool×(List g.α)):=if (decide (y112≤(wr .i64 (x3 - 1))))=true then (if (0:Int)≤y112∧y112<(((x1.set (Int.toNat x2) (gt x1 x4)).set (Int.toNat x4) (gt x1 x2)).length:Int) then (if (0:Int)≤x2∧x2<(((x1.set (Int.toNat x2) (gt x1 x4)).set (Int.toNat x4) (gt x1 x2)).length:Int) then ((g.cmp k (gt ((x1.set (Int.toNat x2) (gt x1 x4)).set (Int.toNat x4) (gt x1 x2)) y112) (gt ((x1.set (Int.toNat x2) (gt x1 x4)).set (Int.toNat x4) (gt x1 x2)) x2)).bind fun t7=>(fe0_.j9 g k x1 x2 x3 x4 y112 rec5 (decide (t7<0)))) else none) else none) else (fe0_.j9 g k x1 x2 x3 x4 y112 rec5 false)
def fe0_.l5 (g:SortG)(k:Nat)(x1:List g.α)(x2:Int)(x3:Int)(x4:Int):Nat→Int→Option (Int×Bool×(List g.α))
  | 0,_=>none
  | q+1,y112=>fe0_.b5 g k x1 x2 x3 x4 (fe0_.l5 g k x1 x2 x3 x4 q) y112
def fe0_.f (g:SortG)(k:Nat)(x1:List g.α)(x2:Int)(x3:Int)(x4:Int):Option (Int×Bool×(List g.α)):=if (0:Int)≤x4∧x4<((x1).length:Int) then (if (0:Int)≤x2∧x2<((x1).length:Int) then (if (0:Int)≤x4∧x4<((x1.set (Int.toNat x2) (gt x1 x4)).length:Int) then (fe0_.l5 g k x1 x2 x3 x4 k (wr .i64 (x2+1))) else none) else none) else none
theorem fe0_.ok (g:SortG)(h:SortG.Ok g)(k:Nat):fe0_.Ctr g (fe0_.f g k):=by
 intro x1 x2 x3 x4 ch_0_0 ch_0_1 ch_0_2 r h0 mi w0 ok hm
 delta fe0_.f at h0
 refine c_enterG (n:=178) [(.s ch_0_0 ch_0_1 ch_0_2),(.i x2),(.i x3),(.i x4),(.v (.func (.func g.fc) #[] #[]))] (l:=[(0,(.s ch_0_0 ch_0_1 ch_0_2)),(1,(.i x2)),(2,(.i x3)),(3,(.i x4)),(4,(.v (.func (.func g.fc) #[] #[])))]) h.n120 rfl rfl rfl ok hm ?_
 clear ok hm
 intro b0 hb a S
 refine c_region (s_as2 S rfl fun a S=>c_end ?_)
 have hS:=S.rowx (fun _=> .h)
 clear S; obtain ⟨cs1,S⟩:=hS
 refine wp_seq (c_hS S (.take 0 (.take 1 (.tk 4 9 (.pure 2 (.pure 3 (.alts (.run 13 false (.alts (.run 14 false (.alts (.run 15 false .done .nil)) .nil)) .nil))))))) 13 (.c0 .n) ⟨Res.stay_rowx,trivial⟩ [(0,(.s ch_0_0 ch_0_1 ch_0_2)),(1,(.i x2)),(3,(.i x4))] rfl (by kernel_rfl) ?_); clear S; intro w S CL hw le
 refine h_mv4 S CL hw le rfl trivial trivial trivial trivial fun a S CL=>?_
 obtain ⟨c1,h1⟩:=chk_of h0; clear h0
 refine h_iaddrX S CL hw le (subR rfl) (ty':=g.T) rfl .h rfl h.hU h.hT c1.1 c1.2 rfl rfl trivial fun g1 a hA1 S CL=>h_ldXW S CL hw le (subR rfl) (i:=x4) rfl hA1 .h h.hT c1.1 c1.2 rfl rfl rfl trivial fun ch1 a S CL=>h_mv2 S CL hw le rfl trivial trivial fun a S CL=>?_
 obtain ⟨c2,h2⟩:=chk_of h1; clear h1
 refine h_iaddrX S CL hw le (subR rfl) (ty':=g.T) rfl .h rfl h.hU h.hT c2.1 c2.2 rfl rfl trivial fun g2 a hA2 S CL=>h_ldXW S CL hw le (subR rfl) (i:=x2) rfl hA2 .h h.hT c2.1 c2.2 rfl rfl rfl trivial fun ch2 a S CL=>h_iaddrX S CL hw le (subR rfl) (ty':=g.T) rfl .h rfl h.hU h.hT c2.1 c2.2 rfl rfl trivial fun g3 a hA3 S CL=>p_move S rfl rfl rfl trivial fun a S=>p_move S rfl rfl rfl trivial fun a S=>h_run' S rfl trivial ?_
 replace S:=S.rowu .h
 refine s_stRW S (i:=x2) (u:=gt x1 x4) (cu:=ch1) rfl rfl hA3 .h h.hT c2.1 c2.2 rfl fun w S=>?_
 refine h_back ⟨fun h=>(nomatch h),?_⟩
 refine h_run' S rfl trivial ?_
 obtain ⟨c3,h3⟩:=chk_of h2; clear h2
 refine s_iaddrO S (ty':=g.T) rfl .h rfl h.hU h.hT c3.1 c3.2 rfl fun g4 a hA4 S=>?_
 refine h_back ⟨fun h=>(nomatch h),?_⟩
 refine h_run' S rfl trivial (s_stRW S (i:=x4) (u:=gt x1 x2) (cu:=ch2) rfl rfl hA4 .h h.hT c3.1 c3.2 rfl fun w S=>?_)
 refine h_back ⟨fun h=>(nomatch h),?_⟩
 refine h_done ?_; clear CL hw le
 refine x_thenN (c_region (s_mv1 S rfl fun a S=>s_bi S rfl fun a S=>s_mv1 S rfl fun a S=>s_bi S rfl fun a S=>s_as2 S rfl fun a S=>c_end (wp_seq_k fun K1 hK1=>?_)))
 have j1:∀ m y1 a w,St 178 m b0 [(13,(.i (wr .i64 (x3 - 1)))),(12,(.i y1)),(0,(.s ch_0_0 ch_0_1 ch_0_2)),(1,(.i x2)),(4,(.v (.func (.func g.fc) #[] #[])))] [Res.row g.T g.e ch_0_0 ch_0_1 ch_0_2 ((x1.set (Int.toNat x2) (gt x1 x4)).set (Int.toNat x4) (gt x1 x2))] a w→fe0_.j1 g k x1 x2 x3 x4 y1=some r→K1 a w:=by
  intro m y1 a w S h0
  delta fe0_.j1 at h0
  refine hK1 a w (wp_seq_k fun K2 hK2=>?_)
  have j2:∀ m y7 a w,St 178 m b0 [(13,(.i y7)),(12,(.i y1)),(0,(.s ch_0_0 ch_0_1 ch_0_2)),(1,(.i x2)),(4,(.v (.func (.func g.fc) #[] #[])))] [Res.row g.T g.e ch_0_0 ch_0_1 ch_0_2 ((x1.set (Int.toNat x2) (gt x1 x4)).set (Int.toNat x4) (gt x1 x2))] a w→fe0_.j2 g k x1 x2 x4 y1 y7=some r→K2 a w:=by
   intro m y7 a w S h0
   delta fe0_.j2 at h0
   refine hK2 a w (wp_seq (c_region (s_mv2 S rfl fun a S=>s_bi S rfl fun a S=>c_end ?_)))
   rcases ite_of h0 with ⟨c4,h1⟩ | ⟨c4,h1⟩
   ·refine c_condT S rfl c4 ?_
    have hS:=S.rowx (fun _=> .h)
    clear S; obtain ⟨cs2,S⟩:=hS
    refine wp_seq (c_hS S (.take 0 (.take 1 (.tk 4 9 (.pure 2 (.pure 3 (.alts (.run 13 false (.alts (.run 14 false (.alts (.run 15 false .done .nil)) .nil)) .nil))))))) 13 (.c0 .n) ⟨Res.stay_rowx,trivial⟩ [(13,(.i y7)),(0,(.s ch_0_0 ch_0_1 ch_0_2)),(1,(.i x2))] rfl (by kernel_rfl) ?_); clear S; intro w S CL hw le
    refine h_mv4 S CL hw le rfl trivial trivial trivial trivial fun a S CL=>?_
    obtain ⟨c5,h2⟩:=chk_of h1; clear h1
    refine h_iaddrX S CL hw le (subR rfl) (ty':=g.T) rfl .h rfl h.hU h.hT c5.1 c5.2 rfl rfl trivial fun g5 a hA5 S CL=>h_ldXW S CL hw le (subR rfl) (i:=x2) rfl hA5 .h h.hT c5.1 c5.2 rfl rfl rfl trivial fun ch3 a S CL=>h_mv2 S CL hw le rfl trivial trivial fun a S CL=>?_
    obtain ⟨c6,h3⟩:=chk_of h2; clear h2
    refine h_iaddrX S CL hw le (subR rfl) (ty':=g.T) rfl .h rfl h.hU h.hT c6.1 c6.2 rfl rfl trivial fun g6 a hA6 S CL=>h_ldXW S CL hw le (subR rfl) (i:=y7) rfl hA6 .h h.hT c6.1 c6.2 rfl rfl rfl trivial fun ch4 a S CL=>h_iaddrX S CL hw le (subR rfl) (ty':=g.T) rfl .h rfl h.hU h.hT c6.1 c6.2 rfl rfl trivial fun g7 a hA7 S CL=>p_move S rfl rfl rfl trivial fun a S=>p_move S rfl rfl rfl trivial fun a S=>h_run' S rfl trivial ?_
    replace S:=S.rowu .h
    refine s_stRW S (i:=y7) (u:=gt ((x1.set (Int.toNat x2) (gt x1 x4)).set (Int.toNat x4) (gt x1 x2)) x2) (cu:=ch3) rfl rfl hA7 .h h.hT c6.1 c6.2 rfl fun w S=>?_
    refine h_back ⟨fun h=>(nomatch h),?_⟩
    refine h_run' S rfl trivial ?_
    obtain ⟨c7,h4⟩:=chk_of h3; clear h3
    refine s_iaddrO S (ty':=g.T) rfl .h rfl h.hU h.hT c7.1 c7.2 rfl fun g8 a hA8 S=>?_
    refine h_back ⟨fun h=>(nomatch h),?_⟩
    refine h_run' S rfl trivial (s_stRW S (i:=x2) (u:=gt ((x1.set (Int.toNat x2) (gt x1 x4)).set (Int.toNat x4) (gt x1 x2)) y7) (cu:=ch4) rfl rfl hA8 .h h.hT c7.1 c7.2 rfl fun w S=>?_)
    refine h_back ⟨fun h=>(nomatch h),?_⟩
    refine h_done ?_; clear CL hw le
    refine x_thenN (c_region (s_mv1 S rfl fun a S=>s_as2 S rfl fun a S=>c_end (wp_ret (x_thenR ?_))))
    obtain rfl:=Option.some.inj h4
    exact b_ret2 (d1:=(.i y7)) (d2:=(.b true)) S rfl rfl rfl fun ok1 ok2=>S.retX (Hx:=[]) hb _ _ (():Unit) (.c0 .n) ⟨⟨ok1,trivial⟩,⟨ok2,trivial⟩,trivial⟩
   ·refine c_condF S rfl c4 (wp_skip (x_thenN ?_))
    have hS:=S.rowx (fun _=> .h)
    clear S; obtain ⟨cs3,S⟩:=hS
    refine wp_seq (c_hS S (.take 0 (.take 1 (.tk 4 9 (.pure 2 (.pure 3 (.alts (.run 13 false (.alts (.run 14 false (.alts (.run 15 false .done .nil)) .nil)) .nil))))))) 13 (.c0 .n) ⟨Res.stay_rowx,trivial⟩ [(13,(.i y7)),(12,(.i y1)),(0,(.s ch_0_0 ch_0_1 ch_0_2))] rfl (by kernel_rfl) ?_); clear S; intro w S CL hw le
    refine h_mv4 S CL hw le rfl trivial trivial trivial trivial fun a S CL=>?_
    obtain ⟨c8,h2⟩:=chk_of h1; clear h1
    refine h_iaddrX S CL hw le (subR rfl) (ty':=g.T) rfl .h rfl h.hU h.hT c8.1 c8.2 rfl rfl trivial fun g9 a hA9 S CL=>h_ldXW S CL hw le (subR rfl) (i:=y7) rfl hA9 .h h.hT c8.1 c8.2 rfl rfl rfl trivial fun ch5 a S CL=>h_mv2 S CL hw le rfl trivial trivial fun a S CL=>?_
    obtain ⟨c9,h3⟩:=chk_of h2; clear h2
    refine h_iaddrX S CL hw le (subR rfl) (ty':=g.T) rfl .h rfl h.hU h.hT c9.1 c9.2 rfl rfl trivial fun g10 a hA10 S CL=>h_ldXW S CL hw le (subR rfl) (i:=y1) rfl hA10 .h h.hT c9.1 c9.2 rfl rfl rfl trivial fun ch6 a S CL=>h_iaddrX S CL hw le (subR rfl) (ty':=g.T) rfl .h rfl h.hU h.hT c9.1 c9.2 rfl rfl trivial fun g11 a hA11 S CL=>p_move S rfl rfl rfl trivial fun a S=>p_move S rfl rfl rfl trivial fun a S=>h_run' S rfl trivial ?_
    replace S:=S.rowu .h
    refine s_stRW S (i:=y1) (u:=gt ((x1.set (Int.toNat x2) (gt x1 x4)).set (Int.toNat x4) (gt x1 x2)) y7) (cu:=ch5) rfl rfl hA11 .h h.hT c9.1 c9.2 rfl fun w S=>?_
    refine h_back ⟨fun h=>(nomatch h),?_⟩
    refine h_run' S rfl trivial ?_
    obtain ⟨c10,h4⟩:=chk_of h3; clear h3
    refine s_iaddrO S (ty':=g.T) rfl .h rfl h.hU h.hT c10.1 c10.2 rfl fun g12 a hA12 S=>?_
    refine h_back ⟨fun h=>(nomatch h),?_⟩
    refine h_run' S rfl trivial (s_stRW S (i:=y7) (u:=gt ((x1.set (Int.toNat x2) (gt x1 x4)).set (Int.toNat x4) (gt x1 x2)) y1) (cu:=ch6) rfl rfl hA12 .h h.hT c10.1 c10.2 rfl fun w S=>?_)
    refine h_back ⟨fun h=>(nomatch h),?_⟩
    refine h_done ?_; clear CL hw le
    refine x_thenN (c_region (s_mv1 S rfl fun a S=>s_bi S rfl fun a S=>s_as1 S rfl fun a S=>c_end (c_region (s_mv1 S rfl fun a S=>s_bi S rfl fun a S=>s_as1 S rfl fun a S=>c_end (wp_seq_k fun K3 hK3=>?_)))))
    have j3:∀ m y50 y51 a w,St 178 m b0 [(13,(.i y51)),(0,(.s ch_0_0 ch_0_1 ch_0_2)),(1,(.i x2))] [Res.row g.T g.e ch_0_0 ch_0_1 ch_0_2 y50] a w→fe0_.j3 g x2 y50 y51=some r→K3 a w:=by
     intro m y50 y51 a w S h0
     delta fe0_.j3 at h0
     refine hK3 a w ?_
     have hS:=S.rowx (fun _=> .h)
     clear S; obtain ⟨cs4,S⟩:=hS
     refine wp_seq (c_hS S (.take 0 (.take 1 (.tk 4 9 (.pure 2 (.pure 3 (.alts (.run 13 false (.alts (.run 14 false (.alts (.run 15 false .done .nil)) .nil)) .nil))))))) 13 (.c0 .n) ⟨Res.stay_rowx,trivial⟩ [(13,(.i y51)),(0,(.s ch_0_0 ch_0_1 ch_0_2)),(1,(.i x2))] rfl (by kernel_rfl) ?_); clear S; intro w S CL hw le
     refine h_mv4 S CL hw le rfl trivial trivial trivial trivial fun a S CL=>?_
     obtain ⟨c11,h1⟩:=chk_of h0; clear h0
     refine h_iaddrX S CL hw le (subR rfl) (ty':=g.T) rfl .h rfl h.hU h.hT c11.1 c11.2 rfl rfl trivial fun g13 a hA13 S CL=>h_ldXW S CL hw le (subR rfl) (i:=x2) rfl hA13 .h h.hT c11.1 c11.2 rfl rfl rfl trivial fun ch7 a S CL=>h_mv2 S CL hw le rfl trivial trivial fun a S CL=>?_
     obtain ⟨c12,h2⟩:=chk_of h1; clear h1
     refine h_iaddrX S CL hw le (subR rfl) (ty':=g.T) rfl .h rfl h.hU h.hT c12.1 c12.2 rfl rfl trivial fun g14 a hA14 S CL=>h_ldXW S CL hw le (subR rfl) (i:=y51) rfl hA14 .h h.hT c12.1 c12.2 rfl rfl rfl trivial fun ch8 a S CL=>h_iaddrX S CL hw le (subR rfl) (ty':=g.T) rfl .h rfl h.hU h.hT c12.1 c12.2 rfl rfl trivial fun g15 a hA15 S CL=>p_move S rfl rfl rfl trivial fun a S=>p_move S rfl rfl rfl trivial fun a S=>h_run' S rfl trivial ?_
     replace S:=S.rowu .h
     refine s_stRW S (i:=y51) (u:=gt y50 x2) (cu:=ch7) rfl rfl hA15 .h h.hT c12.1 c12.2 rfl fun w S=>?_
     refine h_back ⟨fun h=>(nomatch h),?_⟩
     refine h_run' S rfl trivial ?_
     obtain ⟨c13,h3⟩:=chk_of h2; clear h2
     refine s_iaddrO S (ty':=g.T) rfl .h rfl h.hU h.hT c13.1 c13.2 rfl fun g16 a hA16 S=>?_
     refine h_back ⟨fun h=>(nomatch h),?_⟩
     refine h_run' S rfl trivial (s_stRW S (i:=x2) (u:=gt y50 y51) (cu:=ch8) rfl rfl hA16 .h h.hT c13.1 c13.2 rfl fun w S=>?_)
     refine h_back ⟨fun h=>(nomatch h),?_⟩
     refine h_done ?_; clear CL hw le
     refine x_thenN (c_region (s_mv1 S rfl fun a S=>s_as2 S rfl fun a S=>c_end (wp_ret ?_)))
     obtain rfl:=Option.some.inj h3
     exact b_ret2 (d1:=(.i y51)) (d2:=(.b false)) S rfl rfl rfl fun ok1 ok2=>S.retX (Hx:=[]) hb _ _ (():Unit) (.c0 .n) ⟨⟨ok1,trivial⟩,⟨ok2,trivial⟩,trivial⟩
    refine wp_block ?_
    refine c_loop (fun q1 a w=>∃ m y79 y80 y81,St 178 m b0 [(13,(.i y80)),(12,(.i y81)),(0,(.s ch_0_0 ch_0_1 ch_0_2)),(1,(.i x2)),(4,(.v (.func (.func g.fc) #[] #[])))] [Res.row g.T g.e ch_0_0 ch_0_1 ch_0_2 y79] a w∧fe0_.l1 g k x2 q1 y79 y80 y81=some r) ?_ ?_ (k:=k) ⟨_,((((x1.set (Int.toNat x2) (gt x1 x4)).set (Int.toNat x4) (gt x1 x2)).set (Int.toNat y1) (gt ((x1.set (Int.toNat x2) (gt x1 x4)).set (Int.toNat x4) (gt x1 x2)) y7)).set (Int.toNat y7) (gt ((x1.set (Int.toNat x2) (gt x1 x4)).set (Int.toNat x4) (gt x1 x2)) y1)),(wr .i64 (y7 - 1)),(wr .i64 (y1+1)),(S.sb rfl (.c0 .n)),h4⟩
    ·rintro a w ⟨m,y79,y80,y81,S,h0⟩
     exact (nomatch (show (none:Option (Int×Bool×(List g.α)))=some r from h0))
    ·clear S h4
     rintro q1 a w ⟨m,y79,y80,y81,S,h0⟩
     replace h0:fe0_.b1 g k x2 (fe0_.l1 g k x2 q1) y79 y80 y81=some r:=h0
     delta fe0_.b1 at h0
     refine wp_block (wp_seq_k fun K4 hK4=>?_)
     have j4:∀ m y87 a w,St 178 m b0 [(13,(.i y80)),(12,(.i y87)),(0,(.s ch_0_0 ch_0_1 ch_0_2)),(1,(.i x2)),(4,(.v (.func (.func g.fc) #[] #[])))] [Res.row g.T g.e ch_0_0 ch_0_1 ch_0_2 y79] a w→fe0_.j4 g k x2 y79 y80 (fe0_.l1 g k x2 q1) y87=some r→K4 a w:=by
      intro m y87 a w S h0
      delta fe0_.j4 at h0
      refine hK4 a w (wp_seq_k fun K5 hK5=>?_)
      have j5:∀ m y93 a w,St 178 m b0 [(13,(.i y93)),(12,(.i y87)),(0,(.s ch_0_0 ch_0_1 ch_0_2)),(1,(.i x2)),(4,(.v (.func (.func g.fc) #[] #[])))] [Res.row g.T g.e ch_0_0 ch_0_1 ch_0_2 y79] a w→fe0_.j5 g x2 y79 (fe0_.l1 g k x2 q1) y87 y93=some r→K5 a w:=by
       intro m y93 a w S h0
       delta fe0_.j5 at h0
       refine hK5 a w (wp_seq (c_region (s_mv2 S rfl fun a S=>s_bi S rfl fun a S=>c_end ?_)))
       rcases ite_of h0 with ⟨c14,h1⟩ | ⟨c14,h1⟩
       ·refine c_condT S rfl c14 (wp_exit (x_thenX (x_blockO (by decide) (x_thenX (x_blockX (x_thenN ?_))))))
        exact j3 _ y79 y93 a w (S.sb rfl (.c0 .n)) h1
       ·refine c_condF S rfl c14 (wp_skip (x_thenN ?_))
        have hS:=S.rowx (fun _=> .h)
        clear S; obtain ⟨cs5,S⟩:=hS
        refine wp_seq (c_hS S (.take 0 (.take 1 (.tk 4 9 (.pure 2 (.pure 3 (.alts (.run 13 false (.alts (.run 14 false (.alts (.run 15 false .done .nil)) .nil)) .nil))))))) 13 (.c0 .n) ⟨Res.stay_rowx,trivial⟩ [(13,(.i y93)),(12,(.i y87)),(0,(.s ch_0_0 ch_0_1 ch_0_2))] rfl (by kernel_rfl) ?_); clear S; intro w S CL hw le
        refine h_mv4 S CL hw le rfl trivial trivial trivial trivial fun a S CL=>?_
        obtain ⟨c15,h2⟩:=chk_of h1; clear h1
        refine h_iaddrX S CL hw le (subR rfl) (ty':=g.T) rfl .h rfl h.hU h.hT c15.1 c15.2 rfl rfl trivial fun g25 a hA17 S CL=>h_ldXW S CL hw le (subR rfl) (i:=y93) rfl hA17 .h h.hT c15.1 c15.2 rfl rfl rfl trivial fun ch13 a S CL=>h_mv2 S CL hw le rfl trivial trivial fun a S CL=>?_
        obtain ⟨c16,h3⟩:=chk_of h2; clear h2
        refine h_iaddrX S CL hw le (subR rfl) (ty':=g.T) rfl .h rfl h.hU h.hT c16.1 c16.2 rfl rfl trivial fun g26 a hA18 S CL=>h_ldXW S CL hw le (subR rfl) (i:=y87) rfl hA18 .h h.hT c16.1 c16.2 rfl rfl rfl trivial fun ch14 a S CL=>h_iaddrX S CL hw le (subR rfl) (ty':=g.T) rfl .h rfl h.hU h.hT c16.1 c16.2 rfl rfl trivial fun g27 a hA19 S CL=>p_move S rfl rfl rfl trivial fun a S=>p_move S rfl rfl rfl trivial fun a S=>h_run' S rfl trivial ?_
        replace S:=S.rowu .h
        refine s_stRW S (i:=y87) (u:=gt y79 y93) (cu:=ch13) rfl rfl hA19 .h h.hT c16.1 c16.2 rfl fun w S=>?_
        refine h_back ⟨fun h=>(nomatch h),?_⟩
        refine h_run' S rfl trivial ?_
        obtain ⟨c17,h4⟩:=chk_of h3; clear h3
        refine s_iaddrO S (ty':=g.T) rfl .h rfl h.hU h.hT c17.1 c17.2 rfl fun g28 a hA20 S=>?_
        refine h_back ⟨fun h=>(nomatch h),?_⟩
        refine h_run' S rfl trivial (s_stRW S (i:=y93) (u:=gt y79 y87) (cu:=ch14) rfl rfl hA20 .h h.hT c17.1 c17.2 rfl fun w S=>?_)
        refine h_back ⟨fun h=>(nomatch h),?_⟩
        refine h_done ?_; clear CL hw le
        refine x_thenN (c_region (s_mv1 S rfl fun a S=>s_bi S rfl fun a S=>s_as1 S rfl fun a S=>c_end (c_region' (s_mv1 S rfl fun a S=>s_bi S rfl fun a S=>s_as1 S rfl fun a S=>c_end' (x_blockN (x_thenN ?_))))))
        exact ⟨_,((y79.set (Int.toNat y87) (gt y79 y93)).set (Int.toNat y93) (gt y79 y87)),(wr .i64 (y93 - 1)),(wr .i64 (y87+1)),(S.sb rfl (.c0 .n)),h4⟩
      refine wp_block ?_
      refine c_loop (fun q2 a w=>∃ m y97,St 178 m b0 [(13,(.i y97)),(12,(.i y87)),(0,(.s ch_0_0 ch_0_1 ch_0_2)),(1,(.i x2)),(4,(.v (.func (.func g.fc) #[] #[])))] [Res.row g.T g.e ch_0_0 ch_0_1 ch_0_2 y79] a w∧fe0_.l2 g k x2 y79 (fe0_.l1 g k x2 q1) y87 q2 y97=some r) ?_ ?_ (k:=k) ⟨_,y80,(S.sb rfl (.c0 .n)),h0⟩
      ·rintro a w ⟨m,y97,S,h0⟩
       exact (nomatch (show (none:Option (Int×Bool×(List g.α)))=some r from h0))
      ·clear S h0
       rintro q2 a w ⟨m,y97,S,h0⟩
       replace h0:fe0_.b2 g k x2 y79 (fe0_.l1 g k x2 q1) y87 (fe0_.l2 g k x2 y79 (fe0_.l1 g k x2 q1) y87 q2) y97=some r:=h0
       delta fe0_.b2 at h0
       refine wp_seq (wp_seq_k fun K6 hK6=>?_)
       have j6:∀ m y98 a w,St 178 m b0 [(139,(.b y98)),(13,(.i y97)),(12,(.i y87)),(0,(.s ch_0_0 ch_0_1 ch_0_2)),(1,(.i x2)),(4,(.v (.func (.func g.fc) #[] #[])))] [Res.row g.T g.e ch_0_0 ch_0_1 ch_0_2 y79] a w→fe0_.j6 g x2 y79 (fe0_.l1 g k x2 q1) y87 y97 (fe0_.l2 g k x2 y79 (fe0_.l1 g k x2 q1) y87 q2) y98=some r→K6 a w:=by
        intro m y98 a w S h0
        delta fe0_.j6 at h0
        refine hK6 a w ?_
        rcases ite_of h0 with ⟨c18,h1⟩ | ⟨c18,h1⟩
        ·refine c_condT S rfl c18 (wp_skip (x_thenN (wp_block (c_region' (s_mv1 S rfl fun a S=>s_bi S rfl fun a S=>s_as1 S rfl fun a S=>c_end' (x_blockN (x_thenN ?_)))))))
         exact ⟨_,(wr .i64 (y97 - 1)),(S.sb rfl (.c0 .n)),h1⟩
        ·refine c_condF S rfl c18 (wp_exit (x_thenX (x_thenX (x_blockX (x_thenN ?_)))))
         exact j5 _ y97 a w (S.sb rfl (.c0 .n)) h1
       have hS:=S.rowx (fun _=> .h)
       clear S; obtain ⟨cs6,S⟩:=hS
       refine c_hS S (.tk 0 13 (.alts (.run 13 true (.tk 14 3 .done) .nil))) 17 (.c0 .n) ⟨Res.stay_rowx,trivial⟩ [(13,(.i y97)),(12,(.i y87)),(0,(.s ch_0_0 ch_0_1 ch_0_2)),(1,(.i x2)),(4,(.v (.func (.func g.fc) #[] #[])))] rfl (by kernel_rfl) fun w S CL hw le=>?_
       refine h_mv2 S CL hw le rfl trivial trivial fun a S CL=>h_bin S CL hw le (subR rfl) rfl rfl rfl rfl rfl trivial fun a S CL=>h_mv1 S CL hw le rfl trivial fun a S CL=>?_
       rcases ite_of h0 with ⟨c19,h1⟩ | ⟨c19,h1⟩
       ·refine h_mv3 S CL hw le rfl ⟨_,_,rfl,rfl,c19⟩ ⟨_,_,rfl,rfl,c19⟩ ⟨_,_,rfl,rfl,c19⟩ fun a S CL=>?_
        obtain ⟨c20,h2⟩:=chk_of h1; clear h1
        refine h_iaddrX S CL hw le (subR rfl) (ty':=g.T) rfl .h rfl h.hU h.hT c20.1 c20.2 rfl rfl ⟨_,_,rfl,rfl,c19⟩ fun g31 a hA21 S CL=>h_ldXW S CL hw le (subR rfl) (i:=y97) rfl hA21 .h h.hT c20.1 c20.2 rfl rfl rfl ⟨_,_,rfl,rfl,c19⟩ fun ch17 a S CL=>h_mv2 S CL hw le rfl ⟨_,_,rfl,rfl,c19⟩ ⟨_,_,rfl,rfl,c19⟩ fun a S CL=>?_
        obtain ⟨c21,h3⟩:=chk_of h2; clear h2
        refine h_iaddrX S CL hw le (subR rfl) (ty':=g.T) rfl .h rfl h.hU h.hT c21.1 c21.2 rfl rfl ⟨_,_,rfl,rfl,c19⟩ fun g32 a hA22 S CL=>h_ldXW S CL hw le (subR rfl) (i:=x2) rfl hA22 .h h.hT c21.1 c21.2 rfl rfl rfl ⟨_,_,rfl,rfl,c19⟩ fun ch18 a S CL=>h_run' S rfl ⟨_,_,rfl,rfl,c19⟩ (bindX h3 fun t1 et1 h4=>s_callK S (h.hcmp et1) h.nc rfl .pre (fun _=> .n) rfl fun ch19 m le1 a w S=>?_)
        replace le:=le.trans le1
        refine CL.bk hw S (.c0 .n) le fun hw=>?_
        replace CL:=CL.add (t:=136) (d:=(.i t1)) S rfl rfl
        refine h_bin S CL hw le (subR rfl) rfl rfl rfl rfl rfl ⟨_,_,rfl,rfl,c19⟩ fun a S CL=>h_not S CL hw le (subR rfl) rfl rfl rfl ⟨_,_,rfl,rfl,c19⟩ fun a S CL=>h_pick S CL hw le (subR rfl) (b:=true) (hc_of rfl c19) rfl rfl rfl trivial fun a S CL=>?_
        refine h_done ?_; clear CL hw le
        replace S:=S.rowu .h
        refine x_thenN ?_
        exact j6 _ (!(decide (t1<0))) a w (S.sb rfl (.c0 .n)) h4
       ·refine h_sk8 S CL rfl (ne_bool c19) fun a S CL=>h_sk1 S CL rfl (ne_bool c19) fun a S CL=>h_skipRt S rfl rfl rfl (ne_bool c19) rfl fun a S=>CL.bk hw S (.c0 .n) le fun hw=>?_
        replace CL:=CL.add (t:=136) (d:= .u) S rfl rfl
        refine h_sk2 S CL rfl (ne_bool c19) fun a S CL=>h_pick S CL hw le (subR rfl) (b:=false) (hc_of rfl c19) rfl rfl rfl trivial fun a S CL=>?_
        refine h_done ?_; clear CL hw le
        replace S:=S.rowu .h
        refine x_thenN ?_
        exact j6 _ false a w (S.sb rfl (.c0 .n)) h1
     refine wp_block ?_
     refine c_loop (fun q3 a w=>∃ m y102,St 178 m b0 [(13,(.i y80)),(12,(.i y102)),(0,(.s ch_0_0 ch_0_1 ch_0_2)),(1,(.i x2)),(4,(.v (.func (.func g.fc) #[] #[])))] [Res.row g.T g.e ch_0_0 ch_0_1 ch_0_2 y79] a w∧fe0_.l3 g k x2 y79 y80 (fe0_.l1 g k x2 q1) q3 y102=some r) ?_ ?_ (k:=k) ⟨_,y81,(S.sb rfl (.c0 .n)),h0⟩
     ·rintro a w ⟨m,y102,S,h0⟩
      exact (nomatch (show (none:Option (Int×Bool×(List g.α)))=some r from h0))
     ·clear S h0
      rintro q3 a w ⟨m,y102,S,h0⟩
      replace h0:fe0_.b3 g k x2 y79 y80 (fe0_.l1 g k x2 q1) (fe0_.l3 g k x2 y79 y80 (fe0_.l1 g k x2 q1) q3) y102=some r:=h0
      delta fe0_.b3 at h0
      refine wp_seq (wp_seq_k fun K7 hK7=>?_)
      have j7:∀ m y103 a w,St 178 m b0 [(120,(.b y103)),(13,(.i y80)),(12,(.i y102)),(0,(.s ch_0_0 ch_0_1 ch_0_2)),(1,(.i x2)),(4,(.v (.func (.func g.fc) #[] #[])))] [Res.row g.T g.e ch_0_0 ch_0_1 ch_0_2 y79] a w→fe0_.j7 g k x2 y79 y80 (fe0_.l1 g k x2 q1) y102 (fe0_.l3 g k x2 y79 y80 (fe0_.l1 g k x2 q1) q3) y103=some r→K7 a w:=by
       intro m y103 a w S h0
       delta fe0_.j7 at h0
       refine hK7 a w ?_
       rcases ite_of h0 with ⟨c22,h1⟩ | ⟨c22,h1⟩
       ·refine c_condT S rfl c22 (wp_skip (x_thenN (wp_block (c_region' (s_mv1 S rfl fun a S=>s_bi S rfl fun a S=>s_as1 S rfl fun a S=>c_end' (x_blockN (x_thenN ?_)))))))
        exact ⟨_,(wr .i64 (y102+1)),(S.sb rfl (.c0 .n)),h1⟩
       ·refine c_condF S rfl c22 (wp_exit (x_thenX (x_thenX (x_blockX (x_thenN ?_)))))
        exact j4 _ y102 a w (S.sb rfl (.c0 .n)) h1
      have hS:=S.rowx (fun _=> .h)
      clear S; obtain ⟨cs7,S⟩:=hS
      refine c_hS S (.tk 0 13 (.alts (.run 13 true (.take 14 (.take 15 .done)) .nil))) 16 (.c0 .n) ⟨Res.stay_rowx,trivial⟩ [(13,(.i y80)),(12,(.i y102)),(0,(.s ch_0_0 ch_0_1 ch_0_2)),(1,(.i x2)),(4,(.v (.func (.func g.fc) #[] #[])))] rfl (by kernel_rfl) fun w S CL hw le=>?_
      refine h_mv2 S CL hw le rfl trivial trivial fun a S CL=>h_bin S CL hw le (subR rfl) rfl rfl rfl rfl rfl trivial fun a S CL=>h_mv1 S CL hw le rfl trivial fun a S CL=>?_
      rcases ite_of h0 with ⟨c23,h1⟩ | ⟨c23,h1⟩
      ·refine h_mv3 S CL hw le rfl ⟨_,_,rfl,rfl,c23⟩ ⟨_,_,rfl,rfl,c23⟩ ⟨_,_,rfl,rfl,c23⟩ fun a S CL=>?_
       obtain ⟨c24,h2⟩:=chk_of h1; clear h1
       refine h_iaddrX S CL hw le (subR rfl) (ty':=g.T) rfl .h rfl h.hU h.hT c24.1 c24.2 rfl rfl ⟨_,_,rfl,rfl,c23⟩ fun g35 a hA23 S CL=>h_ldXW S CL hw le (subR rfl) (i:=y102) rfl hA23 .h h.hT c24.1 c24.2 rfl rfl rfl ⟨_,_,rfl,rfl,c23⟩ fun ch22 a S CL=>h_mv2 S CL hw le rfl ⟨_,_,rfl,rfl,c23⟩ ⟨_,_,rfl,rfl,c23⟩ fun a S CL=>?_
       obtain ⟨c25,h3⟩:=chk_of h2; clear h2
       refine h_iaddrX S CL hw le (subR rfl) (ty':=g.T) rfl .h rfl h.hU h.hT c25.1 c25.2 rfl rfl ⟨_,_,rfl,rfl,c23⟩ fun g36 a hA24 S CL=>h_ldXW S CL hw le (subR rfl) (i:=x2) rfl hA24 .h h.hT c25.1 c25.2 rfl rfl rfl ⟨_,_,rfl,rfl,c23⟩ fun ch23 a S CL=>h_run' S rfl ⟨_,_,rfl,rfl,c23⟩ (bindX h3 fun t3 et3 h4=>s_callK S (h.hcmp et3) h.nc rfl .pre (fun _=> .n) rfl fun ch24 m le1 a w S=>?_)
       replace le:=le.trans le1
       refine CL.bk hw S (.c0 .n) le fun hw=>?_
       replace CL:=CL.add (t:=118) (d:=(.i t3)) S rfl rfl
       refine h_bin S CL hw le (subR rfl) rfl rfl rfl rfl rfl ⟨_,_,rfl,rfl,c23⟩ fun a S CL=>h_pick S CL hw le (subR rfl) (b:=true) (hc_of rfl c23) rfl rfl rfl trivial fun a S CL=>?_
       refine h_done ?_; clear CL hw le
       replace S:=S.rowu .h
       refine x_thenN ?_
       exact j7 _ (decide (t3<0)) a w (S.sb rfl (.c0 .n)) h4
      ·refine h_sk8 S CL rfl (ne_bool c23) fun a S CL=>h_sk1 S CL rfl (ne_bool c23) fun a S CL=>h_skipRt S rfl rfl rfl (ne_bool c23) rfl fun a S=>CL.bk hw S (.c0 .n) le fun hw=>?_
       replace CL:=CL.add (t:=118) (d:= .u) S rfl rfl
       refine h_sk1 S CL rfl (ne_bool c23) fun a S CL=>h_pick S CL hw le (subR rfl) (b:=false) (hc_of rfl c23) rfl rfl rfl trivial fun a S CL=>?_
       refine h_done ?_; clear CL hw le
       replace S:=S.rowu .h
       refine x_thenN ?_
       exact j7 _ false a w (S.sb rfl (.c0 .n)) h1
  refine wp_block ?_
  refine c_loop (fun q4 a w=>∃ m y107,St 178 m b0 [(13,(.i y107)),(12,(.i y1)),(0,(.s ch_0_0 ch_0_1 ch_0_2)),(1,(.i x2)),(4,(.v (.func (.func g.fc) #[] #[])))] [Res.row g.T g.e ch_0_0 ch_0_1 ch_0_2 ((x1.set (Int.toNat x2) (gt x1 x4)).set (Int.toNat x4) (gt x1 x2))] a w∧fe0_.l4 g k x1 x2 x4 y1 q4 y107=some r) ?_ ?_ (k:=k) ⟨_,(wr .i64 (x3 - 1)),(S.sb rfl (.c0 .n)),h0⟩
  ·rintro a w ⟨m,y107,S,h0⟩
   exact (nomatch (show (none:Option (Int×Bool×(List g.α)))=some r from h0))
  ·clear S h0
   rintro q4 a w ⟨m,y107,S,h0⟩
   replace h0:fe0_.b4 g k x1 x2 x4 y1 (fe0_.l4 g k x1 x2 x4 y1 q4) y107=some r:=h0
   delta fe0_.b4 at h0
   refine wp_seq (wp_seq_k fun K8 hK8=>?_)
   have j8:∀ m y108 a w,St 178 m b0 [(66,(.b y108)),(13,(.i y107)),(12,(.i y1)),(0,(.s ch_0_0 ch_0_1 ch_0_2)),(1,(.i x2)),(4,(.v (.func (.func g.fc) #[] #[])))] [Res.row g.T g.e ch_0_0 ch_0_1 ch_0_2 ((x1.set (Int.toNat x2) (gt x1 x4)).set (Int.toNat x4) (gt x1 x2))] a w→fe0_.j8 g k x1 x2 x4 y1 y107 (fe0_.l4 g k x1 x2 x4 y1 q4) y108=some r→K8 a w:=by
    intro m y108 a w S h0
    delta fe0_.j8 at h0
    refine hK8 a w ?_
    rcases ite_of h0 with ⟨c26,h1⟩ | ⟨c26,h1⟩
    ·refine c_condT S rfl c26 (wp_skip (x_thenN (wp_block (c_region' (s_mv1 S rfl fun a S=>s_bi S rfl fun a S=>s_as1 S rfl fun a S=>c_end' (x_blockN (x_thenN ?_)))))))
     exact ⟨_,(wr .i64 (y107 - 1)),(S.sb rfl (.c0 .n)),h1⟩
    ·refine c_condF S rfl c26 (wp_exit (x_thenX (x_thenX (x_blockX (x_thenN ?_)))))
     exact j2 _ y107 a w (S.sb rfl (.c0 .n)) h1
   have hS:=S.rowx (fun _=> .h)
   clear S; obtain ⟨cs8,S⟩:=hS
   refine c_hS S (.tk 0 13 (.alts (.run 13 true (.tk 14 3 .done) .nil))) 17 (.c0 .n) ⟨Res.stay_rowx,trivial⟩ [(13,(.i y107)),(12,(.i y1)),(0,(.s ch_0_0 ch_0_1 ch_0_2)),(1,(.i x2)),(4,(.v (.func (.func g.fc) #[] #[])))] rfl (by kernel_rfl) fun w S CL hw le=>?_
   refine h_mv2 S CL hw le rfl trivial trivial fun a S CL=>h_bin S CL hw le (subR rfl) rfl rfl rfl rfl rfl trivial fun a S CL=>h_mv1 S CL hw le rfl trivial fun a S CL=>?_
   rcases ite_of h0 with ⟨c27,h1⟩ | ⟨c27,h1⟩
   ·refine h_mv3 S CL hw le rfl ⟨_,_,rfl,rfl,c27⟩ ⟨_,_,rfl,rfl,c27⟩ ⟨_,_,rfl,rfl,c27⟩ fun a S CL=>?_
    obtain ⟨c28,h2⟩:=chk_of h1; clear h1
    refine h_iaddrX S CL hw le (subR rfl) (ty':=g.T) rfl .h rfl h.hU h.hT c28.1 c28.2 rfl rfl ⟨_,_,rfl,rfl,c27⟩ fun g39 a hA25 S CL=>h_ldXW S CL hw le (subR rfl) (i:=y107) rfl hA25 .h h.hT c28.1 c28.2 rfl rfl rfl ⟨_,_,rfl,rfl,c27⟩ fun ch27 a S CL=>h_mv2 S CL hw le rfl ⟨_,_,rfl,rfl,c27⟩ ⟨_,_,rfl,rfl,c27⟩ fun a S CL=>?_
    obtain ⟨c29,h3⟩:=chk_of h2; clear h2
    refine h_iaddrX S CL hw le (subR rfl) (ty':=g.T) rfl .h rfl h.hU h.hT c29.1 c29.2 rfl rfl ⟨_,_,rfl,rfl,c27⟩ fun g40 a hA26 S CL=>h_ldXW S CL hw le (subR rfl) (i:=x2) rfl hA26 .h h.hT c29.1 c29.2 rfl rfl rfl ⟨_,_,rfl,rfl,c27⟩ fun ch28 a S CL=>h_run' S rfl ⟨_,_,rfl,rfl,c27⟩ (bindX h3 fun t5 et5 h4=>s_callK S (h.hcmp et5) h.nc rfl .pre (fun _=> .n) rfl fun ch29 m le1 a w S=>?_)
    replace le:=le.trans le1
    refine CL.bk hw S (.c0 .n) le fun hw=>?_
    replace CL:=CL.add (t:=63) (d:=(.i t5)) S rfl rfl
    refine h_bin S CL hw le (subR rfl) rfl rfl rfl rfl rfl ⟨_,_,rfl,rfl,c27⟩ fun a S CL=>h_not S CL hw le (subR rfl) rfl rfl rfl ⟨_,_,rfl,rfl,c27⟩ fun a S CL=>h_pick S CL hw le (subR rfl) (b:=true) (hc_of rfl c27) rfl rfl rfl trivial fun a S CL=>?_
    refine h_done ?_; clear CL hw le
    replace S:=S.rowu .h
    refine x_thenN ?_
    exact j8 _ (!(decide (t5<0))) a w (S.sb rfl (.c0 .n)) h4
   ·refine h_sk8 S CL rfl (ne_bool c27) fun a S CL=>h_sk1 S CL rfl (ne_bool c27) fun a S CL=>h_skipRt S rfl rfl rfl (ne_bool c27) rfl fun a S=>CL.bk hw S (.c0 .n) le fun hw=>?_
    replace CL:=CL.add (t:=63) (d:= .u) S rfl rfl
    refine h_sk2 S CL rfl (ne_bool c27) fun a S CL=>h_pick S CL hw le (subR rfl) (b:=false) (hc_of rfl c27) rfl rfl rfl trivial fun a S CL=>?_
    refine h_done ?_; clear CL hw le
    replace S:=S.rowu .h
    refine x_thenN ?_
    exact j8 _ false a w (S.sb rfl (.c0 .n)) h1
 refine wp_block ?_
 refine c_loop (fun q5 a w=>∃ m y112,St 178 m b0 [(13,(.i (wr .i64 (x3 - 1)))),(12,(.i y112)),(0,(.s ch_0_0 ch_0_1 ch_0_2)),(1,(.i x2)),(4,(.v (.func (.func g.fc) #[] #[])))] [Res.row g.T g.e ch_0_0 ch_0_1 ch_0_2 ((x1.set (Int.toNat x2) (gt x1 x4)).set (Int.toNat x4) (gt x1 x2))] a w∧fe0_.l5 g k x1 x2 x3 x4 q5 y112=some r) ?_ ?_ (k:=k) ⟨_,(wr .i64 (x2+1)),(S.sb rfl (.c0 .n)),h3⟩
 ·rintro a w ⟨m,y112,S,h0⟩
  exact (nomatch (show (none:Option (Int×Bool×(List g.α)))=some r from h0))
 ·clear S h3
  rintro q5 a w ⟨m,y112,S,h0⟩
  replace h0:fe0_.b5 g k x1 x2 x3 x4 (fe0_.l5 g k x1 x2 x3 x4 q5) y112=some r:=h0
  delta fe0_.b5 at h0
  refine wp_seq (wp_seq_k fun K9 hK9=>?_)
  have j9:∀ m y113 a w,St 178 m b0 [(47,(.b y113)),(13,(.i (wr .i64 (x3 - 1)))),(12,(.i y112)),(0,(.s ch_0_0 ch_0_1 ch_0_2)),(1,(.i x2)),(4,(.v (.func (.func g.fc) #[] #[])))] [Res.row g.T g.e ch_0_0 ch_0_1 ch_0_2 ((x1.set (Int.toNat x2) (gt x1 x4)).set (Int.toNat x4) (gt x1 x2))] a w→fe0_.j9 g k x1 x2 x3 x4 y112 (fe0_.l5 g k x1 x2 x3 x4 q5) y113=some r→K9 a w:=by
   intro m y113 a w S h0
   delta fe0_.j9 at h0
   refine hK9 a w ?_
   rcases ite_of h0 with ⟨c30,h1⟩ | ⟨c30,h1⟩
   ·refine c_condT S rfl c30 (wp_skip (x_thenN (wp_block (c_region' (s_mv1 S rfl fun a S=>s_bi S rfl fun a S=>s_as1 S rfl fun a S=>c_end' (x_blockN (x_thenN ?_)))))))
    exact ⟨_,(wr .i64 (y112+1)),(S.sb rfl (.c0 .n)),h1⟩
   ·refine c_condF S rfl c30 (wp_exit (x_thenX (x_thenX (x_blockX (x_thenN ?_)))))
    exact j1 _ y112 a w (S.sb rfl (.c0 .n)) h1
  have hS:=S.rowx (fun _=> .h)
  clear S; obtain ⟨cs9,S⟩:=hS
  refine c_hS S (.tk 0 13 (.alts (.run 13 true (.take 14 (.take 15 .done)) .nil))) 16 (.c0 .n) ⟨Res.stay_rowx,trivial⟩ [(13,(.i (wr .i64 (x3 - 1)))),(12,(.i y112)),(0,(.s ch_0_0 ch_0_1 ch_0_2)),(1,(.i x2)),(4,(.v (.func (.func g.fc) #[] #[])))] rfl (by kernel_rfl) fun w S CL hw le=>?_
  refine h_mv2 S CL hw le rfl trivial trivial fun a S CL=>h_bin S CL hw le (subR rfl) rfl rfl rfl rfl rfl trivial fun a S CL=>h_mv1 S CL hw le rfl trivial fun a S CL=>?_
  rcases ite_of h0 with ⟨c31,h1⟩ | ⟨c31,h1⟩
  ·refine h_mv3 S CL hw le rfl ⟨_,_,rfl,rfl,c31⟩ ⟨_,_,rfl,rfl,c31⟩ ⟨_,_,rfl,rfl,c31⟩ fun a S CL=>?_
   obtain ⟨c32,h2⟩:=chk_of h1; clear h1
   refine h_iaddrX S CL hw le (subR rfl) (ty':=g.T) rfl .h rfl h.hU h.hT c32.1 c32.2 rfl rfl ⟨_,_,rfl,rfl,c31⟩ fun g43 a hA27 S CL=>h_ldXW S CL hw le (subR rfl) (i:=y112) rfl hA27 .h h.hT c32.1 c32.2 rfl rfl rfl ⟨_,_,rfl,rfl,c31⟩ fun ch32 a S CL=>h_mv2 S CL hw le rfl ⟨_,_,rfl,rfl,c31⟩ ⟨_,_,rfl,rfl,c31⟩ fun a S CL=>?_
   obtain ⟨c33,h3⟩:=chk_of h2; clear h2
   refine h_iaddrX S CL hw le (subR rfl) (ty':=g.T) rfl .h rfl h.hU h.hT c33.1 c33.2 rfl rfl ⟨_,_,rfl,rfl,c31⟩ fun g44 a hA28 S CL=>h_ldXW S CL hw le (subR rfl) (i:=x2) rfl hA28 .h h.hT c33.1 c33.2 rfl rfl rfl ⟨_,_,rfl,rfl,c31⟩ fun ch33 a S CL=>h_run' S rfl ⟨_,_,rfl,rfl,c31⟩ (bindX h3 fun t7 et7 h4=>s_callK S (h.hcmp et7) h.nc rfl .pre (fun _=> .n) rfl fun ch34 m le1 a w S=>?_)
   replace le:=le.trans le1
   refine CL.bk hw S (.c0 .n) le fun hw=>?_
   replace CL:=CL.add (t:=45) (d:=(.i t7)) S rfl rfl
   refine h_bin S CL hw le (subR rfl) rfl rfl rfl rfl rfl ⟨_,_,rfl,rfl,c31⟩ fun a S CL=>h_pick S CL hw le (subR rfl) (b:=true) (hc_of rfl c31) rfl rfl rfl trivial fun a S CL=>?_
   refine h_done ?_; clear CL hw le
   replace S:=S.rowu .h
   refine x_thenN ?_
   exact j9 _ (decide (t7<0)) a w (S.sb rfl (.c0 .n)) h4
  ·refine h_sk8 S CL rfl (ne_bool c31) fun a S CL=>h_sk1 S CL rfl (ne_bool c31) fun a S CL=>h_skipRt S rfl rfl rfl (ne_bool c31) rfl fun a S=>CL.bk hw S (.c0 .n) le fun hw=>?_
   replace CL:=CL.add (t:=45) (d:= .u) S rfl rfl
   refine h_sk1 S CL rfl (ne_bool c31) fun a S CL=>h_pick S CL hw le (subR rfl) (b:=false) (hc_of rfl c31) rfl rfl rfl trivial fun a S CL=>?_
   refine h_done ?_; clear CL hw le
   replace S:=S.rowu .h
   refine x_thenN ?_
   exact j9 _ false a w (S.sb rfl (.c0 .n)) h1
abbrev fd4_.Ty:Type:=Int→Option Int
def fd4_.Ctr (s:fd4_.Ty):Prop:=∀ {x1:Int} {r:Int} (h0:s x1=some r) {mi:Mem} {w0:World},CtrB Tryz.prog 122 [(.i x1)] [] (fun (ch:Unit)=>((.w r):D)) (fun (ch:Unit)=>[]) mi w0
def fd4_.f (x1:Int):Option Int:=(fk_.f (wr .u64 x1)).bind fun t1=>(if (0:Int)≤t1 then (some (shl .u64 1 (min (Int.toNat t1) 64))) else none)
theorem fd4_.ok:fd4_.Ctr (fd4_.f):=by
 intro x1 r h0 mi w0 ok hm
 delta fd4_.f at h0
 refine c_enterZ (n:=7) ok hm func122 rfl rfl rfl fun b0 hb a S=>c_region (s_as1 S rfl fun a S=>c_end (c_region (s_mv1 S rfl fun a S=>s_conv S rfl rfl underlying150 rfl fun a S=>bindX h0 fun t1 et1 h1=>s_callK S (fk_.ok et1) N98 rfl .pre (fun _=> .n) rfl fun ch1 m le1 a w S=>?_)))
 obtain ⟨c1,h2⟩:=chk_of h1; clear h1
 refine s_shl S (e:=(min (Int.toNat t1) 64)) rfl rfl c1 rfl rfl fun a S=>s_as1 S rfl fun a S=>c_end (wp_ret ?_)
 obtain rfl:=Option.some.inj h2
 exact b_ret1 (d:=(.w (shl .u64 1 (min (Int.toNat t1) 64)))) S rfl rfl (S.rt hb)
abbrev fe_.Ty:Type:=Int→Option (Int×Int)
def fe_.Ctr (s:fe_.Ty):Prop:=∀ {x1:Int} {ch_0_0:Nat} {r:Int×Int} (h0:s x1=some r) {mi:Mem} {w0:World},CtrB Tryz.prog 123 [(.p ch_0_0)] [Res.cells ch_0_0 168 [.w x1]] (fun (ch:Unit)=>((.w r.1):D)) (fun (ch:Unit)=>[Res.cells ch_0_0 168 [.w r.2]]) mi w0
def fe_.f (x1:Int):Option (Int×Int):=some (bits .xor .u64 (bits .xor .u64 (bits .xor .u64 x1 (shl .u64 x1 13)) (shr (bits .xor .u64 x1 (shl .u64 x1 13)) 7)) (shl .u64 (bits .xor .u64 (bits .xor .u64 x1 (shl .u64 x1 13)) (shr (bits .xor .u64 x1 (shl .u64 x1 13)) 7)) 17),bits .xor .u64 (bits .xor .u64 (bits .xor .u64 x1 (shl .u64 x1 13)) (shr (bits .xor .u64 x1 (shl .u64 x1 13)) 7)) (shl .u64 (bits .xor .u64 (bits .xor .u64 x1 (shl .u64 x1 13)) (shr (bits .xor .u64 x1 (shl .u64 x1 13)) 7)) 17))
theorem fe_.ok:fe_.Ctr (fe_.f):=by
 intro x1 ch_0_0 r h0 mi w0 ok hm
 delta fe_.f at h0
 refine c_enterZ (n:=33) ok hm func123 rfl rfl rfl fun b0 hb a S=>c_region (s_as1 S rfl fun a S=>c_end ?_)
 refine wp_seq (c_heldS S (.take 0 (.take 1 (.take 2 (.take 3 (.take 4 (.take 5 (.take 6 (.take 7 (.take 8 (.alts (.run 9 false .done .nil))))))))))) 9 [Res.cells ch_0_0 168 [.w x1]] (.c0 .n) ⟨Res.stay_cells,trivial⟩ [(0,(.p ch_0_0))] ⟨rfl,trivial⟩ (by kernel_rfl) (by kernel_rfl) ?_); clear S; intro w S CL hw le
 refine h_move S CL hw le ⟨rfl,trivial⟩ rfl rfl rfl trivial fun a S CL=>h_nilchk S CL hw le (subR rfl) rfl rfl rfl rfl trivial fun a S CL=>h_load1 S CL hw le (subR rfl) rfl .h T168 (v:=(.int .u64 x1)) rfl rfl rfl trivial fun a S CL=>h_mv1 S CL hw le rfl trivial fun a S CL=>h_nilchk S CL hw le (subR rfl) rfl rfl rfl rfl trivial fun a S CL=>h_load1 S CL hw le (subR rfl) rfl .h T168 (v:=(.int .u64 x1)) rfl rfl rfl trivial fun a S CL=>h_shl S CL hw le (subR rfl) (e:=13) rfl rfl (by decide) rfl rfl rfl trivial fun a S CL=>h_bin S CL hw le (subR rfl) rfl rfl rfl rfl rfl trivial fun a S CL=>h_nilchk S CL hw le (subR rfl) rfl rfl rfl rfl trivial fun a S CL=>h_run' S rfl trivial (s_storeJ S 0 rfl rfl rfl rfl .h T168 rfl rfl fun w S=>?_)
 refine h_back ⟨fun h=>(nomatch h),?_⟩
 refine h_done ?_; clear CL hw le
 refine x_thenN ?_
 refine wp_seq (c_heldS S (.take 0 (.take 1 (.take 2 (.take 3 (.take 4 (.take 5 (.take 6 (.take 7 (.take 8 (.alts (.run 9 false .done .nil))))))))))) 9 [Res.cells ch_0_0 168 [.w (bits .xor .u64 x1 (shl .u64 x1 13))]] (.c0 .n) ⟨Res.stay_cells,trivial⟩ [(0,(.p ch_0_0))] ⟨rfl,trivial⟩ (by kernel_rfl) (by kernel_rfl) ?_); clear S; intro w S CL hw le
 refine h_move S CL hw le ⟨rfl,trivial⟩ rfl rfl rfl trivial fun a S CL=>h_nilchk S CL hw le (subR rfl) rfl rfl rfl rfl trivial fun a S CL=>h_load1 S CL hw le (subR rfl) rfl .h T168 (v:=(.int .u64 (bits .xor .u64 x1 (shl .u64 x1 13)))) rfl rfl rfl trivial fun a S CL=>h_mv1 S CL hw le rfl trivial fun a S CL=>h_nilchk S CL hw le (subR rfl) rfl rfl rfl rfl trivial fun a S CL=>h_load1 S CL hw le (subR rfl) rfl .h T168 (v:=(.int .u64 (bits .xor .u64 x1 (shl .u64 x1 13)))) rfl rfl rfl trivial fun a S CL=>h_shr S CL hw le (subR rfl) (e:=7) rfl rfl (by decide) rfl rfl rfl trivial fun a S CL=>h_bin S CL hw le (subR rfl) rfl rfl rfl rfl rfl trivial fun a S CL=>h_nilchk S CL hw le (subR rfl) rfl rfl rfl rfl trivial fun a S CL=>h_run' S rfl trivial (s_storeJ S 0 rfl rfl rfl rfl .h T168 rfl rfl fun w S=>?_)
 refine h_back ⟨fun h=>(nomatch h),?_⟩
 refine h_done ?_; clear CL hw le
 refine x_thenN ?_
 refine wp_seq (c_heldS S (.take 0 (.take 1 (.take 2 (.take 3 (.take 4 (.take 5 (.take 6 (.take 7 (.take 8 (.alts (.run 9 false .done .nil))))))))))) 9 [Res.cells ch_0_0 168 [.w (bits .xor .u64 (bits .xor .u64 x1 (shl .u64 x1 13)) (shr (bits .xor .u64 x1 (shl .u64 x1 13)) 7))]] (.c0 .n) ⟨Res.stay_cells,trivial⟩ [(0,(.p ch_0_0))] ⟨rfl,trivial⟩ (by kernel_rfl) (by kernel_rfl) ?_); clear S; intro w S CL hw le
 refine h_move S CL hw le ⟨rfl,trivial⟩ rfl rfl rfl trivial fun a S CL=>h_nilchk S CL hw le (subR rfl) rfl rfl rfl rfl trivial fun a S CL=>h_load1 S CL hw le (subR rfl) rfl .h T168 (v:=(.int .u64 (bits .xor .u64 (bits .xor .u64 x1 (shl .u64 x1 13)) (shr (bits .xor .u64 x1 (shl .u64 x1 13)) 7)))) rfl rfl rfl trivial fun a S CL=>h_mv1 S CL hw le rfl trivial fun a S CL=>h_nilchk S CL hw le (subR rfl) rfl rfl rfl rfl trivial fun a S CL=>h_load1 S CL hw le (subR rfl) rfl .h T168 (v:=(.int .u64 (bits .xor .u64 (bits .xor .u64 x1 (shl .u64 x1 13)) (shr (bits .xor .u64 x1 (shl .u64 x1 13)) 7)))) rfl rfl rfl trivial fun a S CL=>h_shl S CL hw le (subR rfl) (e:=17) rfl rfl (by decide) rfl rfl rfl trivial fun a S CL=>h_bin S CL hw le (subR rfl) rfl rfl rfl rfl rfl trivial fun a S CL=>h_nilchk S CL hw le (subR rfl) rfl rfl rfl rfl trivial fun a S CL=>h_run' S rfl trivial (s_storeJ S 0 rfl rfl rfl rfl .h T168 rfl rfl fun w S=>?_)
 refine h_back ⟨fun h=>(nomatch h),?_⟩
 refine h_done ?_; clear CL hw le
 refine x_thenN (c_region (s_mv1 S rfl fun a S=>s_nilchk S rfl rfl fun a S=>s_load1 S rfl .h T168 (v:=(.int .u64 (bits .xor .u64 (bits .xor .u64 (bits .xor .u64 x1 (shl .u64 x1 13)) (shr (bits .xor .u64 x1 (shl .u64 x1 13)) 7)) (shl .u64 (bits .xor .u64 (bits .xor .u64 x1 (shl .u64 x1 13)) (shr (bits .xor .u64 x1 (shl .u64 x1 13)) 7)) 17)))) rfl rfl fun a S=>s_as1 S rfl fun a S=>c_end (wp_ret ?_)))
 obtain rfl:=Option.some.inj h0
 exact b_ret1 (d:=(.w (bits .xor .u64 (bits .xor .u64 (bits .xor .u64 x1 (shl .u64 x1 13)) (shr (bits .xor .u64 x1 (shl .u64 x1 13)) 7)) (shl .u64 (bits .xor .u64 (bits .xor .u64 x1 (shl .u64 x1 13)) (shr (bits .xor .u64 x1 (shl .u64 x1 13)) 7)) 17)))) S rfl rfl fun ok=>S.retX (Hx:=[]) hb _ _ (():Unit) (.c0 .n) ok
abbrev fa9_.Ty (g:SortG):Type:=(List g.α)→Int→Int→Option (List g.α)
def fa9_.Ctr (g:SortG)(s:fa9_.Ty g):Prop:=∀ {x1:List g.α} {x2:Int} {x3:Int} {ch_0_0:Option Addr} {ch_0_1:Nat} {ch_0_2:Nat} {r:List g.α} (h0:s x1 x2 x3=some r) {mi:Mem} {w0:World},CtrB Tryz.prog (g.φ 115) [(.s ch_0_0 ch_0_1 ch_0_2),(.i x2),(.i x3),(.v (.func (.func g.fc) #[] #[]))] [Res.row g.T g.e ch_0_0 ch_0_1 ch_0_2 x1] (fun (ch:Unit)=>((.tup []):D)) (fun (ch:Unit)=>[Res.row g.T g.e ch_0_0 ch_0_1 ch_0_2 r]) mi w0
def fa9_.j1 (g:SortG)(x2:Int)(y1:List g.α)(y2:Int)(rec1:(List g.α)→Int→Int→Option (List g.α))(t4:Int×Int)(y4:Int):Option (List g.α):=if (0:Int)≤(wr .i64 (x2+y4))∧(wr .i64 (x2+y4))<((y1).length:Int) then (if (0:Int)≤y2∧y2<((y1).length:Int) then (if (0:Int)≤(wr .i64 (x2+y4))∧(wr .i64 (x2+y4))<((y1.set (Int.toNat y2) (gt y1 (wr .i64 (x2+y4)))).length:Int) then (rec1 ((y1.set (Int.toNat y2) (gt y1 (wr .i64 (x2+y4)))).set (Int.toNat (wr .i64 (x2+y4))) (gt y1 y2)) (wr .i64 (y2+1)) t4.2) else none) else none) else none
def fa9_.b1 (g:SortG)(x2:Int)(x3:Int)(t1:Int)(rec1:(List g.α)→Int→Int→Option (List g.α))(y1:List g.α)(y2:Int)(y3:Int):Option (List g.α):=if (decide (y2≤(wr .i64 ((wr .i64 (x2+(wr .i64 ((wr .i64 (Int.tdiv (wr .i64 (x3 - x2)) 4))*2))))+1))))=true then ((fe_.f y3).bind fun t4=>(if (decide ((wr .i64 (x3 - x2))≤(wr .i64 (bits .and .u64 t4.1 (wr .u64 (t1 - 1))))))=true then (fa9_.j1 g x2 y1 y2 rec1 t4 (wr .i64 ((wr .i64 (bits .and .u64 t4.1 (wr .u64 (t1 - 1)))) - (wr .i64 (x3 - x2))))) else (fa9_.j1 g x2 y1 y2 rec1 t4 (wr .i64 (bits .and .u64 t4.1 (wr .u64 (t1 - 1))))))) else (some y1)
def fa9_.l1 (g:SortG)(x2:Int)(x3:Int)(t1:Int):Nat→(List g.α)→Int→Int→Option (List g.α)
  | 0,_,_,_=>none
  | q+1,y1,y2,y3=>fa9_.b1 g x2 x3 t1 (fa9_.l1 g x2 x3 t1 q) y1 y2 y3
def fa9_.f (g:SortG)(k:Nat)(x1:List g.α)(x2:Int)(x3:Int):Option (List g.α):=if (decide (8≤(wr .i64 (x3 - x2))))=true then ((fd4_.f (wr .i64 (x3 - x2))).bind fun t1=>(fa9_.l1 g x2 x3 t1 k x1 (wr .i64 ((wr .i64 (x2+(wr .i64 ((wr .i64 (Int.tdiv (wr .i64 (x3 - x2)) 4))*2)))) - 1)) (wr .u64 (wr .i64 (x3 - x2))))) else (some x1)
theorem fa9_.ok (g:SortG)(h:SortG.Ok g)(k:Nat):fa9_.Ctr g (fa9_.f g k):=by
 intro x1 x2 x3 ch_0_0 ch_0_1 ch_0_2 r h0 mi w0 ok hm
 delta fa9_.f at h0
 refine c_enterG (n:=67) [(.s ch_0_0 ch_0_1 ch_0_2),(.i x2),(.i x3),(.v (.func (.func g.fc) #[] #[]))] (l:=[(0,(.s ch_0_0 ch_0_1 ch_0_2)),(1,(.i x2)),(2,(.i x3)),(3,(.v (.func (.func g.fc) #[] #[])))]) h.n115 rfl rfl rfl ok hm ?_
 clear ok hm
 intro b0 hb a S
 refine c_region (s_mv2 S rfl fun a S=>s_bi S rfl fun a S=>s_as1 S rfl fun a S=>c_end (c_region (s_mv1 S rfl fun a S=>s_bi S rfl fun a S=>c_end ?_)))
 rcases ite_of h0 with ⟨c1,h1⟩ | ⟨c1,h1⟩
 ·refine c_condT S rfl c1 (c_region (s_mv1 S rfl fun a S=>s_conv S rfl rfl underlying168 rfl fun a S=>s_alloc S Z168 rfl rfl rfl fun g1 a w S=>s_storeJ S 0 rfl rfl rfl rfl .h T168 rfl rfl fun w S=>c_end (c_region (s_mv1 S rfl fun a S=>bindX h1 fun t1 et1 h2=>s_callK S (fd4_.ok et1) N122 rfl .pre (fun _=> .n) rfl fun ch1 m le1 a w S=>s_as1 S rfl fun a S=>c_end (c_region (s_mv2 S rfl fun a S=>s_quo S rfl rfl (by decide) rfl fun a S=>s_bi S rfl fun a S=>s_bi S rfl fun a S=>s_bi S rfl fun a S=>s_as1 S rfl fun a S=>c_end (wp_block ?_)))))))
  refine c_loop (fun q1 a w=>∃ m y1 y2 g14 y3,St 67 m b0 [(11,(.i y2)),(10,(.w t1)),(9,(.p g14)),(8,(.i (wr .i64 (x3 - x2)))),(0,(.s ch_0_0 ch_0_1 ch_0_2)),(1,(.i x2))] [Res.cells g14 168 [.w y3],Res.row g.T g.e ch_0_0 ch_0_1 ch_0_2 y1] a w∧fa9_.l1 g x2 x3 t1 q1 y1 y2 y3=some r) ?_ ?_ (k:=k) ⟨_,x1,(wr .i64 ((wr .i64 (x2+(wr .i64 ((wr .i64 (Int.tdiv (wr .i64 (x3 - x2)) 4))*2)))) - 1)),g1,(wr .u64 (wr .i64 (x3 - x2))),(S.sb rfl (.c0 (.c0 .n))),h2⟩
  ·rintro a w ⟨m,y1,y2,g14,y3,S,h0⟩
   exact (nomatch (show (none:Option (List g.α))=some r from h0))
  ·clear S h2
   rintro q1 a w ⟨m,y1,y2,g14,y3,S,h0⟩
   replace h0:fa9_.b1 g x2 x3 t1 (fa9_.l1 g x2 x3 t1 q1) y1 y2 y3=some r:=h0
   delta fa9_.b1 at h0
   refine wp_seq (c_region (s_mv3 S rfl fun a S=>s_quo S rfl rfl (by decide) rfl fun a S=>s_bi S rfl fun a S=>s_bi S rfl fun a S=>s_bi S rfl fun a S=>s_bi S rfl fun a S=>c_end ?_))
   rcases ite_of h0 with ⟨c2,h1⟩ | ⟨c2,h1⟩
   ·refine c_condT S rfl c2 (wp_skip (x_thenN (wp_seq (wp_block (c_region (bindX h1 fun t4 et4 h2=>s_callK S (fe_.ok et4) N123 rfl .pre (fun _=> .c1) rfl fun ch8 m le1 a w S=>s_mv1 S rfl fun a S=>s_bi S rfl fun a S=>s_bi S rfl fun a S=>s_conv S rfl rfl underlying3 rfl fun a S=>s_as1 S rfl fun a S=>c_end (wp_seq_k fun K1 hK1=>?_)))))))
    have j1:∀ m y4 g15 a w,St 67 m b0 [(12,(.i y4)),(11,(.i y2)),(10,(.w t1)),(9,(.p g15)),(8,(.i (wr .i64 (x3 - x2)))),(0,(.s ch_0_0 ch_0_1 ch_0_2)),(1,(.i x2))] [Res.cells g15 168 [.w t4.2],Res.row g.T g.e ch_0_0 ch_0_1 ch_0_2 y1] a w→fa9_.j1 g x2 y1 y2 (fa9_.l1 g x2 x3 t1 q1) t4 y4=some r→K1 a w:=by
     intro m y4 g15 a w S h0
     delta fa9_.j1 at h0
     refine hK1 a w ?_
     have hS:=S.rowx (fun _=> .h1)
     clear S; obtain ⟨cs1,S⟩:=hS
     refine c_hS S (.take 0 (.take 1 (.tk 6 11 (.pure 2 (.pure 3 (.pure 4 (.pure 5 (.alts (.run 17 false (.alts (.run 18 false (.alts (.run 19 false .done .nil)) .nil)) .nil))))))))) 17 (.c1 .n) ⟨Res.stay_rowx,trivial⟩ [(12,(.i y4)),(11,(.i y2)),(0,(.s ch_0_0 ch_0_1 ch_0_2)),(1,(.i x2))] rfl (by kernel_rfl) fun w S CL hw le=>?_
     refine h_mv4 S CL hw le rfl trivial trivial trivial trivial fun a S CL=>h_mv1 S CL hw le rfl trivial fun a S CL=>h_bin S CL hw le (subR rfl) rfl rfl rfl rfl rfl trivial fun a S CL=>?_
     obtain ⟨c3,h1⟩:=chk_of h0; clear h0
     refine h_iaddrX S CL hw le (subR rfl) (ty':=g.T) rfl .h rfl h.hU h.hT c3.1 c3.2 rfl rfl trivial fun g16 a hA1 S CL=>h_ldXW S CL hw le (subR rfl) (i:=(wr .i64 (x2+y4))) rfl hA1 .h h.hT c3.1 c3.2 rfl rfl rfl trivial fun ch9 a S CL=>h_mv2 S CL hw le rfl trivial trivial fun a S CL=>?_
     obtain ⟨c4,h2⟩:=chk_of h1; clear h1
     refine h_iaddrX S CL hw le (subR rfl) (ty':=g.T) rfl .h rfl h.hU h.hT c4.1 c4.2 rfl rfl trivial fun g17 a hA2 S CL=>h_ldXW S CL hw le (subR rfl) (i:=y2) rfl hA2 .h h.hT c4.1 c4.2 rfl rfl rfl trivial fun ch10 a S CL=>h_iaddrX S CL hw le (subR rfl) (ty':=g.T) rfl .h rfl h.hU h.hT c4.1 c4.2 rfl rfl trivial fun g18 a hA3 S CL=>p_move S rfl rfl rfl trivial fun a S=>p_move S rfl rfl rfl trivial fun a S=>p_move S rfl rfl rfl trivial fun a S=>p_bin S rfl rfl rfl rfl rfl trivial fun a S=>h_run' S rfl trivial ?_
     replace S:=S.rowu .h1
     refine s_stRW S (i:=y2) (u:=gt y1 (wr .i64 (x2+y4))) (cu:=ch9) rfl rfl hA3 .h1 h.hT c4.1 c4.2 rfl fun w S=>?_
     refine h_back ⟨fun h=>(nomatch h),?_⟩
     refine h_run' S rfl trivial ?_
     obtain ⟨c5,h3⟩:=chk_of h2; clear h2
     refine s_iaddrO S (ty':=g.T) rfl .h1 rfl h.hU h.hT c5.1 c5.2 rfl fun g19 a hA4 S=>?_
     refine h_back ⟨fun h=>(nomatch h),?_⟩
     refine h_run' S rfl trivial (s_stRW S (i:=(wr .i64 (x2+y4))) (u:=gt y1 y2) (cu:=ch10) rfl rfl hA4 .h1 h.hT c5.1 c5.2 rfl fun w S=>?_)
     refine h_back ⟨fun h=>(nomatch h),?_⟩
     refine h_done ?_; clear CL hw le
     refine x_blockN (x_thenN (c_region' (s_mv1 S rfl fun a S=>s_bi S rfl fun a S=>s_as1 S rfl fun a S=>c_end' (x_thenN ?_))))
     exact ⟨_,((y1.set (Int.toNat y2) (gt y1 (wr .i64 (x2+y4)))).set (Int.toNat (wr .i64 (x2+y4))) (gt y1 y2)),(wr .i64 (y2+1)),g15,t4.2,(S.sb rfl (.c0 (.c0 .n))),h3⟩
    refine c_region (s_mv2 S rfl fun a S=>s_bi S rfl fun a S=>c_end ?_)
    rcases ite_of h2 with ⟨c6,h3⟩ | ⟨c6,h3⟩
    ·refine c_condT S rfl c6 (c_region' (s_mv2 S rfl fun a S=>s_bi S rfl fun a S=>s_as1 S rfl fun a S=>c_end' (x_thenN ?_)))
     exact j1 _ (wr .i64 ((wr .i64 (bits .and .u64 t4.1 (wr .u64 (t1 - 1)))) - (wr .i64 (x3 - x2)))) g14 a w (S.sb rfl (.c0 (.c0 .n))) h3
    ·refine c_condF S rfl c6 (wp_skip (x_thenN ?_))
     exact j1 _ (wr .i64 (bits .and .u64 t4.1 (wr .u64 (t1 - 1)))) g14 a w (S.sb rfl (.c0 (.c0 .n))) h3
   ·refine c_condF S rfl c2 (wp_exit (x_thenX (x_thenX (x_blockX (b_end ?_)))))
    obtain rfl:=Option.some.inj h1
    exact b_ret0 S rfl (S.retX (Hx:=[]) hb _ _ (():Unit) (.c1 .n) trivial)
 ·refine c_condF S rfl c1 (wp_skip (b_end ?_))
  obtain rfl:=Option.some.inj h1
  exact b_ret0 S rfl (S.retX (Hx:=[]) hb _ _ (():Unit) (.c0 .n) trivial)
abbrev ff1_.Ty (g:SortG):Type:=(List g.α)→Int→Int→Int→Option (List g.α)
def ff1_.Ctr (g:SortG)(s:ff1_.Ty g):Prop:=∀ {x1:List g.α} {x2:Int} {x3:Int} {x4:Int} {ch_0_0:Option Addr} {ch_0_1:Nat} {ch_0_2:Nat} {r:List g.α} (h0:s x1 x2 x3 x4=some r) {mi:Mem} {w0:World},CtrB Tryz.prog (g.φ 101) [(.s ch_0_0 ch_0_1 ch_0_2),(.i x2),(.i x3),(.i x4),(.v (.func (.func g.fc) #[] #[]))] [Res.row g.T g.e ch_0_0 ch_0_1 ch_0_2 x1] (fun (ch:Unit)=>((.tup []):D)) (fun (ch:Unit)=>[Res.row g.T g.e ch_0_0 ch_0_1 ch_0_2 r]) mi w0
def ff1_.j4 (g:SortG)(k:Nat)(self0:ff1_.Ty g)(y2:Bool)(y3:Bool)(y4:Int)(y5:Int)(rec1:(List g.α)→Bool→Bool→Int→Int→Int→Option (List g.α))(y8:Int)(y11:Int)(y13:List g.α)(y14:Bool):Option (List g.α):=if y14=true then ((fa7_.f g k y13 y4 y5 y11).bind fun t8=>(rec1 t8.2 y2 y3 t8.1 y5 y8)) else ((fe0_.f g k y13 y4 y5 y11).bind fun t9=>(if (decide ((wr .i64 (t9.1 - y4))<(wr .i64 (y5 - t9.1))))=true then ((self0 t9.2.2 y4 t9.1 y8).bind fun t10=>(rec1 t10 t9.2.1 (decide ((wr .i64 (Int.tdiv (wr .i64 (y5 - y4)) 8))≤(wr .i64 (t9.1 - y4)))) (wr .i64 (t9.1+1)) y5 y8)) else ((self0 t9.2.2 (wr .i64 (t9.1+1)) y5 y8).bind fun t11=>(rec1 t11 t9.2.1 (decide ((wr .i64 (Int.tdiv (wr .i64 (y5 - y4)) 8))≤(wr .i64 (y5 - t9.1)))) y4 t9.1 y8))))
def ff1_.j3 (g:SortG)(k:Nat)(self0:ff1_.Ty g)(y2:Bool)(y3:Bool)(y4:Int)(y5:Int)(rec1:(List g.α)→Bool→Bool→Int→Int→Int→Option (List g.α))(y8:Int)(y11:Int)(y13:List g.α):Option (List g.α):=if (decide (0<y4))=true then (if (0:Int)≤(wr .i64 (y4 - 1))∧(wr .i64 (y4 - 1))<((y13).length:Int) then (if (0:Int)≤y11∧y11<((y13).length:Int) then ((g.cmp k (gt y13 (wr .i64 (y4 - 1))) (gt y13 y11)).bind fun t12=>(ff1_.j4 g k self0 y2 y3 y4 y5 rec1 y8 y11 y13 (!(decide (t12<0))))) else none) else none) else (ff1_.j4 g k self0 y2 y3 y4 y5 rec1 y8 y11 y13 false)
def ff1_.j5 (g:SortG)(k:Nat)(self0:ff1_.Ty g)(y2:Bool)(y3:Bool)(y4:Int)(y5:Int)(rec1:(List g.α)→Bool→Bool→Int→Int→Int→Option (List g.α))(y8:Int)(y9:List g.α)(y11:Int)(y15:Bool):Option (List g.α):=if y15=true then ((fa_.f g k y9 y4 y5).bind fun t13=>(if t13.1=true then (some t13.2) else (ff1_.j3 g k self0 y2 y3 y4 y5 rec1 y8 y11 t13.2))) else (ff1_.j3 g k self0 y2 y3 y4 y5 rec1 y8 y11 y9)
def ff1_.j2 (g:SortG)(k:Nat)(self0:ff1_.Ty g)(y2:Bool)(y3:Bool)(y4:Int)(y5:Int)(rec1:(List g.α)→Bool→Bool→Int→Int→Int→Option (List g.α))(y8:Int)(y9:List g.α)(y10:Int)(y11:Int):Option (List g.α):=if y3=true then (if y2=true then (ff1_.j5 g k self0 y2 y3 y4 y5 rec1 y8 y9 y11 (y10==1)) else (ff1_.j5 g k self0 y2 y3 y4 y5 rec1 y8 y9 y11 false)) else (ff1_.j5 g k self0 y2 y3 y4 y5 rec1 y8 y9 y11 false)
def ff1_.j1 (g:SortG)(k:Nat)(self0:ff1_.Ty g)(y2:Bool)(y3:Bool)(y4:Int)(y5:Int)(rec1:(List g.α)→Bool→Bool→Int→Int→Int→Option (List g.α))(y7:List g.α)(y8:Int):Option (List g.α):=(fc7_.f g k y7 y4 y5).bind fun t4=>(if (t4.2==2)=true then ((fb2_.f g k y7 y4 y5).bind fun t14=>(ff1_.j2 g k self0 y2 y3 y4 y5 rec1 y8 t14 1 (wr .i64 ((wr .i64 (y5 - 1)) - (wr .i64 (t4.1 - y4)))))) else (ff1_.j2 g k self0 y2 y3 y4 y5 rec1 y8 y7 t4.2 t4.1))
def ff1_.b1 (g:SortG)(k:Nat)(self0:ff1_.Ty g)(rec1:(List g.α)→Bool→Bool→Int→Int→Int→Option (List g.α))(y1:List g.α)(y2:Bool)(y3:Bool)(y4:Int)(y5:Int)(y6:Int):Option (List g.α):=if (decide ((wr .i64 (y5 - y4))≤12))=true then ((fb_.f g k y1 y4 y5).bind fun t1=>(some t1)) else (if (y6==0)=true then ((fe3_.f g k y1 y4 y5).bind fun t2=>(some t2)) else (if (!y3)=true then ((fa9_.f g k y1 y4 y5).bind fun t15=>(ff1_.j1 g k self0 y2 y3 y4 y5 rec1 t15 (wr .i64 (y6 - 1)))) else (ff1_.j1 g k self0 y2 y3 y4 y5 rec1 y1 y6)))
def ff1_.l1 (g:SortG)(k:Nat)(self0:ff1_.Ty g):Nat→(List g.α)→Bool→Bool→Int→Int→Int→Option (List g.α)
  | 0,_,_,_,_,_,_=>none
  | q+1,y1,y2,y3,y4,y5,y6=>ff1_.b1 g k self0 (ff1_.l1 g k self0 q) y1 y2 y3 y4 y5 y6
def ff1_.body (g:SortG)(self0:ff1_.Ty g)(k:Nat)(x1:List g.α)(x2:Int)(x3:Int)(x4:Int):Option (List g.α):=ff1_.l1 g k self0 k x1 true true x2 x3 x4
theorem ff1_.okb (g:SortG)(h:SortG.Ok g)(self0:ff1_.Ty g)(c_0:ff1_.Ctr g self0)(k:Nat):ff1_.Ctr g (ff1_.body g self0 k):=by
 intro x1 x2 x3 x4 ch_0_0 ch_0_1 ch_0_2 r h0 mi w0 ok hm
 delta ff1_.body at h0
 refine c_enterG (n:=148) [(.s ch_0_0 ch_0_1 ch_0_2),(.i x2),(.i x3),(.i x4),(.v (.func (.func g.fc) #[] #[]))] (l:=[(0,(.s ch_0_0 ch_0_1 ch_0_2)),(1,(.i x2)),(2,(.i x3)),(3,(.i x4)),(4,(.v (.func (.func g.fc) #[] #[])))]) h.n101 rfl rfl rfl ok hm ?_
 clear ok hm
 intro b0 hb a S
 refine c_region (s_as1 S rfl fun a S=>c_end (c_region (s_as1 S rfl fun a S=>c_end (wp_block ?_))))
 refine c_loop (fun q1 a w=>∃ m y1 y2 y3 y4 y5 y6,St 148 m b0 [(11,(.b y2)),(10,(.b y3)),(0,(.s ch_0_0 ch_0_1 ch_0_2)),(1,(.i y4)),(2,(.i y5)),(3,(.i y6)),(4,(.v (.func (.func g.fc) #[] #[])))] [Res.row g.T g.e ch_0_0 ch_0_1 ch_0_2 y1] a w∧ff1_.l1 g k self0 q1 y1 y2 y3 y4 y5 y6=some r) ?_ ?_ (k:=k) ⟨_,x1,true,true,x2,x3,x4,(S.sb rfl (.c0 .n)),h0⟩
 ·rintro a w ⟨m,y1,y2,y3,y4,y5,y6,S,h0⟩
  exact (nomatch (show (none:Option (List g.α))=some r from h0))
 ·clear S h0
  rintro q1 a w ⟨m,y1,y2,y3,y4,y5,y6,S,h0⟩
  replace h0:ff1_.b1 g k self0 (ff1_.l1 g k self0 q1) y1 y2 y3 y4 y5 y6=some r:=h0
  delta ff1_.b1 at h0
  refine wp_block (c_region (s_mv2 S rfl fun a S=>s_bi S rfl fun a S=>s_as1 S rfl fun a S=>c_end (wp_seq (c_region (s_mv1 S rfl fun a S=>s_bi S rfl fun a S=>c_end ?_)))))
  rcases ite_of h0 with ⟨c1,h1⟩ | ⟨c1,h1⟩
  ·refine c_condT S rfl c1 (c_region (s_mv4 S rfl fun a S=>bindX h1 fun t1 et1 h2=>s_callK S (fb_.ok g h k et1) h.n113.fn rfl .pre (fun _=> .c1) rfl fun ch1 m le1 a w S=>c_end (wp_ret (x_thenR (x_blockR (x_thenR (x_blockR ?_)))))))
   obtain rfl:=Option.some.inj h2
   exact b_ret0 S rfl (S.retX (Hx:=[]) hb _ _ (():Unit) (.c0 .n) trivial)
  ·refine c_condF S rfl c1 (wp_skip (x_thenN (wp_seq (c_region (s_mv1 S rfl fun a S=>s_bi S rfl fun a S=>c_end ?_)))))
   rcases ite_of h1 with ⟨c2,h2⟩ | ⟨c2,h2⟩
   ·refine c_condT S rfl c2 (c_region (s_mv4 S rfl fun a S=>bindX h2 fun t2 et2 h3=>s_callK S (fe3_.ok g h k et2) h.n114.fn rfl .pre (fun _=> .c1) rfl fun ch2 m le1 a w S=>c_end (wp_ret (x_thenR (x_blockR (x_thenR (x_blockR ?_)))))))
    obtain rfl:=Option.some.inj h3
    exact b_ret0 S rfl (S.retX (Hx:=[]) hb _ _ (():Unit) (.c0 .n) trivial)
   ·refine c_condF S rfl c2 (wp_skip (x_thenN (wp_seq_k fun K1 hK1=>?_)))
    have j1:∀ m y7 y8 a w,St 148 m b0 [(3,(.i y8)),(12,(.i (wr .i64 (y5 - y4)))),(11,(.b y2)),(10,(.b y3)),(0,(.s ch_0_0 ch_0_1 ch_0_2)),(1,(.i y4)),(2,(.i y5)),(4,(.v (.func (.func g.fc) #[] #[])))] [Res.row g.T g.e ch_0_0 ch_0_1 ch_0_2 y7] a w→ff1_.j1 g k self0 y2 y3 y4 y5 (ff1_.l1 g k self0 q1) y7 y8=some r→K1 a w:=by
     intro m y7 y8 a w S h0
     delta ff1_.j1 at h0
     refine hK1 a w (c_region (s_mv4 S rfl fun a S=>bindX h0 fun t4 et4 h1=>s_callK S (fc7_.ok g h k et4) h.n116.fn rfl .pre (fun _=> .c1) rfl fun ch3 m le1 a w S=>s_mv1 S rfl fun a S=>s_extract S rfl rfl rfl rfl fun a S=>s_extract S rfl rfl rfl rfl fun a S=>s_as2 S rfl fun a S=>c_end (wp_seq_k fun K2 hK2=>?_)))
     have j2:∀ m y9 y10 y11 a w,St 148 m b0 [(14,(.i y10)),(13,(.i y11)),(3,(.i y8)),(12,(.i (wr .i64 (y5 - y4)))),(11,(.b y2)),(10,(.b y3)),(0,(.s ch_0_0 ch_0_1 ch_0_2)),(1,(.i y4)),(2,(.i y5)),(4,(.v (.func (.func g.fc) #[] #[])))] [Res.row g.T g.e ch_0_0 ch_0_1 ch_0_2 y9] a w→ff1_.j2 g k self0 y2 y3 y4 y5 (ff1_.l1 g k self0 q1) y8 y9 y10 y11=some r→K2 a w:=by
      intro m y9 y10 y11 a w S h0
      delta ff1_.j2 at h0
      refine hK2 a w (wp_seq_k fun K3 hK3=>?_)
      have j3:∀ m y13 a w,St 148 m b0 [(13,(.i y11)),(3,(.i y8)),(12,(.i (wr .i64 (y5 - y4)))),(11,(.b y2)),(10,(.b y3)),(0,(.s ch_0_0 ch_0_1 ch_0_2)),(1,(.i y4)),(2,(.i y5)),(4,(.v (.func (.func g.fc) #[] #[])))] [Res.row g.T g.e ch_0_0 ch_0_1 ch_0_2 y13] a w→ff1_.j3 g k self0 y2 y3 y4 y5 (ff1_.l1 g k self0 q1) y8 y11 y13=some r→K3 a w:=by
       intro m y13 a w S h0
       delta ff1_.j3 at h0
       refine hK3 a w (wp_seq (wp_seq_k fun K4 hK4=>?_))
       have j4:∀ m y14 a w,St 148 m b0 [(97,(.b y14)),(13,(.i y11)),(3,(.i y8)),(12,(.i (wr .i64 (y5 - y4)))),(11,(.b y2)),(10,(.b y3)),(0,(.s ch_0_0 ch_0_1 ch_0_2)),(1,(.i y4)),(2,(.i y5)),(4,(.v (.func (.func g.fc) #[] #[])))] [Res.row g.T g.e ch_0_0 ch_0_1 ch_0_2 y13] a w→ff1_.j4 g k self0 y2 y3 y4 y5 (ff1_.l1 g k self0 q1) y8 y11 y13 y14=some r→K4 a w:=by
        intro m y14 a w S h0
        delta ff1_.j4 at h0
        refine hK4 a w ?_
        rcases ite_of h0 with ⟨c3,h1⟩ | ⟨c3,h1⟩
        ·refine c_condT S rfl c3 (c_region (s_mv5 S rfl fun a S=>bindX h1 fun t8 et8 h2=>s_callK S (fa7_.ok g h k et8) h.n119.fn rfl .pre (fun _=> .c1) rfl fun ch6 m le1 a w S=>s_as1 S rfl fun a S=>c_end (c_region (s_mv1 S rfl fun a S=>s_as1 S rfl fun a S=>c_end (wp_exit (x_thenX (x_blockX (x_thenN ?_))))))))
         exact ⟨_,t8.2,y2,y3,t8.1,y5,y8,(S.sb rfl (.c0 .n)),h2⟩
        ·refine c_condF S rfl c3 (wp_skip (x_thenN (c_region (s_mv5 S rfl fun a S=>bindX h1 fun t9 et9 h2=>s_callK S (fe0_.ok g h k et9) h.n120.fn rfl .pre (fun _=> .c1) rfl fun ch7 m le1 a w S=>s_mv1 S rfl fun a S=>s_extract S rfl rfl rfl rfl fun a S=>s_extract S rfl rfl rfl rfl fun a S=>s_as2 S rfl fun a S=>c_end (c_region (s_mv1 S rfl fun a S=>s_as1 S rfl fun a S=>c_end (c_region (s_mv2 S rfl fun a S=>s_bi S rfl fun a S=>s_mv2 S rfl fun a S=>s_bi S rfl fun a S=>s_as2 S rfl fun a S=>c_end (c_region (s_mv1 S rfl fun a S=>s_quo S rfl rfl (by decide) rfl fun a S=>s_as1 S rfl fun a S=>c_end (c_region (s_mv2 S rfl fun a S=>s_bi S rfl fun a S=>c_end ?_))))))))))))
         rcases ite_of h2 with ⟨c4,h3⟩ | ⟨c4,h3⟩
         ·refine c_condT S rfl c4 (c_region (s_mv2 S rfl fun a S=>s_bi S rfl fun a S=>s_as1 S rfl fun a S=>c_end (c_region (s_mv5 S rfl fun a S=>bindX h3 fun t10 et10 h4=>s_callK S (c_0 et10) h.n101.fn rfl .pre (fun _=> .c1) rfl fun ch8 m le1 a w S=>c_end (c_region' (s_mv1 S rfl fun a S=>s_bi S rfl fun a S=>s_as1 S rfl fun a S=>c_end' (x_blockN (x_thenN ?_))))))))
          exact ⟨_,t10,t9.2.1,(decide ((wr .i64 (Int.tdiv (wr .i64 (y5 - y4)) 8))≤(wr .i64 (t9.1 - y4)))),(wr .i64 (t9.1+1)),y5,y8,(S.sb rfl (.c0 .n)),h4⟩
         ·refine c_condF S rfl c4 (c_region (s_mv2 S rfl fun a S=>s_bi S rfl fun a S=>s_as1 S rfl fun a S=>c_end (c_region (s_mv2 S rfl fun a S=>s_bi S rfl fun a S=>s_mv3 S rfl fun a S=>bindX h3 fun t11 et11 h4=>s_callK S (c_0 et11) h.n101.fn rfl .pre (fun _=> .c1) rfl fun ch9 m le1 a w S=>c_end (c_region' (s_mv1 S rfl fun a S=>s_as1 S rfl fun a S=>c_end' (x_blockN (x_thenN ?_))))))))
          exact ⟨_,t11,t9.2.1,(decide ((wr .i64 (Int.tdiv (wr .i64 (y5 - y4)) 8))≤(wr .i64 (y5 - t9.1)))),y4,t9.1,y8,(S.sb rfl (.c0 .n)),h4⟩
       have hS:=S.rowx (fun _=> .h)
       clear S; obtain ⟨cs1,S⟩:=hS
       refine c_hS S (.tk 0 13 (.alts (.run 13 true (.tk 14 3 .done) .nil))) 17 (.c0 .n) ⟨Res.stay_rowx,trivial⟩ [(13,(.i y11)),(0,(.s ch_0_0 ch_0_1 ch_0_2)),(1,(.i y4)),(4,(.v (.func (.func g.fc) #[] #[])))] rfl (by kernel_rfl) fun w S CL hw le=>?_
       refine h_mv1 S CL hw le rfl trivial fun a S CL=>h_bin S CL hw le (subR rfl) rfl rfl rfl rfl rfl trivial fun a S CL=>h_mv1 S CL hw le rfl trivial fun a S CL=>?_
       rcases ite_of h0 with ⟨c5,h1⟩ | ⟨c5,h1⟩
       ·refine h_mv3 S CL hw le rfl ⟨_,_,rfl,rfl,c5⟩ ⟨_,_,rfl,rfl,c5⟩ ⟨_,_,rfl,rfl,c5⟩ fun a S CL=>h_bin S CL hw le (subR rfl) rfl rfl rfl rfl rfl ⟨_,_,rfl,rfl,c5⟩ fun a S CL=>?_
        obtain ⟨c6,h2⟩:=chk_of h1; clear h1
        refine h_iaddrX S CL hw le (subR rfl) (ty':=g.T) rfl .h rfl h.hU h.hT c6.1 c6.2 rfl rfl ⟨_,_,rfl,rfl,c5⟩ fun g1 a hA1 S CL=>h_ldXW S CL hw le (subR rfl) (i:=(wr .i64 (y4 - 1))) rfl hA1 .h h.hT c6.1 c6.2 rfl rfl rfl ⟨_,_,rfl,rfl,c5⟩ fun ch10 a S CL=>h_mv2 S CL hw le rfl ⟨_,_,rfl,rfl,c5⟩ ⟨_,_,rfl,rfl,c5⟩ fun a S CL=>?_
        obtain ⟨c7,h3⟩:=chk_of h2; clear h2
        refine h_iaddrX S CL hw le (subR rfl) (ty':=g.T) rfl .h rfl h.hU h.hT c7.1 c7.2 rfl rfl ⟨_,_,rfl,rfl,c5⟩ fun g2 a hA2 S CL=>h_ldXW S CL hw le (subR rfl) (i:=y11) rfl hA2 .h h.hT c7.1 c7.2 rfl rfl rfl ⟨_,_,rfl,rfl,c5⟩ fun ch11 a S CL=>h_run' S rfl ⟨_,_,rfl,rfl,c5⟩ (bindX h3 fun t12 et12 h4=>s_callK S (h.hcmp et12) h.nc rfl .pre (fun _=> .n) rfl fun ch12 m le1 a w S=>?_)
        replace le:=le.trans le1
        refine CL.bk hw S (.c0 .n) le fun hw=>?_
        replace CL:=CL.add (t:=94) (d:=(.i t12)) S rfl rfl
        refine h_bin S CL hw le (subR rfl) rfl rfl rfl rfl rfl ⟨_,_,rfl,rfl,c5⟩ fun a S CL=>h_not S CL hw le (subR rfl) rfl rfl rfl ⟨_,_,rfl,rfl,c5⟩ fun a S CL=>h_pick S CL hw le (subR rfl) (b:=true) (hc_of rfl c5) rfl rfl rfl trivial fun a S CL=>?_
        refine h_done ?_; clear CL hw le
        replace S:=S.rowu .h
        refine x_thenN ?_
        exact j4 _ (!(decide (t12<0))) a w (S.sb rfl (.c0 .n)) h4
       ·refine h_sk8 S CL rfl (ne_bool c5) fun a S CL=>h_sk2 S CL rfl (ne_bool c5) fun a S CL=>h_skipRt S rfl rfl rfl (ne_bool c5) rfl fun a S=>CL.bk hw S (.c0 .n) le fun hw=>?_
        replace CL:=CL.add (t:=94) (d:= .u) S rfl rfl
        refine h_sk2 S CL rfl (ne_bool c5) fun a S CL=>h_pick S CL hw le (subR rfl) (b:=false) (hc_of rfl c5) rfl rfl rfl trivial fun a S CL=>?_
        refine h_done ?_; clear CL hw le
        replace S:=S.rowu .h
        refine x_thenN ?_
        exact j4 _ false a w (S.sb rfl (.c0 .n)) h1
      refine wp_seq_k fun K5 hK5=>?_
      have j5:∀ m y15 a w,St 148 m b0 [(75,(.b y15)),(13,(.i y11)),(3,(.i y8)),(12,(.i (wr .i64 (y5 - y4)))),(11,(.b y2)),(10,(.b y3)),(0,(.s ch_0_0 ch_0_1 ch_0_2)),(1,(.i y4)),(2,(.i y5)),(4,(.v (.func (.func g.fc) #[] #[])))] [Res.row g.T g.e ch_0_0 ch_0_1 ch_0_2 y9] a w→ff1_.j5 g k self0 y2 y3 y4 y5 (ff1_.l1 g k self0 q1) y8 y9 y11 y15=some r→K5 a w:=by
       intro m y15 a w S h0
       delta ff1_.j5 at h0
       refine hK5 a w ?_
       rcases ite_of h0 with ⟨c8,h1⟩ | ⟨c8,h1⟩
       ·refine c_condT S rfl c8 (c_region (s_mv4 S rfl fun a S=>bindX h1 fun t13 et13 h2=>s_callK S (fa_.ok g h k et13) h.n118.fn rfl .pre (fun _=> .c1) rfl fun ch13 m le1 a w S=>c_end ?_))
        rcases ite_of h2 with ⟨c9,h3⟩ | ⟨c9,h3⟩
        ·refine c_condT S rfl c9 (wp_ret (x_thenR (x_blockR (x_thenR (x_blockR ?_)))))
         obtain rfl:=Option.some.inj h3
         exact b_ret0 S rfl (S.retX (Hx:=[]) hb _ _ (():Unit) (.c0 .n) trivial)
        ·refine c_condF S rfl c9 (wp_skip (x_thenN ?_))
         exact j3 _ t13.2 a w (S.sb rfl (.c0 .n)) h3
       ·refine c_condF S rfl c8 (wp_skip (x_thenN ?_))
        exact j3 _ y9 a w (S.sb rfl (.c0 .n)) h1
      refine c_region' (s_mv2 S rfl fun a S=>?_)
      rcases ite_of h0 with ⟨c10,h1⟩ | ⟨c10,h1⟩
      ·refine s_gT S (b:=y3) rfl rfl c10 (s_mv1 S rfl fun a S=>s_pick S (b:=true) (hc_of rfl c10) rfl rfl fun a S=>s_mv1 S rfl fun a S=>?_)
       rcases ite_of h1 with ⟨c11,h2⟩ | ⟨c11,h2⟩
       ·refine s_gT S (b:=y2) rfl rfl c11 (s_mv1 S rfl fun a S=>s_gT S (b:=y2) rfl rfl c11 (s_bi S rfl fun a S=>s_pick S (b:=true) (hc_of rfl c11) rfl rfl fun a S=>c_end' (x_thenN ?_)))
        exact j5 _ (y10==1) a w (S.sb rfl (.c0 .n)) h2
       ·refine s_gF S (b:=y2) rfl rfl c11 rfl fun a S=>s_gF S (b:=y2) rfl rfl c11 rfl fun a S=>s_pick S (b:=false) (hc_of rfl c11) rfl rfl fun a S=>c_end' (x_thenN ?_)
        exact j5 _ false a w (S.sb rfl (.c0 .n)) h2
      ·refine s_gF S (b:=y3) rfl rfl c10 rfl fun a S=>s_pick S (b:=false) (hc_of rfl c10) rfl rfl fun a S=>s_mv1 S rfl fun a S=>s_gF S (b:=false) rfl rfl rfl rfl fun a S=>s_gF S (b:=false) rfl rfl rfl rfl fun a S=>s_pick S (b:=false) (hc_of rfl rfl) rfl rfl fun a S=>c_end' (x_thenN ?_)
       exact j5 _ false a w (S.sb rfl (.c0 .n)) h1
     refine c_region (s_mv1 S rfl fun a S=>s_bi S rfl fun a S=>c_end ?_)
     rcases ite_of h1 with ⟨c12,h2⟩ | ⟨c12,h2⟩
     ·refine c_condT S rfl c12 (c_region (s_mv4 S rfl fun a S=>bindX h2 fun t14 et14 h3=>s_callK S (fb2_.ok g h k et14) h.n117.fn rfl .pre (fun _=> .c1) rfl fun ch14 m le1 a w S=>c_end (c_region (s_mv1 S rfl fun a S=>s_bi S rfl fun a S=>s_mv2 S rfl fun a S=>s_bi S rfl fun a S=>s_bi S rfl fun a S=>s_as1 S rfl fun a S=>c_end (c_region' (s_as1 S rfl fun a S=>c_end' (x_thenN ?_)))))))
      exact j2 _ t14 1 (wr .i64 ((wr .i64 (y5 - 1)) - (wr .i64 (t4.1 - y4)))) a w (S.sb rfl (.c0 .n)) h3
     ·refine c_condF S rfl c12 (wp_skip (x_thenN ?_))
      exact j2 _ y7 t4.2 t4.1 a w (S.sb rfl (.c0 .n)) h2
    refine c_region (s_mv1 S rfl fun a S=>s_not S rfl rfl fun a S=>c_end ?_)
    rcases ite_of h2 with ⟨c13,h3⟩ | ⟨c13,h3⟩
    ·refine c_condT S rfl c13 (c_region (s_mv4 S rfl fun a S=>bindX h3 fun t15 et15 h4=>s_callK S (fa9_.ok g h k et15) h.n115.fn rfl .pre (fun _=> .c1) rfl fun ch15 m le1 a w S=>c_end (c_region' (s_mv1 S rfl fun a S=>s_bi S rfl fun a S=>s_as1 S rfl fun a S=>c_end' (x_thenN ?_)))))
     exact j1 _ t15 (wr .i64 (y6 - 1)) a w (S.sb rfl (.c0 .n)) h4
    ·refine c_condF S rfl c13 (wp_skip (x_thenN ?_))
     exact j1 _ y1 y6 a w (S.sb rfl (.c0 .n)) h3
def ff1_.f (g:SortG):Nat→ff1_.Ty g
  | 0=>fun _ _ _ _=>none
  | k+1=>ff1_.body g (ff1_.f g k) k
theorem ff1_.oks (g:SortG)(h:SortG.Ok g)(k:Nat):ff1_.Ctr g (ff1_.f g k):=by
  induction k with
  | zero=>exact (by intro _ _ _ _ _ _ _ r h0; exact (nomatch (show (none:Option (List g.α))=some r from h0)))
  | succ k ih =>
    exact ff1_.okb g h (ff1_.f g k) ih k
theorem ff1_.ok (g:SortG)(h:SortG.Ok g)(k:Nat):ff1_.Ctr g (ff1_.f g k):=(ff1_.oks g h k)
abbrev fj2_.Ty (g:SortG):Type:=(List g.α)→Option (List g.α)
def fj2_.Ctr (g:SortG)(s:fj2_.Ty g):Prop:=∀ {x1:List g.α} {ch_0_0:Option Addr} {ch_0_1:Nat} {ch_0_2:Nat} {r:List g.α} (h0:s x1=some r) {mi:Mem} {w0:World},CtrB Tryz.prog (g.φ 93) [(.s ch_0_0 ch_0_1 ch_0_2),(.v (.func (.func g.fc) #[] #[]))] [Res.row g.T g.e ch_0_0 ch_0_1 ch_0_2 x1] (fun (ch:Unit)=>((.tup []):D)) (fun (ch:Unit)=>[Res.row g.T g.e ch_0_0 ch_0_1 ch_0_2 r]) mi w0
def fj2_.f (g:SortG)(k:Nat)(x1:List g.α):Option (List g.α):=(fk_.f (wr .u64 ((x1).length:Int))).bind fun t1=>((ff1_.f g k x1 0 ((x1).length:Int) t1).bind fun t2=>(some t2))
theorem fj2_.ok (g:SortG)(h:SortG.Ok g)(k:Nat):fj2_.Ctr g (fj2_.f g k):=by
 intro x1 ch_0_0 ch_0_1 ch_0_2 r h0 mi w0 ok hm
 delta fj2_.f at h0
 refine c_enterG (n:=14) [(.s ch_0_0 ch_0_1 ch_0_2),(.v (.func (.func g.fc) #[] #[]))] (l:=[(0,(.s ch_0_0 ch_0_1 ch_0_2)),(1,(.v (.func (.func g.fc) #[] #[])))]) h.n93 rfl rfl rfl ok hm ?_
 clear ok hm
 intro b0 hb a S
 refine c_region (s_mv1 S rfl fun a S=>s_lenO S rfl .h h.hU rfl fun a S=>s_as1 S rfl fun a S=>c_end (c_region' (s_mv3 S rfl fun a S=>s_conv S rfl rfl underlying150 rfl fun a S=>bindX h0 fun t1 et1 h1=>s_callK S (fk_.ok et1) N98 rfl .pre (fun _=> .n) rfl fun ch1 m le1 a w S=>s_mv1 S rfl fun a S=>bindX h1 fun t2 et2 h2=>s_callK S (ff1_.ok g h k et2) h.n101.fn rfl .pre (fun _=> .c1) rfl fun ch2 m le1 a w S=>c_end' (b_end ?_))))
 obtain rfl:=Option.some.inj h2
 exact b_ret0 S rfl (S.retX (Hx:=[]) hb _ _ (():Unit) (.c0 .n) trivial)
def lexW (a b:List Int):Int:=if a=b then 0 else if rd a 3=rd b 3 then if rd a 2=rd b 2 then if rd a 1=rd b 1 then if rd a 0<rd b 0 then -1 else 1 else if rd a 1<rd b 1 then -1 else 1 else if rd a 2<rd b 2 then -1 else 1 else if rd a 3<rd b 3 then -1 else 1
theorem lexW_j (a b:List Int){i:Int}(hi:(0:Int)≤i∧i<4):fj0_.j1 a b i=some (if rd a i<rd b i then -1 else 1):=by
  unfold fj0_.j1
  rw [if_pos hi]
  by_cases c:rd a i<rd b i
  · rw [if_pos (decide_eq_true c),if_pos c]
  · rw [if_neg (by simpa using c),if_neg c]
theorem lexW_b (a b:List Int)(rec1:Int→Option Int){i:Int}(hi:(0:Int)≤i∧i<4):fj0_.b1 a b rec1 i=if rd a i=rd b i then rec1 (wr .i64 (i - 1)) else some (if rd a i<rd b i then -1 else 1):=by
  unfold fj0_.b1
  rw [if_pos hi,lexW_j a b hi]
  by_cases c:rd a i=rd b i
  · rw [if_pos (by simpa using c),if_pos c]
  · rw [if_neg (by simpa using c),if_neg c]
theorem lexW_eq {a b:List Int}(ha:a.length=4)(hb:b.length=4):fj0_.f 5 a b=some (lexW a b):=by
  unfold fj0_.f lexW
  by_cases e:a=b
  · rw [if_pos (decide_eq_true e),if_pos e]
  rw [if_neg (by simpa using e),if_neg e]
  have h0:rd a 3=rd b 3→rd a 2=rd b 2→rd a 1=rd b 1→¬ rd a 0=rd b 0:=fun h3 h2 h1 h0=>e (by
    match a,ha,b,hb with
    | [a0,a1,a2,a3],_,[b0,b1,b2,b3],_ =>
      have e0:a0=b0:=h0
      have e1:a1=b1:=h1
      have e2:a2=b2:=h2
      have e3:a3=b3:=h3
      rw [e0,e1,e2,e3])
  show fj0_.b1 a b (fj0_.b1 a b (fj0_.b1 a b (fj0_.b1 a b (fj0_.l1 a b 1)))) 3=_
  rw [lexW_b a b _ (by omega),show wr .i64 ((3:Int) - 1)=2 from rfl,lexW_b a b _ (by omega),show wr .i64 ((2:Int) - 1)=1 from rfl,lexW_b a b _ (by omega),show wr .i64 ((1:Int) - 1)=0 from rfl,lexW_b a b _ (by omega)]
  split
  · split
    · split
      · rename_i h3 h2 h1
        rw [if_neg (h0 h3 h2 h1)]
      · rfl
    · rfl
  · rfl
abbrev G1:SortG:={ α:=(List Int)×(List Int),inh:=inferInstance,T:=Y83,e:=83,s:=69,c:=145,φ:=fun f=>f,fc:=94,cmp:=fun _ x y=>some (lexW x.1 y.1) }
theorem H1:SortG.Ok G1 where
  hT:=T83
  hU:=underlying69
  hcmp:=fun {k x y cx cy r} e {mi w0} ok=>fd2_.ok 5 (show fd2_.f 5 x y=some r by unfold fd2_.f; rw [lexW_eq (show x.1.length=4 from ok.1.1) (show y.1.length=4 from ok.2.1.1),Option.bind_some]; exact e) ok
  nc:=N94
  n113:=⟨⟨_,func113,by kernel_rfl,rfl,by kernel_rfl,by decide⟩⟩
  n126:=⟨⟨_,func126,by kernel_rfl,rfl,by kernel_rfl,by decide⟩⟩
  n114:=⟨⟨_,func114,by kernel_rfl,rfl,by kernel_rfl,by decide⟩⟩
  n115:=⟨⟨_,func115,by kernel_rfl,rfl,by kernel_rfl,by decide⟩⟩
  n130:=⟨⟨_,func130,by kernel_rfl,rfl,by kernel_rfl,by decide⟩⟩
  n128:=⟨⟨_,func128,by kernel_rfl,rfl,by kernel_rfl,by decide⟩⟩
  n127:=⟨⟨_,func127,by kernel_rfl,rfl,by kernel_rfl,by decide⟩⟩
  n116:=⟨⟨_,func116,by kernel_rfl,rfl,by kernel_rfl,by decide⟩⟩
  n117:=⟨⟨_,func117,by kernel_rfl,rfl,by kernel_rfl,by decide⟩⟩
  n118:=⟨⟨_,func118,by kernel_rfl,rfl,by kernel_rfl,by decide⟩⟩
  n119:=⟨⟨_,func119,by kernel_rfl,rfl,by kernel_rfl,by decide⟩⟩
  n120:=⟨⟨_,func120,by kernel_rfl,rfl,by kernel_rfl,by decide⟩⟩
  n101:=⟨⟨_,func101,by kernel_rfl,rfl,by kernel_rfl,by decide⟩⟩
  n93:=⟨⟨_,func93,by kernel_rfl,rfl,by kernel_rfl,by decide⟩⟩
abbrev fe7_.Ty:Type:=W32→Option W18
def fe7_.Ctr (s:fe7_.Ty):Prop:=∀ {x1:W32} {ch_0_0:Nat} {ch_0_1:Option Addr} {ch_0_2:Nat} {ch_0_3:Option Addr} {ch_0_4:Nat} {ch_0_5:Option Addr} {ch_0_6:Nat} {ch_0_7:Option Addr} {ch_0_8:Nat} {ch_0_9:Nat} {ch_0_10:Nat} {r:W18} (h0:s x1=some r) {mi:Mem} {w0:World},CtrB Tryz.prog 59 [(.p ch_0_0)] [Res.cells ch_0_0 110 [.b20 x1.1.1, .w x1.1.2.1, .w4 x1.1.e3, .q yb ch_0_1 ch_0_2 x1.1.e4, .q Y83 ch_0_3 ch_0_4 x1.1.t4, .b20 x1.2.1.1, .w x1.2.1.2.1, .w4 x1.2.1.e3, .q yb ch_0_5 ch_0_6 x1.2.1.e4, .q Y83 ch_0_7 ch_0_8 x1.2.1.t4, .b x1.e3, .one (.map (some ch_0_9)), .b x1.e5, .b x1.e6, .one (.map (some ch_0_10))],Res.map true (Ty.arr .u64 4) true (Ty.arr .u64 4) ch_0_9 x1.e4,Res.map true (Ty.arr .u64 4) false Ty.bool ch_0_10 x1.t6] (fun (ch:(Option Addr)×Nat×Nat)=>((.s ch.1 ch.2.1 ch.t2):D)) (fun (ch:(Option Addr)×Nat×Nat)=>[Res.row Y83 83 ch.1 ch.2.1 ch.t2 r,Res.cells ch_0_0 110 [.b20 x1.1.1, .w x1.1.2.1, .w4 x1.1.e3, .q yb ch_0_1 ch_0_2 x1.1.e4, .q Y83 ch_0_3 ch_0_4 x1.1.t4, .b20 x1.2.1.1, .w x1.2.1.2.1, .w4 x1.2.1.e3, .q yb ch_0_5 ch_0_6 x1.2.1.e4, .q Y83 ch_0_7 ch_0_8 x1.2.1.t4, .b x1.e3, .one (.map (some ch_0_9)), .b x1.e5, .b x1.e6, .one (.map (some ch_0_10))],Res.map true (Ty.arr .u64 4) true (Ty.arr .u64 4) ch_0_9 x1.e4,Res.map true (Ty.arr .u64 4) false Ty.bool ch_0_10 x1.t6]) mi w0
def fe7_.j2 (k:Nat)(y6:W18):Option W18:=(fj2_.f G1 k y6).bind fun t1=>(some t1)
def fe7_.b1 (k:Nat)(rec1:W18→W18→Option W18)(y9:W18)(y10:W18):Option W18:=rngL y9 (fe7_.j2 k y10) fun e1=>if (!(decide (e1.2=[0,0,0,0])))=true then (if ((y10).length+([e1]).length)*64≤140737488355328 then (rec1 (adel y9 e1.1) (y10++[e1])) else none) else (rec1 (adel y9 e1.1) y10)
def fe7_.l1 (k:Nat):Nat→W18→W18→Option W18
  | 0,_,_=>none
  | q+1,y9,y10=>fe7_.b1 k (fe7_.l1 k q) y9 y10
def fe7_.j1 (k:Nat)(x1:W32)(y1:W18):Option W18:=fe7_.l1 k k x1.2.2.2.1 y1
def fe7_.j3 (y16:Int)(rec2:W18→Int→Option W18)(y17:W18):Option W18:=rec2 y17 (wr .i64 (y16+1))
def fe7_.j4 (x1:W32)(y15:W18)(y16:Int)(rec2:W18→Int→Option W18):Option W18:=if (!((lk (aget x1.2.2.2.1 ((gt x1.1.2.2.2.2 y16).1)) [0,0,0,0]).2))=true then (if ((y15).length+([gt x1.1.2.2.2.2 y16]).length)*64≤140737488355328 then (fe7_.j3 y16 rec2 (y15++[gt x1.1.2.2.2.2 y16])) else none) else (fe7_.j3 y16 rec2 y15)
def fe7_.b2 (k:Nat)(x1:W32)(rec2:W18→Int→Option W18)(y15:W18)(y16:Int):Option W18:=if (decide (y16<((x1.1.2.2.2.2).length:Int)))=true then (if (0:Int)≤y16∧y16<((x1.1.2.2.2.2).length:Int) then (fe7_.j4 x1 y15 y16 rec2) else none) else (fe7_.j1 k x1 y15)
def fe7_.l2 (k:Nat)(x1:W32):Nat→W18→Int→Option W18
  | 0,_,_=>none
  | q+1,y15,y16=>fe7_.b2 k x1 (fe7_.l2 k x1 q) y15 y16
def fe7_.f (k:Nat)(x1:W32):Option W18:=if (!x1.2.2.1)=true then (fe7_.l2 k x1 k ([]:List ((List Int)×(List Int))) 0) else (fe7_.j1 k x1 ([]:List ((List Int)×(List Int))))
theorem fe7_.ok (k:Nat):fe7_.Ctr (fe7_.f k):=by
 intro x1 ch_0_0 ch_0_1 ch_0_2 ch_0_3 ch_0_4 ch_0_5 ch_0_6 ch_0_7 ch_0_8 ch_0_9 ch_0_10 r h0 mi w0 ok hm
 delta fe7_.f at h0
 refine c_enterZ (n:=64) ok hm func59 rfl rfl rfl fun b0 hb a S=>c_region (s_as1 S rfl fun a S=>c_end (c_region (s_as1 S rfl fun a S=>c_end (wp_seq_k fun K1 hK1=>?_))))
 have j1:∀ m A1 nn1 cp1 y1 a w,St 64 m b0 [(3,(.s A1 nn1 cp1)),(0,(.p ch_0_0))] [Res.row Y83 83 A1 nn1 cp1 y1,Res.cells ch_0_0 110 [.b20 x1.1.1, .w x1.1.2.1, .w4 x1.1.e3, .q yb ch_0_1 ch_0_2 x1.1.e4, .q Y83 ch_0_3 ch_0_4 x1.1.t4, .b20 x1.2.1.1, .w x1.2.1.2.1, .w4 x1.2.1.e3, .q yb ch_0_5 ch_0_6 x1.2.1.e4, .q Y83 ch_0_7 ch_0_8 x1.2.1.t4, .b x1.e3, .one (.map (some ch_0_9)), .b x1.e5, .b x1.e6, .one (.map (some ch_0_10))],Res.map true (Ty.arr .u64 4) true (Ty.arr .u64 4) ch_0_9 x1.e4,Res.map true (Ty.arr .u64 4) false Ty.bool ch_0_10 x1.t6] a w→fe7_.j1 k x1 y1=some r→K1 a w:=by
  intro m A1 nn1 cp1 y1 a w S h0
  delta fe7_.j1 at h0
  refine hK1 a w (wp_seq_k fun K2 hK2=>?_)
  have j2:∀ m A2 nn4 cp6 y6 a w,St 64 m b0 [(3,(.s A2 nn4 cp6))] [Res.row Y83 83 A2 nn4 cp6 y6,Res.cells ch_0_0 110 [.b20 x1.1.1, .w x1.1.2.1, .w4 x1.1.e3, .q yb ch_0_1 ch_0_2 x1.1.e4, .q Y83 ch_0_3 ch_0_4 x1.1.t4, .b20 x1.2.1.1, .w x1.2.1.2.1, .w4 x1.2.1.e3, .q yb ch_0_5 ch_0_6 x1.2.1.e4, .q Y83 ch_0_7 ch_0_8 x1.2.1.t4, .b x1.e3, .one (.map (some ch_0_9)), .b x1.e5, .b x1.e6, .one (.map (some ch_0_10))],Res.map true (Ty.arr .u64 4) true (Ty.arr .u64 4) ch_0_9 x1.e4,Res.map true (Ty.arr .u64 4) false Ty.bool ch_0_10 x1.t6] a w→fe7_.j2 k y6=some r→K2 a w:=by
   intro m A2 nn4 cp6 y6 a w S h0
   delta fe7_.j2 at h0
   refine hK2 a w (c_region (s_mv1 S rfl fun a S=>bindX h0 fun t1 et1 h1=>s_callK S (fj2_.ok G1 H1 k et1) N93 rfl .pre (fun _=> .c1) rfl fun ch1 m le1 a w S=>c_end (c_region (s_mv1 S rfl fun a S=>s_as1 S rfl fun a S=>c_end (wp_ret ?_)))))
   obtain rfl:=Option.some.inj h1
   exact b_ret1 (d:=(.s A2 nn4 cp6)) S rfl rfl fun ok=>S.retX (Hx:=[]) hb _ _ ((A2,nn4,cp6):(Option Addr)×Nat×Nat) (.c0 (.c0 (.c0 (.c0 .n)))) ok
  refine c_region (s_mv1 S rfl fun a S=>s_nilchk S rfl rfl fun a S=>s_fieldAddr S rfl I110_3 T107 (by decide) rfl rfl fun a S=>s_load1 S rfl .h1 T107 (v:=(.map (some ch_0_9))) rfl rfl fun a S=>s_rangeO S rfl (fun _ _=> .h2) underlying107 rfl fun g1 es1 ck1 a w S=>c_end (wp_block ?_))
  refine c_loop (fun q1 a w=>∃ m g10 y9 cu1 A3 nn6 cp10 y10,St 64 m b0 [(46,(.p g10)),(3,(.s A3 nn6 cp10))] [Res.iterx true (Ty.arr .u64 4) true (Ty.arr .u64 4) g10 ch_0_9 es1 ck1 x1.e4 y9 cu1,Res.row Y83 83 A3 nn6 cp10 y10,Res.cells ch_0_0 110 [.b20 x1.1.1, .w x1.1.2.1, .w4 x1.1.e3, .q yb ch_0_1 ch_0_2 x1.1.e4, .q Y83 ch_0_3 ch_0_4 x1.1.t4, .b20 x1.2.1.1, .w x1.2.1.2.1, .w4 x1.2.1.e3, .q yb ch_0_5 ch_0_6 x1.2.1.e4, .q Y83 ch_0_7 ch_0_8 x1.2.1.t4, .b x1.e3, .one (.map (some ch_0_9)), .b x1.e5, .b x1.e6, .one (.map (some ch_0_10))],Res.mapx true (Ty.arr .u64 4) true (Ty.arr .u64 4) ch_0_9 es1 ck1 x1.e4,Res.map true (Ty.arr .u64 4) false Ty.bool ch_0_10 x1.t6] a w∧fe7_.l1 k q1 y9 y10=some r) ?_ ?_ (k:=k) ⟨_,g1,x1.e4,none,A1,nn1,cp1,y1,(S.sb rfl (.c0 (.c0 (.c0 (.c0 (.c0 .n)))))),h0⟩
  ·rintro a w ⟨m,g10,y9,cu1,A3,nn6,cp10,y10,S,h0⟩
   exact (nomatch (show (none:Option W18)=some r from h0))
  ·clear S h0
   rintro q1 a w ⟨m,g10,y9,cu1,A3,nn6,cp10,y10,S,h0⟩
   replace h0:fe7_.b1 k (fe7_.l1 k q1) y9 y10=some r:=h0
   delta fe7_.b1 at h0
   refine c_region ?_
   refine s_nextO S rfl (fun _ _=> .h) .h3 rfl ?_ ?_
   ·clear S a; intro hR a S
    have h1:=(rng_of h0).1 hR; clear h0
    refine s_extract S rfl rfl rfl rfl fun a S=>c_end (wp_seq (c_condF S rfl rfl (wp_exit (x_thenX (x_thenX (x_blockX (x_thenN ?_)))))))
    exact j2 _ A3 nn6 cp10 y10 a w (S.sub ⟨rfl,trivial⟩ (.c1 (.c1 (.c1 (.c1 .n))))) h1
   ·clear S a w; intro e1 hee1 ch2 ch3 a w S
    have h1:=(rng_of h0).2 e1 hee1; clear h0
    refine s_extract S rfl rfl rfl rfl fun a S=>c_end (wp_seq (c_condT S rfl rfl (wp_skip (x_thenN (wp_block (c_region (s_entryO S rfl .h .h3 rfl fun ch4 ch5 a S=>s_extract S rfl rfl rfl rfl fun a S=>s_extract S rfl rfl rfl rfl fun a S=>s_alloc S Z43 rfl ⟨rfl,trivial⟩ rfl fun g11 a w S=>s_alloc S Z43 rfl ⟨rfl,trivial⟩ rfl fun g12 a w S=>s_store S rfl rfl rfl (s':=[.w4 e1.1]) .h1 T43 rfl rfl fun w S=>s_store S rfl rfl rfl (s':=[.w4 e1.2]) .h T43 rfl rfl fun w S=>c_end (c_region (s_loada S rfl .h T43 (s':=[.w4 e1.2]) rfl rfl fun a S=>s_build S (ds:=[]) (dv:=(.a4 [0,0,0,0])) rfl (fun _=>by kernel_rfl) ⟨rfl,trivial⟩ rfl fun a S=>s_nea S rfl rfl underlying43 underlying41 T41 Q43 rfl fun a S=>c_end ?_)))))))))
    rcases ite_of h1 with ⟨c1,h2⟩ | ⟨c1,h2⟩
    ·refine c_condT S rfl c1 (c_region' (s_mv1 S rfl fun a S=>s_loada S rfl .h1 T43 (s':=[.w4 e1.1]) rfl rfl fun a S=>s_loada S rfl .h T43 (s':=[.w4 e1.2]) rfl rfl fun a S=>s_bldS S (ds:=[(0,(.a4 e1.1)),(1,(.a4 e1.2))]) (zs:=[.w4 [0,0,0,0], .w4 [0,0,0,0]]) (s':=[.w4 e1.1, .w4 e1.2]) rfl underlying83 P83 Z83 ⟨rfl,rfl,trivial⟩ rfl rfl fun a S=>s_bldSl S (ty':=Y83) (ds:=[(0,(.agg [.w4 e1.1, .w4 e1.2]))]) (z:=([0,0,0,0],[0,0,0,0])) (c0:=((),())) (ys:=[e1]) (cs:=[((),())]) rfl underlying69 J83 Z83 rfl ⟨rfl,rfl,trivial⟩ rfl rfl rfl rfl rfl rfl fun g13 a w S=>?_))
     obtain ⟨c2,h3⟩:=chk_of h2; clear h2
     refine s_app S (k2:=1) (ys:=[e1]) rfl (fun _ _=> .h4) rfl rfl (S.holds _ (Pull.mem .h).1).1 (Res.row.src (S.holds _ (Pull.mem .h).1)) underlying69 J83 c2 rfl fun A4 cp11 a w S=>s_as1 S rfl fun a S=>c_end' (x_blockN (x_thenN ?_))
     exact ⟨_,g10,(adel y9 e1.1),(some e1),A4,(nn6+1),cp11,(y10++[e1]),(S.sb rfl (.c3 (.c3 (.c3 (.c3 (.c3 .n)))))),h3⟩
    ·refine c_condF S rfl c1 (wp_skip (x_blockN (x_thenN ?_)))
     exact ⟨_,g10,(adel y9 e1.1),(some e1),A3,nn6,cp10,y10,(S.sb rfl (.c2 (.c2 (.c2 (.c2 (.c2 .n)))))),h2⟩
 refine c_region (s_mv1 S rfl fun a S=>s_nilchk S rfl rfl fun a S=>s_fieldAddr S rfl I110_2 T4 (by decide) rfl rfl fun a S=>s_load1 S rfl .h T4 (v:=(.bool x1.e3)) rfl rfl fun a S=>s_not S rfl rfl fun a S=>c_end ?_)
 rcases ite_of h0 with ⟨c3,h1⟩ | ⟨c3,h1⟩
 ·refine c_condT S rfl c3 (c_region (s_mv1 S rfl fun a S=>s_nilchk S rfl rfl fun a S=>s_fieldAddr S rfl I110_0 T71 (by decide) rfl rfl fun a S=>s_fieldAddr S rfl I71_4 T69 (by decide) rfl rfl fun a S=>s_loadSl S rfl .h T69 (A:=ch_0_3) (len:=(x1.1.t4).length) (cap:=ch_0_4) rfl rfl fun a S=>s_lenS S rfl underlying69 rfl fun a S=>s_mv1 S rfl fun a S=>c_end (wp_block ?_)))
  replace S:=S.nilrow Y83 83
  refine c_loop (fun q2 a w=>∃ m A5 nn10 cp17 y15 y16,St 64 m b0 [(3,(.s A5 nn10 cp17)),(21,(.i y16)),(20,(.i ((x1.1.t4).length:Int))),(19,(.q Y83 ch_0_3 ch_0_4 x1.1.t4)),(0,(.p ch_0_0))] [Res.row Y83 83 A5 nn10 cp17 y15,Res.cells ch_0_0 110 [.b20 x1.1.1, .w x1.1.2.1, .w4 x1.1.e3, .q yb ch_0_1 ch_0_2 x1.1.e4, .q Y83 ch_0_3 ch_0_4 x1.1.t4, .b20 x1.2.1.1, .w x1.2.1.2.1, .w4 x1.2.1.e3, .q yb ch_0_5 ch_0_6 x1.2.1.e4, .q Y83 ch_0_7 ch_0_8 x1.2.1.t4, .b x1.e3, .one (.map (some ch_0_9)), .b x1.e5, .b x1.e6, .one (.map (some ch_0_10))],Res.map true (Ty.arr .u64 4) true (Ty.arr .u64 4) ch_0_9 x1.e4,Res.map true (Ty.arr .u64 4) false Ty.bool ch_0_10 x1.t6] a w∧fe7_.l2 k x1 q2 y15 y16=some r) ?_ ?_ (k:=k) ⟨_,none,0,0,([]:List ((List Int)×(List Int))),0,(S.sb rfl (.c0 (.c0 (.c0 (.c0 .n))))),h1⟩
  ·rintro a w ⟨m,A5,nn10,cp17,y15,y16,S,h0⟩
   exact (nomatch (show (none:Option W18)=some r from h0))
  ·clear S h1
   rintro q2 a w ⟨m,A5,nn10,cp17,y15,y16,S,h0⟩
   replace h0:fe7_.b2 k x1 (fe7_.l2 k x1 q2) y15 y16=some r:=h0
   delta fe7_.b2 at h0
   refine c_region (s_bi S rfl fun a S=>c_end (wp_seq ?_))
   rcases ite_of h0 with ⟨c4,h1⟩ | ⟨c4,h1⟩
   ·refine c_condT S rfl c4 (wp_skip (x_thenN (wp_seq_k fun K3 hK3=>?_)))
    have j3:∀ m A6 nn11 cp19 y17 a w,St 64 m b0 [(3,(.s A6 nn11 cp19)),(21,(.i y16)),(20,(.i ((x1.1.t4).length:Int))),(19,(.q Y83 ch_0_3 ch_0_4 x1.1.t4)),(0,(.p ch_0_0))] [Res.row Y83 83 A6 nn11 cp19 y17,Res.cells ch_0_0 110 [.b20 x1.1.1, .w x1.1.2.1, .w4 x1.1.e3, .q yb ch_0_1 ch_0_2 x1.1.e4, .q Y83 ch_0_3 ch_0_4 x1.1.t4, .b20 x1.2.1.1, .w x1.2.1.2.1, .w4 x1.2.1.e3, .q yb ch_0_5 ch_0_6 x1.2.1.e4, .q Y83 ch_0_7 ch_0_8 x1.2.1.t4, .b x1.e3, .one (.map (some ch_0_9)), .b x1.e5, .b x1.e6, .one (.map (some ch_0_10))],Res.map true (Ty.arr .u64 4) true (Ty.arr .u64 4) ch_0_9 x1.e4,Res.map true (Ty.arr .u64 4) false Ty.bool ch_0_10 x1.t6] a w→fe7_.j3 y16 (fe7_.l2 k x1 q2) y17=some r→K3 a w:=by
     intro m A6 nn11 cp19 y17 a w S h0
     delta fe7_.j3 at h0
     refine hK3 a w (c_region' (s_bi S rfl fun a S=>s_mv1 S rfl fun a S=>c_end' (x_thenN ?_)))
     exact ⟨_,A6,nn11,cp19,y17,(wr .i64 (y16+1)),(S.sb rfl (.c0 (.c0 (.c0 (.c0 .n))))),h0⟩
    refine wp_block (c_region ?_)
    obtain ⟨c5,h2⟩:=chk_of h1; clear h1
    refine s_iaddrS S rfl rfl rfl underlying69 T83 c5.1 c5.2 rfl fun p1 a S=>s_ldA S (fun (c:Unit×Unit)=>[.w4 ((gt x1.1.t4 y16).1), .w4 ((gt x1.1.t4 y16).2)]) rfl T83 (fun _=>rfl) rfl fun ch6 a S=>?_
    refine s_alloc S Z83 rfl ⟨rfl,rfl,trivial⟩ rfl fun g18 a w S=>s_store S rfl rfl rfl (s':=[.w4 ((gt x1.1.t4 y16).1), .w4 ((gt x1.1.t4 y16).2)]) .h T83 rfl rfl fun w S=>c_end (wp_seq_k fun K4 hK4=>?_)
    have j4:∀ m g20 a w,St 64 m b0 [(7,(.b ((lk (aget x1.e4 ((gt x1.1.t4 y16).1)) [0,0,0,0]).2))),(5,(.p g20)),(3,(.s A5 nn10 cp17)),(21,(.i y16)),(20,(.i ((x1.1.t4).length:Int))),(19,(.q Y83 ch_0_3 ch_0_4 x1.1.t4)),(0,(.p ch_0_0))] [Res.cells g20 83 [.w4 ((gt x1.1.t4 y16).1), .w4 ((gt x1.1.t4 y16).2)],Res.row Y83 83 A5 nn10 cp17 y15,Res.cells ch_0_0 110 [.b20 x1.1.1, .w x1.1.2.1, .w4 x1.1.e3, .q yb ch_0_1 ch_0_2 x1.1.e4, .q Y83 ch_0_3 ch_0_4 x1.1.t4, .b20 x1.2.1.1, .w x1.2.1.2.1, .w4 x1.2.1.e3, .q yb ch_0_5 ch_0_6 x1.2.1.e4, .q Y83 ch_0_7 ch_0_8 x1.2.1.t4, .b x1.e3, .one (.map (some ch_0_9)), .b x1.e5, .b x1.e6, .one (.map (some ch_0_10))],Res.map true (Ty.arr .u64 4) true (Ty.arr .u64 4) ch_0_9 x1.e4,Res.map true (Ty.arr .u64 4) false Ty.bool ch_0_10 x1.t6] a w→fe7_.j4 x1 y15 y16 (fe7_.l2 k x1 q2)=some r→K4 a w:=by
     intro m g20 a w S h0
     delta fe7_.j4 at h0
     refine hK4 a w (c_region (s_mv1 S rfl fun a S=>s_not S rfl rfl fun a S=>c_end ?_))
     rcases ite_of h0 with ⟨c6,h1⟩ | ⟨c6,h1⟩
     ·refine c_condT S rfl c6 (c_region' (s_mv1 S rfl fun a S=>s_loada S rfl .h T83 (s':=[.w4 ((gt x1.1.t4 y16).1), .w4 ((gt x1.1.t4 y16).2)]) rfl rfl fun a S=>s_bldSl S (ty':=Y83) (ds:=[(0,(.agg [.w4 ((gt x1.1.t4 y16).1), .w4 ((gt x1.1.t4 y16).2)]))]) (z:=([0,0,0,0],[0,0,0,0])) (c0:=((),())) (ys:=[gt x1.1.t4 y16]) (cs:=[((),())]) rfl underlying69 J83 Z83 rfl ⟨rfl,rfl,trivial⟩ rfl rfl rfl rfl rfl rfl fun g21 a w S=>?_))
      obtain ⟨c7,h2⟩:=chk_of h1; clear h1
      refine s_app S (k2:=1) (ys:=[gt x1.1.t4 y16]) rfl (fun _ _=> .h2) rfl rfl (S.holds _ (Pull.mem .h).1).1 (Res.row.src (S.holds _ (Pull.mem .h).1)) underlying69 J83 c7 rfl fun A7 cp20 a w S=>s_as1 S rfl fun a S=>c_end' (x_blockN (x_thenN ?_))
      exact j3 _ A7 (nn10+1) cp20 (y15++[gt x1.1.t4 y16]) a w (S.sb rfl (.c2 (.c2 (.c2 (.c2 .n))))) h2
     ·refine c_condF S rfl c6 (wp_skip (x_blockN (x_thenN ?_)))
      exact j3 _ A5 nn10 cp17 y15 a w (S.sb rfl (.c1 (.c1 (.c1 (.c1 .n))))) h1
    refine c_hS S (.tk 0 6 (.alts (.run 6 false (.pure 7 (.pure 8 (.pure 9 (.alts (.run 10 false (.alts (.run 11 false (.alts (.run 12 false .done .nil)) .nil)) .nil))))) (.run 10 true (.alts (.run 6 false (.pure 7 (.pure 8 (.pure 9 (.alts (.run 11 false (.alts (.run 12 false .done .nil)) .nil))))) .nil)) .nil)))) 6 (.c0 (.c1 .n)) ⟨Res.stay_cells,Res.stay_cells,trivial⟩ [(5,(.p g18)),(0,(.p ch_0_0))] rfl (by kernel_rfl) fun w S CL hw le=>?_
    refine h_mv1 S CL hw le rfl trivial fun a S CL=>h_nilchk S CL hw le (subR rfl) rfl rfl rfl rfl trivial fun a S CL=>h_fieldAddr S CL hw le (subR rfl) rfl I110_3 T107 (by decide) rfl rfl rfl trivial fun a S CL=>h_load1 S CL hw le (subR rfl) rfl .h1 T107 (v:=(.map (some ch_0_9))) rfl rfl rfl trivial fun a S CL=>h_fieldAddr S CL hw le (subR rfl) rfl I83_0 T43 (by decide) rfl rfl rfl trivial fun a S CL=>h_loada S CL hw le (subR rfl) rfl .h T43 (s':=[.w4 ((gt x1.1.t4 y16).1)]) rfl rfl rfl trivial fun a S CL=>h_alts ?_
    refine h_runO S rfl trivial ?_ ?_
    ·refine s_lookO S (z:=[0,0,0,0]) (k:=((gt x1.1.t4 y16).1)) rfl .h3 () rfl (fun h=>⟨(),rfl,h⟩) underlying107 KT43 Z43 ⟨rfl,trivial⟩ rfl fun ch7 a S=>?_
     refine h_back ⟨fun h=>(nomatch h),?_⟩
     refine p_move S rfl rfl rfl trivial fun a S=>p_extract S rfl rfl rfl rfl rfl trivial fun a S=>p_extract S rfl rfl rfl rfl rfl trivial fun a S=>h_run' S rfl trivial (s_alloc S Z43 rfl ⟨rfl,trivial⟩ rfl fun g22 a w S=>?_)
     refine h_back ⟨fun h=>(nomatch h),?_⟩
     refine h_run' S rfl trivial (s_storeJ S 0 rfl rfl rfl rfl .h T43 rfl rfl fun w S=>?_)
     refine h_back ⟨fun h=>(nomatch h),?_⟩
     refine h_run' S rfl trivial (s_as1 S rfl fun a S=>?_)
     refine h_back ⟨fun h=>(nomatch h),?_⟩
     refine h_done ?_; clear CL hw le
     refine x_thenN ?_
     exact j4 _ g18 a w (S.sb rfl (.c1 (.c1 (.c1 (.c1 (.c1 .n)))))) h2
    refine h_runO S rfl trivial ?_ ?_
    ·refine s_alloc S Z43 rfl ⟨rfl,trivial⟩ rfl fun g22 a w S=>CL.bk hw S (.c1 (.c2 .n)) le fun hw=>h_run' S rfl trivial (s_lookO S (z:=[0,0,0,0]) (k:=((gt x1.1.t4 y16).1)) rfl .h4 () rfl (fun h=>⟨(),rfl,h⟩) underlying107 KT43 Z43 ⟨rfl,trivial⟩ rfl fun ch7 a S=>?_)
     refine h_back ⟨fun h=>(nomatch h),?_⟩
     refine p_move S rfl rfl rfl trivial fun a S=>p_extract S rfl rfl rfl rfl rfl trivial fun a S=>p_extract S rfl rfl rfl rfl rfl trivial fun a S=>h_run' S rfl trivial (s_storeJ S 0 rfl rfl rfl rfl .h T43 rfl rfl fun w S=>?_)
     refine h_back ⟨fun h=>(nomatch h),?_⟩
     refine h_run' S rfl trivial (s_as1 S rfl fun a S=>?_)
     refine h_back ⟨fun h=>(nomatch h),?_⟩
     refine h_done ?_; clear CL hw le
     refine x_thenN ?_
     exact j4 _ g18 a w (S.sb rfl (.c1 (.c1 (.c1 (.c1 (.c1 .n)))))) h2
    exact h_nil
   ·refine c_condF S rfl c4 (wp_exit (x_thenX (x_thenX (x_blockX (x_thenN ?_)))))
    exact j1 _ A5 nn10 cp17 y15 a w (S.sb rfl (.c0 (.c0 (.c0 (.c0 .n))))) h1
 ·refine c_condF S rfl c3 (wp_skip (x_thenN ?_))
  replace S:=S.nilrow Y83 83
  exact j1 _ none 0 0 ([]:List ((List Int)×(List Int))) a w0 (S.sb rfl (.c0 (.c0 (.c0 (.c0 .n))))) h1
abbrev fc3_.Ty:Type:=(List Int)→(List Int)→Option Bool
def fc3_.Ctr (s:fc3_.Ty):Prop:=∀ {x1:List Int} {x2:List Int} {ch_0_0:Option Addr} {ch_0_1:Nat} {ch_1_0:Option Addr} {ch_1_1:Nat} {r:Bool} (h0:s x1 x2=some r) {mi:Mem} {w0:World},CtrB Tryz.prog 95 [(.q yb ch_0_0 ch_0_1 x1),(.q yb ch_1_0 ch_1_1 x2)] [] (fun (ch:Unit)=>((.b r):D)) (fun (ch:Unit)=>[]) mi w0
def fc3_.j1:Option Bool:=some true
def fc3_.b1 (x1:List Int)(x2:List Int)(rec1:Int→Option Bool)(y1:Int):Option Bool:=if (decide (y1<((x1).length:Int)))=true then (if (0:Int)≤y1∧y1<((x1).length:Int) then (if (0:Int)≤y1∧y1<((x2).length:Int) then (if ((rd x1 y1) != (rd x2 y1))=true then (some false) else (rec1 (wr .i64 (y1+1)))) else none) else none) else fc3_.j1
def fc3_.l1 (x1:List Int)(x2:List Int):Nat→Int→Option Bool
  | 0,_=>none
  | q+1,y1=>fc3_.b1 x1 x2 (fc3_.l1 x1 x2 q) y1
def fc3_.f (k:Nat)(x1:List Int)(x2:List Int):Option Bool:=if (((x1).length:Int) != ((x2).length:Int))=true then (some false) else (fc3_.l1 x1 x2 k 0)
theorem fc3_.ok (k:Nat):fc3_.Ctr (fc3_.f k):=by
 intro x1 x2 ch_0_0 ch_0_1 ch_1_0 ch_1_1 r h0 mi w0 ok hm
 delta fc3_.f at h0
 refine c_enterZ (n:=26) ok hm func95 rfl rfl rfl fun b0 hb a S=>c_region (s_as1 S rfl fun a S=>c_end (wp_seq (c_region (s_mv1 S rfl fun a S=>s_lenS S rfl underlying44 rfl fun a S=>s_mv1 S rfl fun a S=>s_lenS S rfl underlying44 rfl fun a S=>s_bi S rfl fun a S=>c_end ?_))))
 rcases ite_of h0 with ⟨c1,h1⟩ | ⟨c1,h1⟩
 ·refine c_condT S rfl c1 (c_region (s_as1 S rfl fun a S=>c_end (wp_ret (x_thenR ?_))))
  obtain rfl:=Option.some.inj h1
  exact b_ret1 (d:=(.b false)) S rfl rfl (S.rt hb)
 ·refine c_condF S rfl c1 (wp_skip (x_thenN (wp_seq_k fun K1 hK1=>?_)))
  have j1:∀ m a w,St 26 m b0 [] [] a w→fc3_.j1=some r→K1 a w:=by
   intro m a w S h0
   delta fc3_.j1 at h0
   refine hK1 a w (c_region (s_as1 S rfl fun a S=>c_end (wp_ret ?_)))
   obtain rfl:=Option.some.inj h0
   exact b_ret1 (d:=(.b true)) S rfl rfl (S.rt hb)
  refine c_region (s_mv1 S rfl fun a S=>s_lenS S rfl underlying44 rfl fun a S=>s_mv1 S rfl fun a S=>c_end (wp_block ?_))
  refine c_loop (fun q1 a w=>∃ m y1,St 26 m b0 [(13,(.i y1)),(12,(.i ((x1).length:Int))),(0,(.q yb ch_0_0 ch_0_1 x1)),(1,(.q yb ch_1_0 ch_1_1 x2))] [] a w∧fc3_.l1 x1 x2 q1 y1=some r) ?_ ?_ (k:=k) ⟨_,0,(S.sb rfl .nil),h1⟩
  ·rintro a w ⟨m,y1,S,h0⟩
   exact (nomatch (show (none:Option Bool)=some r from h0))
  ·clear S h1
   rintro q1 a w ⟨m,y1,S,h0⟩
   replace h0:fc3_.b1 x1 x2 (fc3_.l1 x1 x2 q1) y1=some r:=h0
   delta fc3_.b1 at h0
   refine c_region (s_bi S rfl fun a S=>c_end (wp_seq ?_))
   rcases ite_of h0 with ⟨c2,h1⟩ | ⟨c2,h1⟩
   ·refine c_condT S rfl c2 (wp_skip (x_thenN (wp_seq (wp_block (c_region (s_mv1 S rfl fun a S=>s_as1 S rfl fun a S=>c_end ?_))))))
    refine wp_seq (c_hS S (.tk 0 9 .done) 9 .nil trivial [(5,(.i y1)),(0,(.q yb ch_0_0 ch_0_1 x1)),(1,(.q yb ch_1_0 ch_1_1 x2))] rfl (by kernel_rfl) ?_); clear S; intro w S CL hw le
    refine h_mv2 S CL hw le rfl trivial trivial fun a S CL=>?_
    obtain ⟨c3,h2⟩:=chk_of h1; clear h1
    refine h_iaddrS S CL hw le (subR rfl) rfl rfl rfl underlying44 T5 c3.1 c3.2 rfl rfl trivial fun p1 a S CL=>h_ld1 S CL hw le (subR rfl) (v:=(.int .u8 (rd x1 y1))) rfl T5 (fun _=>rfl) rfl rfl trivial fun a S CL=>h_mv2 S CL hw le rfl trivial trivial fun a S CL=>?_
    obtain ⟨c4,h3⟩:=chk_of h2; clear h2
    refine h_iaddrS S CL hw le (subR rfl) rfl rfl rfl underlying44 T5 c4.1 c4.2 rfl rfl trivial fun p2 a S CL=>h_ld1 S CL hw le (subR rfl) (v:=(.int .u8 (rd x2 y1))) rfl T5 (fun _=>rfl) rfl rfl trivial fun a S CL=>h_bin S CL hw le (subR rfl) rfl rfl rfl rfl rfl trivial fun a S CL=>?_
    refine h_done ?_; clear CL hw le
    refine x_thenN ?_
    rcases ite_of h3 with ⟨c5,h4⟩ | ⟨c5,h4⟩
    ·refine c_condT S rfl c5 (c_region (s_as1 S rfl fun a S=>c_end (wp_ret (x_blockR (x_thenR (x_thenR (x_blockR (x_thenR ?_))))))))
     obtain rfl:=Option.some.inj h4
     exact b_ret1 (d:=(.b false)) S rfl rfl (S.rt hb)
    ·refine c_condF S rfl c5 (wp_skip (x_blockN (x_thenN (c_region' (s_bi S rfl fun a S=>s_mv1 S rfl fun a S=>c_end' (x_thenN ?_))))))
     exact ⟨_,(wr .i64 (y1+1)),(S.sb rfl .nil),h4⟩
   ·refine c_condF S rfl c2 (wp_exit (x_thenX (x_thenX (x_blockX (x_thenN ?_)))))
    exact j1 _ a w (S.sub trivial .nil) h1
abbrev fi9_.Ty:Type:=W18→W18→Option Bool
def fi9_.Ctr (s:fi9_.Ty):Prop:=∀ {x1:W18} {x2:W18} {ch_0_0:Option Addr} {ch_0_1:Nat} {ch_1_0:Option Addr} {ch_1_1:Nat} {r:Bool} (h0:s x1 x2=some r) {mi:Mem} {w0:World},CtrB Tryz.prog 96 [(.q Y83 ch_0_0 ch_0_1 x1),(.q Y83 ch_1_0 ch_1_1 x2)] [] (fun (ch:Unit)=>((.b r):D)) (fun (ch:Unit)=>[]) mi w0
def fi9_.j1:Option Bool:=some true
def fi9_.b1 (x1:W18)(x2:W18)(rec1:Int→Option Bool)(y1:Int):Option Bool:=if (decide (y1<((x1).length:Int)))=true then (if (0:Int)≤y1∧y1<((x1).length:Int) then (if (0:Int)≤y1∧y1<((x2).length:Int) then (if (!(decide (gt x1 y1=gt x2 y1)))=true then (some false) else (rec1 (wr .i64 (y1+1)))) else none) else none) else fi9_.j1
def fi9_.l1 (x1:W18)(x2:W18):Nat→Int→Option Bool
  | 0,_=>none
  | q+1,y1=>fi9_.b1 x1 x2 (fi9_.l1 x1 x2 q) y1
def fi9_.f (k:Nat)(x1:W18)(x2:W18):Option Bool:=if (((x1).length:Int) != ((x2).length:Int))=true then (some false) else (fi9_.l1 x1 x2 k 0)
theorem fi9_.ok (k:Nat):fi9_.Ctr (fi9_.f k):=by
 intro x1 x2 ch_0_0 ch_0_1 ch_1_0 ch_1_1 r h0 mi w0 ok hm
 delta fi9_.f at h0
 refine c_enterZ (n:=26) ok hm func96 rfl rfl rfl fun b0 hb a S=>c_region (s_as1 S rfl fun a S=>c_end (wp_seq (c_region (s_mv1 S rfl fun a S=>s_lenS S rfl underlying69 rfl fun a S=>s_mv1 S rfl fun a S=>s_lenS S rfl underlying69 rfl fun a S=>s_bi S rfl fun a S=>c_end ?_))))
 rcases ite_of h0 with ⟨c1,h1⟩ | ⟨c1,h1⟩
 ·refine c_condT S rfl c1 (c_region (s_as1 S rfl fun a S=>c_end (wp_ret (x_thenR ?_))))
  obtain rfl:=Option.some.inj h1
  exact b_ret1 (d:=(.b false)) S rfl rfl (S.rt hb)
 ·refine c_condF S rfl c1 (wp_skip (x_thenN (wp_seq_k fun K1 hK1=>?_)))
  have j1:∀ m a w,St 26 m b0 [] [] a w→fi9_.j1=some r→K1 a w:=by
   intro m a w S h0
   delta fi9_.j1 at h0
   refine hK1 a w (c_region (s_as1 S rfl fun a S=>c_end (wp_ret ?_)))
   obtain rfl:=Option.some.inj h0
   exact b_ret1 (d:=(.b true)) S rfl rfl (S.rt hb)
  refine c_region (s_mv1 S rfl fun a S=>s_lenS S rfl underlying69 rfl fun a S=>s_mv1 S rfl fun a S=>c_end (wp_block ?_))
  refine c_loop (fun q1 a w=>∃ m y1,St 26 m b0 [(13,(.i y1)),(12,(.i ((x1).length:Int))),(0,(.q Y83 ch_0_0 ch_0_1 x1)),(1,(.q Y83 ch_1_0 ch_1_1 x2))] [] a w∧fi9_.l1 x1 x2 q1 y1=some r) ?_ ?_ (k:=k) ⟨_,0,(S.sb rfl .nil),h1⟩
  ·rintro a w ⟨m,y1,S,h0⟩
   exact (nomatch (show (none:Option Bool)=some r from h0))
  ·clear S h1
   rintro q1 a w ⟨m,y1,S,h0⟩
   replace h0:fi9_.b1 x1 x2 (fi9_.l1 x1 x2 q1) y1=some r:=h0
   delta fi9_.b1 at h0
   refine c_region (s_bi S rfl fun a S=>c_end (wp_seq ?_))
   rcases ite_of h0 with ⟨c2,h1⟩ | ⟨c2,h1⟩
   ·refine c_condT S rfl c2 (wp_skip (x_thenN (wp_seq (wp_block (c_region (s_mv1 S rfl fun a S=>s_as1 S rfl fun a S=>c_end ?_))))))
    refine wp_seq (c_hS S (.tk 0 9 .done) 9 .nil trivial [(5,(.i y1)),(0,(.q Y83 ch_0_0 ch_0_1 x1)),(1,(.q Y83 ch_1_0 ch_1_1 x2))] rfl (by kernel_rfl) ?_); clear S; intro w S CL hw le
    refine h_mv2 S CL hw le rfl trivial trivial fun a S CL=>?_
    obtain ⟨c3,h2⟩:=chk_of h1; clear h1
    refine h_iaddrS S CL hw le (subR rfl) rfl rfl rfl underlying69 T83 c3.1 c3.2 rfl rfl trivial fun p1 a S CL=>h_ldA S CL hw le (subR rfl) (fun (c:Unit×Unit)=>[.w4 ((gt x1 y1).1), .w4 ((gt x1 y1).2)]) rfl T83 (fun _=>rfl) rfl rfl trivial fun ch1 a S CL=>?_
    refine h_mv2 S CL hw le rfl trivial trivial fun a S CL=>?_
    obtain ⟨c4,h3⟩:=chk_of h2; clear h2
    refine h_iaddrS S CL hw le (subR rfl) rfl rfl rfl underlying69 T83 c4.1 c4.2 rfl rfl trivial fun p2 a S CL=>h_ldA S CL hw le (subR rfl) (fun (c:Unit×Unit)=>[.w4 ((gt x2 y1).1), .w4 ((gt x2 y1).2)]) rfl T83 (fun _=>rfl) rfl rfl trivial fun ch2 a S CL=>?_
    refine h_neS S CL hw le (subR rfl) (ty':=Y83) (p:=gt x1 y1) (q:=gt x2 y1) ((),()) ((),()) rfl rfl E83 rfl Q83 rfl rfl trivial fun a S CL=>?_
    refine h_done ?_; clear CL hw le
    refine x_thenN ?_
    rcases ite_of h3 with ⟨c5,h4⟩ | ⟨c5,h4⟩
    ·refine c_condT S rfl c5 (c_region (s_as1 S rfl fun a S=>c_end (wp_ret (x_blockR (x_thenR (x_thenR (x_blockR (x_thenR ?_))))))))
     obtain rfl:=Option.some.inj h4
     exact b_ret1 (d:=(.b false)) S rfl rfl (S.rt hb)
    ·refine c_condF S rfl c5 (wp_skip (x_blockN (x_thenN (c_region' (s_bi S rfl fun a S=>s_mv1 S rfl fun a S=>c_end' (x_thenN ?_))))))
     exact ⟨_,(wr .i64 (y1+1)),(S.sb rfl .nil),h4⟩
   ·refine c_condF S rfl c2 (wp_exit (x_thenX (x_thenX (x_blockX (x_thenN ?_)))))
    exact j1 _ a w (S.sub trivial .nil) h1
abbrev fj7_.Ty:Type:=W1→W1→Option Bool
def fj7_.Ctr (s:fj7_.Ty):Prop:=∀ {x1:W1} {x2:W1} {ch_0_0:Option Addr} {ch_0_1:Nat} {ch_0_2:Option Addr} {ch_0_3:Nat} {ch_1_0:Option Addr} {ch_1_1:Nat} {ch_1_2:Option Addr} {ch_1_3:Nat} {r:Bool} (h0:s x1 x2=some r) {mi:Mem} {w0:World},CtrB Tryz.prog 60 [(.agg (Y71.segs x1 ((),(),(),(ch_0_0,ch_0_1),(ch_0_2,ch_0_3)))),(.agg (Y71.segs x2 ((),(),(),(ch_1_0,ch_1_1),(ch_1_2,ch_1_3))))] [] (fun (ch:Unit)=>((.b r):D)) (fun (ch:Unit)=>[]) mi w0
def fj7_.f (k:Nat)(x1:W1)(x2:W1):Option Bool:=if (x1.2.1==x2.2.1)=true then (if (decide (x1.2.2.1=x2.2.2.1))=true then ((fc3_.f k x1.2.2.2.1 x2.2.2.2.1).bind fun t1=>(if t1=true then ((fi9_.f k x1.2.2.2.2 x2.2.2.2.2).bind fun t2=>(some t2)) else (some false))) else (some false)) else (some false)
theorem fj7_.ok (k:Nat):fj7_.Ctr (fj7_.f k):=by
 intro x1 x2 ch_0_0 ch_0_1 ch_0_2 ch_0_3 ch_1_0 ch_1_1 ch_1_2 ch_1_3 r h0 mi w0 ok hm
 delta fj7_.f at h0
 refine c_enterZ (n:=31) ok hm func60 rfl rfl rfl fun b0 hb a S=>c_region (s_box S rfl rfl rfl fun g1 a w S=>s_box S rfl rfl rfl fun g2 a w S=>s_as1 S rfl fun a S=>c_end (c_region (s_fieldAddr S rfl I71_1 T41 (by decide) rfl rfl fun a S=>s_load1 S rfl .h1 T41 (v:=(.int .u64 x1.2.1)) rfl rfl fun a S=>s_fieldAddr S rfl I71_1 T41 (by decide) rfl rfl fun a S=>s_load1 S rfl .h T41 (v:=(.int .u64 x2.2.1)) rfl rfl fun a S=>s_bi S rfl fun a S=>s_mv1 S rfl fun a S=>?_)))
 rcases ite_of h0 with ⟨c1,h1⟩ | ⟨c1,h1⟩
 ·refine s_gT S (b:=(x1.2.1==x2.2.1)) rfl rfl c1 (s_fieldAddr S rfl I71_2 T43 (by decide) rfl rfl fun a S=>s_gT S (b:=(x1.2.1==x2.2.1)) rfl rfl c1 (s_loada S rfl .h1 T43 (s':=[.w4 x1.e3]) rfl rfl fun a S=>s_gT S (b:=(x1.2.1==x2.2.1)) rfl rfl c1 (s_fieldAddr S rfl I71_2 T43 (by decide) rfl rfl fun a S=>s_gT S (b:=(x1.2.1==x2.2.1)) rfl rfl c1 (s_loada S rfl .h T43 (s':=[.w4 x2.e3]) rfl rfl fun a S=>s_gT S (b:=(x1.2.1==x2.2.1)) rfl rfl c1 (s_eqa S rfl rfl underlying43 underlying41 T41 Q43 rfl fun a S=>s_pick S (b:=true) (hc_of rfl c1) rfl rfl fun a S=>s_mv1 S rfl fun a S=>?_)))))
  rcases ite_of h1 with ⟨c2,h2⟩ | ⟨c2,h2⟩
  ·refine s_gT S (b:=(decide (x1.e3=x2.e3))) rfl rfl c2 (s_fieldAddr S rfl I71_3 T44 (by decide) rfl rfl fun a S=>s_gT S (b:=(decide (x1.e3=x2.e3))) rfl rfl c2 (s_loadSl S rfl .h1 T44 (A:=ch_0_0) (len:=(x1.e4).length) (cap:=ch_0_1) rfl rfl fun a S=>s_gT S (b:=(decide (x1.e3=x2.e3))) rfl rfl c2 (s_fieldAddr S rfl I71_3 T44 (by decide) rfl rfl fun a S=>s_gT S (b:=(decide (x1.e3=x2.e3))) rfl rfl c2 (s_loadSl S rfl .h T44 (A:=ch_1_0) (len:=(x2.e4).length) (cap:=ch_1_1) rfl rfl fun a S=>s_gT S (b:=(decide (x1.e3=x2.e3))) rfl rfl c2 (bindX h2 fun t1 et1 h3=>s_callK S (fc3_.ok k et1) N95 rfl .pre (fun _=> .n) rfl fun ch1 m le1 a w S=>s_pick S (b:=true) (hc_of rfl c2) rfl rfl fun a S=>s_mv1 S rfl fun a S=>?_)))))
   rcases ite_of h3 with ⟨c3,h4⟩ | ⟨c3,h4⟩
   ·refine s_gT S (b:=t1) rfl rfl c3 (s_fieldAddr S rfl I71_4 T69 (by decide) rfl rfl fun a S=>s_gT S (b:=t1) rfl rfl c3 (s_loadSl S rfl .h1 T69 (A:=ch_0_2) (len:=(x1.t4).length) (cap:=ch_0_3) rfl rfl fun a S=>s_gT S (b:=t1) rfl rfl c3 (s_fieldAddr S rfl I71_4 T69 (by decide) rfl rfl fun a S=>s_gT S (b:=t1) rfl rfl c3 (s_loadSl S rfl .h T69 (A:=ch_1_2) (len:=(x2.t4).length) (cap:=ch_1_3) rfl rfl fun a S=>s_gT S (b:=t1) rfl rfl c3 (bindX h4 fun t2 et2 h5=>s_callK S (fi9_.ok k et2) N96 rfl .pre (fun _=> .n) rfl fun ch2 m le1 a w S=>s_pick S (b:=true) (hc_of rfl c3) rfl rfl fun a S=>s_as1 S rfl fun a S=>c_end (wp_ret ?_))))))
    obtain rfl:=Option.some.inj h5
    exact b_ret1 (d:=(.b t2)) S rfl rfl (S.rt hb)
   ·refine s_gF S (b:=t1) rfl rfl c3 rfl fun a S=>s_gF S (b:=t1) rfl rfl c3 rfl fun a S=>s_gF S (b:=t1) rfl rfl c3 rfl fun a S=>s_gF S (b:=t1) rfl rfl c3 rfl fun a S=>s_gF S (b:=t1) rfl rfl c3 rfl fun a S=>s_pick S (b:=false) (hc_of rfl c3) rfl rfl fun a S=>s_as1 S rfl fun a S=>c_end (wp_ret ?_)
    obtain rfl:=Option.some.inj h4
    exact b_ret1 (d:=(.b false)) S rfl rfl (S.rt hb)
  ·refine s_gF S (b:=(decide (x1.e3=x2.e3))) rfl rfl c2 rfl fun a S=>s_gF S (b:=(decide (x1.e3=x2.e3))) rfl rfl c2 rfl fun a S=>s_gF S (b:=(decide (x1.e3=x2.e3))) rfl rfl c2 rfl fun a S=>s_gF S (b:=(decide (x1.e3=x2.e3))) rfl rfl c2 rfl fun a S=>s_gF S (b:=(decide (x1.e3=x2.e3))) rfl rfl c2 rfl fun a S=>s_pick S (b:=false) (hc_of rfl c2) rfl rfl fun a S=>s_mv1 S rfl fun a S=>s_gF S (b:=false) rfl rfl rfl rfl fun a S=>s_gF S (b:=false) rfl rfl rfl rfl fun a S=>s_gF S (b:=false) rfl rfl rfl rfl fun a S=>s_gF S (b:=false) rfl rfl rfl rfl fun a S=>s_gF S (b:=false) rfl rfl rfl rfl fun a S=>s_pick S (b:=false) (hc_of rfl rfl) rfl rfl fun a S=>s_as1 S rfl fun a S=>c_end (wp_ret ?_)
   obtain rfl:=Option.some.inj h2
   exact b_ret1 (d:=(.b false)) S rfl rfl (S.rt hb)
 ·refine s_gF S (b:=(x1.2.1==x2.2.1)) rfl rfl c1 rfl fun a S=>s_gF S (b:=(x1.2.1==x2.2.1)) rfl rfl c1 rfl fun a S=>s_gF S (b:=(x1.2.1==x2.2.1)) rfl rfl c1 rfl fun a S=>s_gF S (b:=(x1.2.1==x2.2.1)) rfl rfl c1 rfl fun a S=>s_gF S (b:=(x1.2.1==x2.2.1)) rfl rfl c1 rfl fun a S=>s_pick S (b:=false) (hc_of rfl c1) rfl rfl fun a S=>s_mv1 S rfl fun a S=>s_gF S (b:=false) rfl rfl rfl rfl fun a S=>s_gF S (b:=false) rfl rfl rfl rfl fun a S=>s_gF S (b:=false) rfl rfl rfl rfl fun a S=>s_gF S (b:=false) rfl rfl rfl rfl fun a S=>s_gF S (b:=false) rfl rfl rfl rfl fun a S=>s_pick S (b:=false) (hc_of rfl rfl) rfl rfl fun a S=>s_mv1 S rfl fun a S=>s_gF S (b:=false) rfl rfl rfl rfl fun a S=>s_gF S (b:=false) rfl rfl rfl rfl fun a S=>s_gF S (b:=false) rfl rfl rfl rfl fun a S=>s_gF S (b:=false) rfl rfl rfl rfl fun a S=>s_gF S (b:=false) rfl rfl rfl rfl fun a S=>s_pick S (b:=false) (hc_of rfl rfl) rfl rfl fun a S=>s_as1 S rfl fun a S=>c_end (wp_ret ?_)
  obtain rfl:=Option.some.inj h1
  exact b_ret1 (d:=(.b false)) S rfl rfl (S.rt hb)
abbrev fi8_.Ty:Type:=(List Int)→(List Int)→Option Int
def fi8_.Ctr (s:fi8_.Ty):Prop:=∀ {x1:List Int} {x2:List Int} {ch_0_0:Option Addr} {ch_0_1:Nat} {ch_1_0:Option Addr} {ch_1_1:Nat} {r:Int} (h0:s x1 x2=some r) {mi:Mem} {w0:World},CtrB Tryz.prog 99 [(.q yb ch_0_0 ch_0_1 x1),(.q yb ch_1_0 ch_1_1 x2)] [] (fun (ch:Unit)=>((.i r):D)) (fun (ch:Unit)=>[]) mi w0
def fi8_.f (x1:List Int)(x2:List Int):Option Int:=some (Lib.compareBytes (u8s x1) (u8s x2))
theorem fi8_.ok:fi8_.Ctr (fi8_.f):=by
 intro x1 x2 ch_0_0 ch_0_1 ch_1_0 ch_1_1 r h0 mi w0 ok hm
 delta fi8_.f at h0
 refine c_enterZ (n:=8) ok hm func99 rfl rfl rfl fun b0 hb a S=>c_region (s_as1 S rfl fun a S=>c_end (c_region (s_mv2 S rfl fun a S=>s_extCmp S X112 rfl rfl rfl fun a S=>s_as1 S rfl fun a S=>c_end (wp_ret ?_))))
 obtain rfl:=Option.some.inj h0
 exact b_ret1 (d:=(.i (Lib.compareBytes (u8s x1) (u8s x2)))) S rfl rfl (S.rt hb)
abbrev fj4_.Ty:Type:=(List Int)→(List Int)→Option Int
def fj4_.Ctr (s:fj4_.Ty):Prop:=∀ {x1:List Int} {x2:List Int} {r:Int} (h0:s x1 x2=some r) {mi:Mem} {w0:World},CtrB Tryz.prog 63 [(.agg [.b20 x1]),(.agg [.b20 x2])] [] (fun (ch:Unit)=>((.i r):D)) (fun (ch:Unit)=>[]) mi w0
def fj4_.f (x1:List Int)(x2:List Int):Option Int:=(fi8_.f (((x1).drop 0).take 20) (((x2).drop 0).take 20)).bind fun t1=>(some t1)
theorem fj4_.ok:fj4_.Ctr (fj4_.f):=by
 intro x1 x2 r h0 mi w0 ok hm
 delta fj4_.f at h0
 refine c_enterZ (n:=8) ok hm func63 rfl rfl rfl fun b0 hb a S=>c_region (s_box S rfl rfl rfl fun g1 a w S=>s_box S rfl rfl rfl fun g2 a w S=>s_as1 S rfl fun a S=>c_end ?_)
 refine wp_seq (c_hS S (.take 0 (.take 1 (.alts (.run 2 true (.take 3 .done) .nil)))) 4 .nil trivial [(3,(.p g2)),(2,(.p g1))] rfl (by kernel_rfl) ?_); clear S; intro w S CL hw le
 refine h_sliceA S CL hw le (subR rfl) (i:=0) (j:=20) (o':=0) (len:=20) (cap:=20) rfl underlying40 T5 (.inl ⟨rfl,rfl⟩) (.inl ⟨rfl,rfl⟩) (by decide) rfl rfl rfl rfl rfl trivial fun a S CL=>h_sliceA S CL hw le (subR rfl) (i:=0) (j:=20) (o':=0) (len:=20) (cap:=20) rfl underlying40 T5 (.inl ⟨rfl,rfl⟩) (.inl ⟨rfl,rfl⟩) (by decide) rfl rfl rfl rfl rfl trivial fun a S CL=>h_run' S rfl trivial ?_
 replace S:=S.freeze .h1
 obtain ⟨m,le1,S⟩:=S
 replace le:=le.trans le1
 replace S:=(S.slup' (u:=5) (lo:=0) (c:=20) (ys:=((x1).drop 0).take 20) rfl (Pull.mem .h1).1 .h (.inl rfl) (by decide) (by decide) rfl).2
 replace S:=S.freeze .h
 obtain ⟨m,le1,S⟩:=S
 replace le:=le.trans le1
 replace S:=(S.slup' (u:=6) (lo:=0) (c:=20) (ys:=((x2).drop 0).take 20) rfl (Pull.mem .h).1 .h (.inl rfl) (by decide) (by decide) rfl).2
 replace CL:=CL.drop (lq':=[(3,(.p g2)),(2,(.p g1))]) (subR rfl)
 refine bindX h0 fun t1 et1 h1=>s_callK S (fi8_.ok et1) N99 rfl .pre (fun _=> .n) rfl fun ch1 m le1 a w S=>?_
 replace le:=le.trans le1
 refine CL.bk hw S .nil le fun hw=>?_
 replace CL:=CL.add (t:=7) (d:=(.i t1)) S rfl rfl
 refine h_assign S CL hw le (subR rfl) rfl rfl rfl trivial fun a S CL=>?_
 refine h_done ?_; clear CL hw le
 refine x_thenN (wp_ret ?_)
 obtain rfl:=Option.some.inj h1
 exact b_ret1 (d:=(.i t1)) S rfl rfl (S.rt hb)
abbrev fc8_.Ty:Type:=W1→W1→Option Int
def fc8_.Ctr (s:fc8_.Ty):Prop:=∀ {x1:W1} {x2:W1} {ch_0_0:Option Addr} {ch_0_1:Nat} {ch_0_2:Option Addr} {ch_0_3:Nat} {ch_1_0:Option Addr} {ch_1_1:Nat} {ch_1_2:Option Addr} {ch_1_3:Nat} {r:Int} (h0:s x1 x2=some r) {mi:Mem} {w0:World},CtrB Tryz.prog 62 [(.agg (Y71.segs x1 ((),(),(),(ch_0_0,ch_0_1),(ch_0_2,ch_0_3)))),(.agg (Y71.segs x2 ((),(),(),(ch_1_0,ch_1_1),(ch_1_2,ch_1_3))))] [] (fun (ch:Unit)=>((.i r):D)) (fun (ch:Unit)=>[]) mi w0
def fc8_.f (x1:W1)(x2:W1):Option Int:=(fj4_.f x1.1 x2.1).bind fun t1=>(some t1)
theorem fc8_.ok:fc8_.Ctr (fc8_.f):=by
 intro x1 x2 ch_0_0 ch_0_1 ch_0_2 ch_0_3 ch_1_0 ch_1_1 ch_1_2 ch_1_3 r h0 mi w0 ok hm
 delta fc8_.f at h0
 refine c_enterZ (n:=10) ok hm func62 rfl rfl rfl fun b0 hb a S=>c_region (s_box S rfl rfl rfl fun g1 a w S=>s_box S rfl rfl rfl fun g2 a w S=>s_as1 S rfl fun a S=>c_end (c_region (s_fieldAddr S rfl I71_0 T40 (by decide) rfl rfl fun a S=>s_loada S rfl .h1 T40 (s':=[.b20 x1.1]) rfl rfl fun a S=>s_fieldAddr S rfl I71_0 T40 (by decide) rfl rfl fun a S=>s_loada S rfl .h T40 (s':=[.b20 x2.1]) rfl rfl fun a S=>bindX h0 fun t1 et1 h1=>s_callK S (fj4_.ok et1) N63 rfl .pre (fun _=> .n) rfl fun ch1 m le1 a w S=>s_as1 S rfl fun a S=>c_end (wp_ret ?_))))
 obtain rfl:=Option.some.inj h1
 exact b_ret1 (d:=(.i t1)) S rfl rfl (S.rt hb)
abbrev G2:SortG:={ α:=L71,inh:=inferInstance,T:=Y71,e:=71,s:=22,c:=120,φ:=fun f=>bif Nat.beq f 113 then 102 else bif Nat.beq f 126 then 121 else bif Nat.beq f 114 then 103 else bif Nat.beq f 115 then 104 else bif Nat.beq f 130 then 129 else bif Nat.beq f 128 then 125 else bif Nat.beq f 127 then 124 else bif Nat.beq f 116 then 105 else bif Nat.beq f 117 then 106 else bif Nat.beq f 118 then 107 else bif Nat.beq f 119 then 108 else bif Nat.beq f 120 then 109 else bif Nat.beq f 101 then 97 else bif Nat.beq f 93 then 61 else f,fc:=62,cmp:=fun k=>fc8_.f }
theorem H2:SortG.Ok G2 where
  hT:=T71
  hU:=underlying22
  hcmp:=fun {k x y cx cy r} e=>fc8_.ok (ch_0_0:=cx.e4.1) (ch_0_1:=cx.e4.2) (ch_0_2:=cx.e5) (ch_0_3:=cx.t5) (ch_1_0:=cy.e4.1) (ch_1_1:=cy.e4.2) (ch_1_2:=cy.e5) (ch_1_3:=cy.t5) e
  nc:=N62
  n113:=⟨⟨_,func102,by kernel_rfl,rfl,by kernel_rfl,by decide⟩⟩
  n126:=⟨⟨_,func121,by kernel_rfl,rfl,by kernel_rfl,by decide⟩⟩
  n114:=⟨⟨_,func103,by kernel_rfl,rfl,by kernel_rfl,by decide⟩⟩
  n115:=⟨⟨_,func104,by kernel_rfl,rfl,by kernel_rfl,by decide⟩⟩
  n130:=⟨⟨_,func129,by kernel_rfl,rfl,by kernel_rfl,by decide⟩⟩
  n128:=⟨⟨_,func125,by kernel_rfl,rfl,by kernel_rfl,by decide⟩⟩
  n127:=⟨⟨_,func124,by kernel_rfl,rfl,by kernel_rfl,by decide⟩⟩
  n116:=⟨⟨_,func105,by kernel_rfl,rfl,by kernel_rfl,by decide⟩⟩
  n117:=⟨⟨_,func106,by kernel_rfl,rfl,by kernel_rfl,by decide⟩⟩
  n118:=⟨⟨_,func107,by kernel_rfl,rfl,by kernel_rfl,by decide⟩⟩
  n119:=⟨⟨_,func108,by kernel_rfl,rfl,by kernel_rfl,by decide⟩⟩
  n120:=⟨⟨_,func109,by kernel_rfl,rfl,by kernel_rfl,by decide⟩⟩
  n101:=⟨⟨_,func97,by kernel_rfl,rfl,by kernel_rfl,by decide⟩⟩
  n93:=⟨⟨_,func61,by kernel_rfl,rfl,by kernel_rfl,by decide⟩⟩
end
end GW
