import Derived.Test.YtdajnflppnlhiaaProg
import Derived.Test.YtdajnflppnlhiaaGB
set_option linter.unusedVariables false
set_option linter.unusedSimpArgs false
set_option maxRecDepth 10000
set_option maxHeartbeats 4000000
namespace GW
open Go Go.RowKit Go.Proofs Go.Proofs.Try
noncomputable section
abbrev fa_.Ty (g:SortG):Type:=(List g.α)→Int→Int→Option (Bool×(List g.α))
def fa_.Ctr (g:SortG)(s:fa_.Ty g):Prop:=∀ {x1:List g.α} {x2:Int} {x3:Int} {ch_0_0:Option Addr} {ch_0_1:Nat} {ch_0_2:Nat} {r:Bool×(List g.α)} (h0:s x1 x2 x3=some r) {mi:Mem} {w0:World},CtrB Try.prog (g.φ 72) [(.s ch_0_0 ch_0_1 ch_0_2),(.i x2),(.i x3),(.v (.func (.func g.fc) #[] #[]))] [Res.row g.T g.e ch_0_0 ch_0_1 ch_0_2 x1] (fun (ch:Unit)=>((.b r.1):D)) (fun (ch:Unit)=>[Res.row g.T g.e ch_0_0 ch_0_1 ch_0_2 r.2]) mi w0
def fa_.j1 (g:SortG)(y1:List g.α):Option (Bool×(List g.α)):=some (false,y1)
def fa_.j2 (g:SortG)(y40:Int)(rec1:(List g.α)→Int→Int→Option (Bool×(List g.α)))(y57:List g.α)(y58:Int):Option (Bool×(List g.α)):=rec1 y57 (wr .i64 (y40+1)) y58
def fa_.b2 (g:SortG)(k:Nat)(x3:Int)(y40:Int)(rec1:(List g.α)→Int→Int→Option (Bool×(List g.α)))(y64:Int)(rec2:(List g.α)→Int→Option (Bool×(List g.α)))(y72:List g.α)(y73:Int):Option (Bool×(List g.α)):=if (decide (y73<x3))=true then (if (0:Int)≤y73∧y73<((y72).length:Int) then (if (0:Int)≤(wr .i64 (y73 - 1))∧(wr .i64 (y73 - 1))<((y72).length:Int) then ((g.cmp k (gt y72 y73) (gt y72 (wr .i64 (y73 - 1)))).bind fun t1=>(if (!(decide (t1<0)))=true then (fa_.j2 g y40 rec1 y72 y64) else (if (0:Int)≤(wr .i64 (y73 - 1))∧(wr .i64 (y73 - 1))<((y72.set (Int.toNat y73) (gt y72 (wr .i64 (y73 - 1)))).length:Int) then (rec2 ((y72.set (Int.toNat y73) (gt y72 (wr .i64 (y73 - 1)))).set (Int.toNat (wr .i64 (y73 - 1))) (gt y72 y73)) (wr .i64 (y73+1))) else none))) else none) else none) else (fa_.j2 g y40 rec1 y72 y64)
def fa_.l2 (g:SortG)(k:Nat)(x3:Int)(y40:Int)(rec1:(List g.α)→Int→Int→Option (Bool×(List g.α)))(y64:Int):Nat→(List g.α)→Int→Option (Bool×(List g.α))
  | 0,_,_=>none
  | q+1,y72,y73=>fa_.b2 g k x3 y40 rec1 y64 (fa_.l2 g k x3 y40 rec1 y64 q) y72 y73
def fa_.j4 (g:SortG)(k:Nat)(x3:Int)(y40:Int)(rec1:(List g.α)→Int→Int→Option (Bool×(List g.α)))(y64:Int)(y69:List g.α):Option (Bool×(List g.α)):=if (decide (2≤(wr .i64 (x3 - y64))))=true then (fa_.l2 g k x3 y40 rec1 y64 k y69 (wr .i64 (y64+1))) else (fa_.j2 g y40 rec1 y69 y64)
def fa_.b3 (g:SortG)(k:Nat)(x3:Int)(y40:Int)(rec1:(List g.α)→Int→Int→Option (Bool×(List g.α)))(y64:Int)(rec3:(List g.α)→Int→Option (Bool×(List g.α)))(y76:List g.α)(y77:Int):Option (Bool×(List g.α)):=if (decide (1≤y77))=true then (if (0:Int)≤y77∧y77<((y76).length:Int) then (if (0:Int)≤(wr .i64 (y77 - 1))∧(wr .i64 (y77 - 1))<((y76).length:Int) then ((g.cmp k (gt y76 y77) (gt y76 (wr .i64 (y77 - 1)))).bind fun t4=>(if (!(decide (t4<0)))=true then (fa_.j4 g k x3 y40 rec1 y64 y76) else (if (0:Int)≤(wr .i64 (y77 - 1))∧(wr .i64 (y77 - 1))<((y76.set (Int.toNat y77) (gt y76 (wr .i64 (y77 - 1)))).length:Int) then (rec3 ((y76.set (Int.toNat y77) (gt y76 (wr .i64 (y77 - 1)))).set (Int.toNat (wr .i64 (y77 - 1))) (gt y76 y77)) (wr .i64 (y77 - 1))) else none))) else none) else none) else (fa_.j4 g k x3 y40 rec1 y64 y76)
def fa_.l3 (g:SortG)(k:Nat)(x3:Int)(y40:Int)(rec1:(List g.α)→Int→Int→Option (Bool×(List g.α)))(y64:Int):Nat→(List g.α)→Int→Option (Bool×(List g.α))
  | 0,_,_=>none
  | q+1,y76,y77=>fa_.b3 g k x3 y40 rec1 y64 (fa_.l3 g k x3 y40 rec1 y64 q) y76 y77
def fa_.j3 (g:SortG)(k:Nat)(x2:Int)(x3:Int)(y39:List g.α)(y40:Int)(rec1:(List g.α)→Int→Int→Option (Bool×(List g.α)))(y64:Int):Option (Bool×(List g.α)):=if (y64==x3)=true then (some (true,y39)) else (if (decide ((wr .i64 (x3 - x2))<50))=true then (some (false,y39)) else (if (0:Int)≤(wr .i64 (y64 - 1))∧(wr .i64 (y64 - 1))<((y39).length:Int) then (if (0:Int)≤y64∧y64<((y39).length:Int) then (if (0:Int)≤(wr .i64 (y64 - 1))∧(wr .i64 (y64 - 1))<((y39.set (Int.toNat y64) (gt y39 (wr .i64 (y64 - 1)))).length:Int) then (if (decide (2≤(wr .i64 (y64 - x2))))=true then (fa_.l3 g k x3 y40 rec1 y64 k ((y39.set (Int.toNat y64) (gt y39 (wr .i64 (y64 - 1)))).set (Int.toNat (wr .i64 (y64 - 1))) (gt y39 y64)) (wr .i64 (y64 - 1))) else (fa_.j4 g k x3 y40 rec1 y64 ((y39.set (Int.toNat y64) (gt y39 (wr .i64 (y64 - 1)))).set (Int.toNat (wr .i64 (y64 - 1))) (gt y39 y64)))) else none) else none) else none))
def fa_.j5 (g:SortG)(k:Nat)(x2:Int)(x3:Int)(y39:List g.α)(y40:Int)(rec1:(List g.α)→Int→Int→Option (Bool×(List g.α)))(y81:Int)(rec4:Int→Option (Bool×(List g.α)))(y82:Bool):Option (Bool×(List g.α)):=if y82=true then (rec4 (wr .i64 (y81+1))) else (fa_.j3 g k x2 x3 y39 y40 rec1 y81)
def fa_.b4 (g:SortG)(k:Nat)(x2:Int)(x3:Int)(y39:List g.α)(y40:Int)(rec1:(List g.α)→Int→Int→Option (Bool×(List g.α)))(rec4:Int→Option (Bool×(List g.α)))(y81:Int):Option (Bool×(List g.α)):=if (decide (y81<x3))=true then (if (0:Int)≤y81∧y81<((y39).length:Int) then (if (0:Int)≤(wr .i64 (y81 - 1))∧(wr .i64 (y81 - 1))<((y39).length:Int) then ((g.cmp k (gt y39 y81) (gt y39 (wr .i64 (y81 - 1)))).bind fun t6=>(fa_.j5 g k x2 x3 y39 y40 rec1 y81 rec4 (!(decide (t6<0))))) else none) else none) else (fa_.j5 g k x2 x3 y39 y40 rec1 y81 rec4 false)
def fa_.l4 (g:SortG)(k:Nat)(x2:Int)(x3:Int)(y39:List g.α)(y40:Int)(rec1:(List g.α)→Int→Int→Option (Bool×(List g.α))):Nat→Int→Option (Bool×(List g.α))
  | 0,_=>none
  | q+1,y81=>fa_.b4 g k x2 x3 y39 y40 rec1 (fa_.l4 g k x2 x3 y39 y40 rec1 q) y81
def fa_.b1 (g:SortG)(k:Nat)(x2:Int)(x3:Int)(rec1:(List g.α)→Int→Int→Option (Bool×(List g.α)))(y39:List g.α)(y40:Int)(y41:Int):Option (Bool×(List g.α)):=if (decide (y40<5))=true then (fa_.l4 g k x2 x3 y39 y40 rec1 k y41) else (fa_.j1 g y39)
def fa_.l1 (g:SortG)(k:Nat)(x2:Int)(x3:Int):Nat→(List g.α)→Int→Int→Option (Bool×(List g.α))
  | 0,_,_,_=>none
  | q+1,y39,y40,y41=>fa_.b1 g k x2 x3 (fa_.l1 g k x2 x3 q) y39 y40 y41
def fa_.f (g:SortG)(k:Nat)(x1:List g.α)(x2:Int)(x3:Int):Option (Bool×(List g.α)):=fa_.l1 g k x2 x3 k x1 0 (wr .i64 (x2+1))
theorem fa_.ok (g:SortG)(h:SortG.Ok g)(k:Nat):fa_.Ctr g (fa_.f g k):=by
 intro x1 x2 x3 ch_0_0 ch_0_1 ch_0_2 r h0 mi w0 ok hm
 delta fa_.f at h0
 refine c_enterG (n:=141) [(.s ch_0_0 ch_0_1 ch_0_2),(.i x2),(.i x3),(.v (.func (.func g.fc) #[] #[]))] (l:=[(0,(.s ch_0_0 ch_0_1 ch_0_2)),(1,(.i x2)),(2,(.i x3)),(3,(.v (.func (.func g.fc) #[] #[])))]) h.n72 rfl rfl rfl ok hm ?_
 clear ok hm
 intro b0 hb a S
 refine c_region (s_as1 S rfl fun a S=>c_end (c_region (s_mv1 S rfl fun a S=>s_bi S rfl fun a S=>s_as1 S rfl fun a S=>c_end (wp_seq_k fun K1 hK1=>?_))))
 have j1:∀ m y1 a w,St 141 m b0 [] [Res.row g.T g.e ch_0_0 ch_0_1 ch_0_2 y1] a w→fa_.j1 g y1=some r→K1 a w:=by
  intro m y1 a w S h0
  delta fa_.j1 at h0
  refine hK1 a w (c_region (s_as1 S rfl fun a S=>c_end (wp_ret ?_)))
  obtain rfl:=sI h0
  exact b_ret1 (d:=(.b false)) S rfl rfl fun ok=>S.retX (Hx:=[]) hb _ _ (():Unit) (.c0 .n) ok
 refine c_region (s_as1 S rfl fun a S=>c_end (wp_block ?_))
 refine c_loop (fun q1 a w=>∃ m y39 y40 y41,St 141 m b0 [(10,(.i y40)),(9,(.i y41)),(0,(.s ch_0_0 ch_0_1 ch_0_2)),(1,(.i x2)),(2,(.i x3)),(3,(.v (.func (.func g.fc) #[] #[])))] [Res.row g.T g.e ch_0_0 ch_0_1 ch_0_2 y39] a w∧fa_.l1 g k x2 x3 q1 y39 y40 y41=some r) ?_ ?_ (k:=k) ⟨_,x1,0,(wr .i64 (x2+1)),(S.sb rfl (.c0 .n)),h0⟩
 ·rintro a w ⟨m,y39,y40,y41,S,h0⟩
  exact (nomatch (show (none:Option (Bool×(List g.α)))=some r from h0))
 ·clear S h0
  rintro q1 a w ⟨m,y39,y40,y41,S,h0⟩
  replace h0:fa_.b1 g k x2 x3 (fa_.l1 g k x2 x3 q1) y39 y40 y41=some r:=h0
  delta fa_.b1 at h0
  refine wp_seq (c_region (s_mv1 S rfl fun a S=>s_bi S rfl fun a S=>c_end ?_))
  rcases ite_of h0 with ⟨c1,h1⟩ | ⟨c1,h1⟩
  ·refine c_condT S rfl c1 (wp_skip (x_thenN (wp_seq_k fun K2 hK2=>?_)))
   have j2:∀ m y57 y58 a w,St 141 m b0 [(10,(.i y40)),(9,(.i y58)),(0,(.s ch_0_0 ch_0_1 ch_0_2)),(1,(.i x2)),(2,(.i x3)),(3,(.v (.func (.func g.fc) #[] #[])))] [Res.row g.T g.e ch_0_0 ch_0_1 ch_0_2 y57] a w→fa_.j2 g y40 (fa_.l1 g k x2 x3 q1) y57 y58=some r→K2 a w:=by
    intro m y57 y58 a w S h0
    delta fa_.j2 at h0
    refine hK2 a w (c_region' (s_mv1 S rfl fun a S=>s_bi S rfl fun a S=>s_as1 S rfl fun a S=>c_end' (x_thenN ?_)))
    exact ⟨_,y57,(wr .i64 (y40+1)),y58,(S.sb rfl (.c0 .n)),h0⟩
   refine wp_block (wp_seq_k fun K3 hK3=>?_)
   have j3:∀ m y64 a w,St 141 m b0 [(10,(.i y40)),(9,(.i y64)),(0,(.s ch_0_0 ch_0_1 ch_0_2)),(1,(.i x2)),(2,(.i x3)),(3,(.v (.func (.func g.fc) #[] #[])))] [Res.row g.T g.e ch_0_0 ch_0_1 ch_0_2 y39] a w→fa_.j3 g k x2 x3 y39 y40 (fa_.l1 g k x2 x3 q1) y64=some r→K3 a w:=by
    intro m y64 a w S h0
    delta fa_.j3 at h0
    refine hK3 a w (wp_seq (c_region (s_mv2 S rfl fun a S=>s_bi S rfl fun a S=>c_end ?_)))
    rcases ite_of h0 with ⟨c2,h1⟩ | ⟨c2,h1⟩
    ·refine c_condT S rfl c2 (c_region (s_as1 S rfl fun a S=>c_end (wp_ret (x_thenR (x_blockR (x_thenR (x_thenR (x_blockR (x_thenR ?_)))))))))
     obtain rfl:=sI h1
     exact b_ret1 (d:=(.b true)) S rfl rfl fun ok=>S.retX (Hx:=[]) hb _ _ (():Unit) (.c0 .n) ok
    ·refine c_condF S rfl c2 (wp_skip (x_thenN (wp_seq (c_region (s_mv2 S rfl fun a S=>s_bi S rfl fun a S=>s_bi S rfl fun a S=>c_end ?_)))))
     rcases ite_of h1 with ⟨c3,h2⟩ | ⟨c3,h2⟩
     ·refine c_condT S rfl c3 (c_region (s_as1 S rfl fun a S=>c_end (wp_ret (x_thenR (x_blockR (x_thenR (x_thenR (x_blockR (x_thenR ?_)))))))))
      obtain rfl:=sI h2
      exact b_ret1 (d:=(.b false)) S rfl rfl fun ok=>S.retX (Hx:=[]) hb _ _ (():Unit) (.c0 .n) ok
     ·refine c_condF S rfl c3 (wp_skip (x_thenN ?_))
      have hS:=S.rowx (fun _=> .h)
      clear S; obtain ⟨cs1,S⟩:=hS
      refine wp_seq (c_hS S (.take 0 (.take 1 (.tk 5 10 (.pure 2 (.pure 3 (.pure 4 (.alts (.run 15 false (.alts (.run 16 false (.alts (.run 17 false .done .nil)) .nil)) .nil)))))))) 15 (.c0 .n) ⟨Res.stay_rowx,tv⟩ [(9,(.i y64)),(0,(.s ch_0_0 ch_0_1 ch_0_2))] rfl (by kernel_rfl) ?_); clear S; intro w S CL hw le
      refine h_mv4 S CL hw le rfl tv tv tv tv fun a S CL=>h_bin S CL hw le (subR rfl) rfl rfl rfl rfl rfl tv fun a S CL=>?_
      obtain ⟨c4,h3⟩:=chk_of h2; clear h2
      refine h_iaddrX S CL hw le (subR rfl) (ty':=g.T) rfl .h rfl h.hU h.hT c4.1 c4.2 rfl rfl tv fun g1 a hA1 S CL=>h_ldXW S CL hw le (subR rfl) (i:=(wr .i64 (y64 - 1))) rfl hA1 .h h.hT c4.1 c4.2 rfl rfl rfl tv fun ch1 a S CL=>h_mv2 S CL hw le rfl tv tv fun a S CL=>?_
      obtain ⟨c5,h4⟩:=chk_of h3; clear h3
      refine h_iaddrX S CL hw le (subR rfl) (ty':=g.T) rfl .h rfl h.hU h.hT c5.1 c5.2 rfl rfl tv fun g2 a hA2 S CL=>h_ldXW S CL hw le (subR rfl) (i:=y64) rfl hA2 .h h.hT c5.1 c5.2 rfl rfl rfl tv fun ch2 a S CL=>h_iaddrX S CL hw le (subR rfl) (ty':=g.T) rfl .h rfl h.hU h.hT c5.1 c5.2 rfl rfl tv fun g3 a hA3 S CL=>p_move S rfl rfl rfl tv fun a S=>p_move S rfl rfl rfl tv fun a S=>p_bin S rfl rfl rfl rfl rfl tv fun a S=>h_run' S rfl tv ?_
      replace S:=S.rowu .h
      refine s_stRW S (i:=y64) (u:=gt y39 (wr .i64 (y64 - 1))) (cu:=ch1) rfl rfl hA3 .h h.hT c5.1 c5.2 rfl fun w S=>?_
      refine h_back ⟨fun h=>(nomatch h),?_⟩
      refine h_run' S rfl tv ?_
      obtain ⟨c6,h5⟩:=chk_of h4; clear h4
      refine s_iaddrO S (ty':=g.T) rfl .h rfl h.hU h.hT c6.1 c6.2 rfl fun g4 a hA4 S=>?_
      refine h_back ⟨fun h=>(nomatch h),?_⟩
      refine h_run' S rfl tv (s_stRW S (i:=(wr .i64 (y64 - 1))) (u:=gt y39 y64) (cu:=ch2) rfl rfl hA4 .h h.hT c6.1 c6.2 rfl fun w S=>?_)
      refine h_back ⟨fun h=>(nomatch h),?_⟩
      refine h_done ?_; clear CL hw le
      refine x_thenN (wp_seq_k fun K4 hK4=>?_)
      have j4:∀ m y69 a w,St 141 m b0 [(10,(.i y40)),(9,(.i y64)),(0,(.s ch_0_0 ch_0_1 ch_0_2)),(1,(.i x2)),(2,(.i x3)),(3,(.v (.func (.func g.fc) #[] #[])))] [Res.row g.T g.e ch_0_0 ch_0_1 ch_0_2 y69] a w→fa_.j4 g k x3 y40 (fa_.l1 g k x2 x3 q1) y64 y69=some r→K4 a w:=by
       intro m y69 a w S h0
       delta fa_.j4 at h0
       refine hK4 a w (c_region (s_mv2 S rfl fun a S=>s_bi S rfl fun a S=>s_bi S rfl fun a S=>c_end ?_))
       rcases ite_of h0 with ⟨c7,h1⟩ | ⟨c7,h1⟩
       ·refine c_condT S rfl c7 (c_region (s_mv1 S rfl fun a S=>s_bi S rfl fun a S=>s_as1 S rfl fun a S=>c_end (wp_block ?_)))
        refine c_loop (fun q2 a w=>∃ m y72 y73,St 141 m b0 [(12,(.i y73)),(10,(.i y40)),(9,(.i y64)),(0,(.s ch_0_0 ch_0_1 ch_0_2)),(1,(.i x2)),(2,(.i x3)),(3,(.v (.func (.func g.fc) #[] #[])))] [Res.row g.T g.e ch_0_0 ch_0_1 ch_0_2 y72] a w∧fa_.l2 g k x3 y40 (fa_.l1 g k x2 x3 q1) y64 q2 y72 y73=some r) ?_ ?_ (k:=k) ⟨_,y69,(wr .i64 (y64+1)),(S.sb rfl (.c0 .n)),h1⟩
        ·rintro a w ⟨m,y72,y73,S,h0⟩
         exact (nomatch (show (none:Option (Bool×(List g.α)))=some r from h0))
        ·clear S h1
         rintro q2 a w ⟨m,y72,y73,S,h0⟩
         replace h0:fa_.b2 g k x3 y40 (fa_.l1 g k x2 x3 q1) y64 (fa_.l2 g k x3 y40 (fa_.l1 g k x2 x3 q1) y64 q2) y72 y73=some r:=h0
         delta fa_.b2 at h0
         refine wp_seq (c_region (s_mv2 S rfl fun a S=>s_bi S rfl fun a S=>c_end ?_))
         rcases ite_of h0 with ⟨c8,h1⟩ | ⟨c8,h1⟩
         ·refine c_condT S rfl c8 (wp_skip (x_thenN (wp_seq (wp_block (wp_seq ?_)))))
          have hS:=S.rowx (fun _=> .h)
          clear S; obtain ⟨cs2,S⟩:=hS
          refine wp_seq (c_hS S (.tk 0 10 (.alts (.run 10 true (.take 11 (.take 12 .done)) .nil))) 13 (.c0 .n) ⟨Res.stay_rowx,tv⟩ [(12,(.i y73)),(0,(.s ch_0_0 ch_0_1 ch_0_2)),(3,(.v (.func (.func g.fc) #[] #[])))] rfl (by kernel_rfl) ?_); clear S; intro w S CL hw le
          refine h_mv3 S CL hw le rfl tv tv tv fun a S CL=>?_
          obtain ⟨c9,h2⟩:=chk_of h1; clear h1
          refine h_iaddrX S CL hw le (subR rfl) (ty':=g.T) rfl .h rfl h.hU h.hT c9.1 c9.2 rfl rfl tv fun g31 a hA5 S CL=>h_ldXW S CL hw le (subR rfl) (i:=y73) rfl hA5 .h h.hT c9.1 c9.2 rfl rfl rfl tv fun ch25 a S CL=>h_mv2 S CL hw le rfl tv tv fun a S CL=>h_bin S CL hw le (subR rfl) rfl rfl rfl rfl rfl tv fun a S CL=>?_
          obtain ⟨c10,h3⟩:=chk_of h2; clear h2
          refine h_iaddrX S CL hw le (subR rfl) (ty':=g.T) rfl .h rfl h.hU h.hT c10.1 c10.2 rfl rfl tv fun g32 a hA6 S CL=>h_ldXW S CL hw le (subR rfl) (i:=(wr .i64 (y73 - 1))) rfl hA6 .h h.hT c10.1 c10.2 rfl rfl rfl tv fun ch26 a S CL=>h_run' S rfl tv (bindX h3 fun t1 et1 h4=>s_callK S (h.hcmp et1) h.nc rfl .pre (fun _=> .n) rfl fun ch27 m le1 a w S=>?_)
          replace le:=le.trans le1
          refine CL.bk hw S (.c0 .n) le fun hw=>?_
          replace CL:=CL.add (t:=122) (d:=(.i t1)) S rfl rfl
          refine h_bin S CL hw le (subR rfl) rfl rfl rfl rfl rfl tv fun a S CL=>h_not S CL hw le (subR rfl) rfl rfl rfl tv fun a S CL=>?_
          refine h_done ?_; clear CL hw le
          replace S:=S.rowu .h
          refine x_thenN ?_
          rcases ite_of h4 with ⟨c11,h5⟩ | ⟨c11,h5⟩
          ·refine c_condT S rfl c11 (wp_exit (x_thenX (x_blockO (by decide) (x_thenX (x_thenX (x_blockX (x_blockN (x_thenN ?_))))))))
           exact j2 _ y72 y64 a w (S.sb rfl (.c0 .n)) h5
          ·refine c_condF S rfl c11 (wp_skip (x_thenN ?_))
           have hS:=S.rowx (fun _=> .h)
           clear S; obtain ⟨cs3,S⟩:=hS
           refine c_hS S (.take 0 (.take 1 (.tk 5 10 (.pure 2 (.pure 3 (.pure 4 (.alts (.run 15 false (.alts (.run 16 false (.alts (.run 17 false .done .nil)) .nil)) .nil)))))))) 15 (.c0 .n) ⟨Res.stay_rowx,tv⟩ [(12,(.i y73)),(0,(.s ch_0_0 ch_0_1 ch_0_2))] rfl (by kernel_rfl) fun w S CL hw le=>?_
           refine h_mv4 S CL hw le rfl tv tv tv tv fun a S CL=>h_bin S CL hw le (subR rfl) rfl rfl rfl rfl rfl tv fun a S CL=>h_iaddrX S CL hw le (subR rfl) (ty':=g.T) rfl .h rfl h.hU h.hT c10.1 c10.2 rfl rfl tv fun g33 a hA7 S CL=>h_ldXW S CL hw le (subR rfl) (i:=(wr .i64 (y73 - 1))) rfl hA7 .h h.hT c10.1 c10.2 rfl rfl rfl tv fun ch28 a S CL=>h_mv2 S CL hw le rfl tv tv fun a S CL=>h_iaddrX S CL hw le (subR rfl) (ty':=g.T) rfl .h rfl h.hU h.hT c9.1 c9.2 rfl rfl tv fun g34 a hA8 S CL=>h_ldXW S CL hw le (subR rfl) (i:=y73) rfl hA8 .h h.hT c9.1 c9.2 rfl rfl rfl tv fun ch29 a S CL=>h_iaddrX S CL hw le (subR rfl) (ty':=g.T) rfl .h rfl h.hU h.hT c9.1 c9.2 rfl rfl tv fun g35 a hA9 S CL=>p_move S rfl rfl rfl tv fun a S=>p_move S rfl rfl rfl tv fun a S=>p_bin S rfl rfl rfl rfl rfl tv fun a S=>h_run' S rfl tv ?_
           replace S:=S.rowu .h
           refine s_stRW S (i:=y73) (u:=gt y72 (wr .i64 (y73 - 1))) (cu:=ch28) rfl rfl hA9 .h h.hT c9.1 c9.2 rfl fun w S=>?_
           refine h_back ⟨fun h=>(nomatch h),?_⟩
           refine h_run' S rfl tv ?_
           obtain ⟨c12,h6⟩:=chk_of h5; clear h5
           refine s_iaddrO S (ty':=g.T) rfl .h rfl h.hU h.hT c12.1 c12.2 rfl fun g36 a hA10 S=>?_
           refine h_back ⟨fun h=>(nomatch h),?_⟩
           refine h_run' S rfl tv (s_stRW S (i:=(wr .i64 (y73 - 1))) (u:=gt y72 y73) (cu:=ch29) rfl rfl hA10 .h h.hT c12.1 c12.2 rfl fun w S=>?_)
           refine h_back ⟨fun h=>(nomatch h),?_⟩
           refine h_done ?_; clear CL hw le
           refine x_blockN (x_thenN (c_region' (s_mv1 S rfl fun a S=>s_bi S rfl fun a S=>s_as1 S rfl fun a S=>c_end' (x_thenN ?_))))
           exact ⟨_,((y72.set (Int.toNat y73) (gt y72 (wr .i64 (y73 - 1)))).set (Int.toNat (wr .i64 (y73 - 1))) (gt y72 y73)),(wr .i64 (y73+1)),(S.sb rfl (.c0 .n)),h6⟩
         ·refine c_condF S rfl c8 (wp_exit (x_thenX (x_thenX (x_blockX (x_blockN (x_thenN ?_))))))
          exact j2 _ y72 y64 a w (S.sb rfl (.c0 .n)) h1
       ·refine c_condF S rfl c7 (wp_skip (x_blockN (x_thenN ?_)))
        exact j2 _ y69 y64 a w (S.sb rfl (.c0 .n)) h1
      refine c_region (s_mv2 S rfl fun a S=>s_bi S rfl fun a S=>s_bi S rfl fun a S=>c_end ?_)
      rcases ite_of h5 with ⟨c13,h6⟩ | ⟨c13,h6⟩
      ·refine c_condT S rfl c13 (c_region (s_mv1 S rfl fun a S=>s_bi S rfl fun a S=>s_as1 S rfl fun a S=>c_end (wp_block ?_)))
       refine c_loop (fun q3 a w=>∃ m y76 y77,St 141 m b0 [(11,(.i y77)),(10,(.i y40)),(9,(.i y64)),(0,(.s ch_0_0 ch_0_1 ch_0_2)),(1,(.i x2)),(2,(.i x3)),(3,(.v (.func (.func g.fc) #[] #[])))] [Res.row g.T g.e ch_0_0 ch_0_1 ch_0_2 y76] a w∧fa_.l3 g k x3 y40 (fa_.l1 g k x2 x3 q1) y64 q3 y76 y77=some r) ?_ ?_ (k:=k) ⟨_,((y39.set (Int.toNat y64) (gt y39 (wr .i64 (y64 - 1)))).set (Int.toNat (wr .i64 (y64 - 1))) (gt y39 y64)),(wr .i64 (y64 - 1)),(S.sb rfl (.c0 .n)),h6⟩
       ·rintro a w ⟨m,y76,y77,S,h0⟩
        exact (nomatch (show (none:Option (Bool×(List g.α)))=some r from h0))
       ·clear S h6
        rintro q3 a w ⟨m,y76,y77,S,h0⟩
        replace h0:fa_.b3 g k x3 y40 (fa_.l1 g k x2 x3 q1) y64 (fa_.l3 g k x3 y40 (fa_.l1 g k x2 x3 q1) y64 q3) y76 y77=some r:=h0
        delta fa_.b3 at h0
        refine wp_seq (c_region (s_mv1 S rfl fun a S=>s_bi S rfl fun a S=>c_end ?_))
        rcases ite_of h0 with ⟨c14,h1⟩ | ⟨c14,h1⟩
        ·refine c_condT S rfl c14 (wp_skip (x_thenN (wp_seq (wp_block (wp_seq ?_)))))
         have hS:=S.rowx (fun _=> .h)
         clear S; obtain ⟨cs4,S⟩:=hS
         refine wp_seq (c_hS S (.tk 0 10 (.alts (.run 10 true (.take 11 (.take 12 .done)) .nil))) 13 (.c0 .n) ⟨Res.stay_rowx,tv⟩ [(11,(.i y77)),(0,(.s ch_0_0 ch_0_1 ch_0_2)),(3,(.v (.func (.func g.fc) #[] #[])))] rfl (by kernel_rfl) ?_); clear S; intro w S CL hw le
         refine h_mv3 S CL hw le rfl tv tv tv fun a S CL=>?_
         obtain ⟨c15,h2⟩:=chk_of h1; clear h1
         refine h_iaddrX S CL hw le (subR rfl) (ty':=g.T) rfl .h rfl h.hU h.hT c15.1 c15.2 rfl rfl tv fun g49 a hA11 S CL=>h_ldXW S CL hw le (subR rfl) (i:=y77) rfl hA11 .h h.hT c15.1 c15.2 rfl rfl rfl tv fun ch40 a S CL=>h_mv2 S CL hw le rfl tv tv fun a S CL=>h_bin S CL hw le (subR rfl) rfl rfl rfl rfl rfl tv fun a S CL=>?_
         obtain ⟨c16,h3⟩:=chk_of h2; clear h2
         refine h_iaddrX S CL hw le (subR rfl) (ty':=g.T) rfl .h rfl h.hU h.hT c16.1 c16.2 rfl rfl tv fun g50 a hA12 S CL=>h_ldXW S CL hw le (subR rfl) (i:=(wr .i64 (y77 - 1))) rfl hA12 .h h.hT c16.1 c16.2 rfl rfl rfl tv fun ch41 a S CL=>h_run' S rfl tv (bindX h3 fun t4 et4 h4=>s_callK S (h.hcmp et4) h.nc rfl .pre (fun _=> .n) rfl fun ch42 m le1 a w S=>?_)
         replace le:=le.trans le1
         refine CL.bk hw S (.c0 .n) le fun hw=>?_
         replace CL:=CL.add (t:=82) (d:=(.i t4)) S rfl rfl
         refine h_bin S CL hw le (subR rfl) rfl rfl rfl rfl rfl tv fun a S CL=>h_not S CL hw le (subR rfl) rfl rfl rfl tv fun a S CL=>?_
         refine h_done ?_; clear CL hw le
         replace S:=S.rowu .h
         refine x_thenN ?_
         rcases ite_of h4 with ⟨c17,h5⟩ | ⟨c17,h5⟩
         ·refine c_condT S rfl c17 (wp_exit (x_thenX (x_blockO (by decide) (x_thenX (x_thenX (x_blockX (x_thenN ?_)))))))
          exact j4 _ y76 a w (S.sb rfl (.c0 .n)) h5
         ·refine c_condF S rfl c17 (wp_skip (x_thenN ?_))
          have hS:=S.rowx (fun _=> .h)
          clear S; obtain ⟨cs5,S⟩:=hS
          refine c_hS S (.take 0 (.take 1 (.tk 5 10 (.pure 2 (.pure 3 (.pure 4 (.alts (.run 15 false (.alts (.run 16 false (.alts (.run 17 false .done .nil)) .nil)) .nil)))))))) 15 (.c0 .n) ⟨Res.stay_rowx,tv⟩ [(11,(.i y77)),(0,(.s ch_0_0 ch_0_1 ch_0_2))] rfl (by kernel_rfl) fun w S CL hw le=>?_
          refine h_mv4 S CL hw le rfl tv tv tv tv fun a S CL=>h_bin S CL hw le (subR rfl) rfl rfl rfl rfl rfl tv fun a S CL=>h_iaddrX S CL hw le (subR rfl) (ty':=g.T) rfl .h rfl h.hU h.hT c16.1 c16.2 rfl rfl tv fun g51 a hA13 S CL=>h_ldXW S CL hw le (subR rfl) (i:=(wr .i64 (y77 - 1))) rfl hA13 .h h.hT c16.1 c16.2 rfl rfl rfl tv fun ch43 a S CL=>h_mv2 S CL hw le rfl tv tv fun a S CL=>h_iaddrX S CL hw le (subR rfl) (ty':=g.T) rfl .h rfl h.hU h.hT c15.1 c15.2 rfl rfl tv fun g52 a hA14 S CL=>h_ldXW S CL hw le (subR rfl) (i:=y77) rfl hA14 .h h.hT c15.1 c15.2 rfl rfl rfl tv fun ch44 a S CL=>h_iaddrX S CL hw le (subR rfl) (ty':=g.T) rfl .h rfl h.hU h.hT c15.1 c15.2 rfl rfl tv fun g53 a hA15 S CL=>p_move S rfl rfl rfl tv fun a S=>p_move S rfl rfl rfl tv fun a S=>p_bin S rfl rfl rfl rfl rfl tv fun a S=>h_run' S rfl tv ?_
          replace S:=S.rowu .h
          refine s_stRW S (i:=y77) (u:=gt y76 (wr .i64 (y77 - 1))) (cu:=ch43) rfl rfl hA15 .h h.hT c15.1 c15.2 rfl fun w S=>?_
          refine h_back ⟨fun h=>(nomatch h),?_⟩
          refine h_run' S rfl tv ?_
          obtain ⟨c18,h6⟩:=chk_of h5; clear h5
          refine s_iaddrO S (ty':=g.T) rfl .h rfl h.hU h.hT c18.1 c18.2 rfl fun g54 a hA16 S=>?_
          refine h_back ⟨fun h=>(nomatch h),?_⟩
          refine h_run' S rfl tv (s_stRW S (i:=(wr .i64 (y77 - 1))) (u:=gt y76 y77) (cu:=ch44) rfl rfl hA16 .h h.hT c18.1 c18.2 rfl fun w S=>?_)
          refine h_back ⟨fun h=>(nomatch h),?_⟩
          refine h_done ?_; clear CL hw le
          refine x_blockN (x_thenN (c_region' (s_mv1 S rfl fun a S=>s_bi S rfl fun a S=>s_as1 S rfl fun a S=>c_end' (x_thenN ?_))))
          exact ⟨_,((y76.set (Int.toNat y77) (gt y76 (wr .i64 (y77 - 1)))).set (Int.toNat (wr .i64 (y77 - 1))) (gt y76 y77)),(wr .i64 (y77 - 1)),(S.sb rfl (.c0 .n)),h6⟩
        ·refine c_condF S rfl c14 (wp_exit (x_thenX (x_thenX (x_blockX (x_thenN ?_)))))
         exact j4 _ y76 a w (S.sb rfl (.c0 .n)) h1
      ·refine c_condF S rfl c13 (wp_skip (x_thenN ?_))
       exact j4 _ ((y39.set (Int.toNat y64) (gt y39 (wr .i64 (y64 - 1)))).set (Int.toNat (wr .i64 (y64 - 1))) (gt y39 y64)) a w (S.sb rfl (.c0 .n)) h6
   refine wp_block ?_
   refine c_loop (fun q4 a w=>∃ m y81,St 141 m b0 [(10,(.i y40)),(9,(.i y81)),(0,(.s ch_0_0 ch_0_1 ch_0_2)),(1,(.i x2)),(2,(.i x3)),(3,(.v (.func (.func g.fc) #[] #[])))] [Res.row g.T g.e ch_0_0 ch_0_1 ch_0_2 y39] a w∧fa_.l4 g k x2 x3 y39 y40 (fa_.l1 g k x2 x3 q1) q4 y81=some r) ?_ ?_ (k:=k) ⟨_,y41,(S.sb rfl (.c0 .n)),h1⟩
   ·rintro a w ⟨m,y81,S,h0⟩
    exact (nomatch (show (none:Option (Bool×(List g.α)))=some r from h0))
   ·clear S h1
    rintro q4 a w ⟨m,y81,S,h0⟩
    replace h0:fa_.b4 g k x2 x3 y39 y40 (fa_.l1 g k x2 x3 q1) (fa_.l4 g k x2 x3 y39 y40 (fa_.l1 g k x2 x3 q1) q4) y81=some r:=h0
    delta fa_.b4 at h0
    refine wp_seq (wp_seq_k fun K5 hK5=>?_)
    have j5:∀ m y82 a w,St 141 m b0 [(36,(.b y82)),(10,(.i y40)),(9,(.i y81)),(0,(.s ch_0_0 ch_0_1 ch_0_2)),(1,(.i x2)),(2,(.i x3)),(3,(.v (.func (.func g.fc) #[] #[])))] [Res.row g.T g.e ch_0_0 ch_0_1 ch_0_2 y39] a w→fa_.j5 g k x2 x3 y39 y40 (fa_.l1 g k x2 x3 q1) y81 (fa_.l4 g k x2 x3 y39 y40 (fa_.l1 g k x2 x3 q1) q4) y82=some r→K5 a w:=by
     intro m y82 a w S h0
     delta fa_.j5 at h0
     refine hK5 a w ?_
     rcases ite_of h0 with ⟨c19,h1⟩ | ⟨c19,h1⟩
     ·refine c_condT S rfl c19 (wp_skip (x_thenN (wp_block (c_region' (s_mv1 S rfl fun a S=>s_bi S rfl fun a S=>s_as1 S rfl fun a S=>c_end' (x_blockN (x_thenN ?_)))))))
      exact ⟨_,(wr .i64 (y81+1)),(S.sb rfl (.c0 .n)),h1⟩
     ·refine c_condF S rfl c19 (wp_exit (x_thenX (x_thenX (x_blockX (x_thenN ?_)))))
      exact j3 _ y81 a w (S.sb rfl (.c0 .n)) h1
    have hS:=S.rowx (fun _=> .h)
    clear S; obtain ⟨cs6,S⟩:=hS
    refine c_hS S (.tk 0 14 (.alts (.run 14 true (.tk 15 3 .done) .nil))) 18 (.c0 .n) ⟨Res.stay_rowx,tv⟩ [(9,(.i y81)),(0,(.s ch_0_0 ch_0_1 ch_0_2)),(2,(.i x3)),(3,(.v (.func (.func g.fc) #[] #[])))] rfl (by kernel_rfl) fun w S CL hw le=>?_
    refine h_mv2 S CL hw le rfl tv tv fun a S CL=>h_bin S CL hw le (subR rfl) rfl rfl rfl rfl rfl tv fun a S CL=>h_mv1 S CL hw le rfl tv fun a S CL=>?_
    rcases ite_of h0 with ⟨c20,h1⟩ | ⟨c20,h1⟩
    ·refine h_mv3 S CL hw le rfl ⟨_,_,rfl,rfl,c20⟩ ⟨_,_,rfl,rfl,c20⟩ ⟨_,_,rfl,rfl,c20⟩ fun a S CL=>?_
     obtain ⟨c21,h2⟩:=chk_of h1; clear h1
     refine h_iaddrX S CL hw le (subR rfl) (ty':=g.T) rfl .h rfl h.hU h.hT c21.1 c21.2 rfl rfl ⟨_,_,rfl,rfl,c20⟩ fun g57 a hA17 S CL=>h_ldXW S CL hw le (subR rfl) (i:=y81) rfl hA17 .h h.hT c21.1 c21.2 rfl rfl rfl ⟨_,_,rfl,rfl,c20⟩ fun ch47 a S CL=>h_mv2 S CL hw le rfl ⟨_,_,rfl,rfl,c20⟩ ⟨_,_,rfl,rfl,c20⟩ fun a S CL=>h_bin S CL hw le (subR rfl) rfl rfl rfl rfl rfl ⟨_,_,rfl,rfl,c20⟩ fun a S CL=>?_
     obtain ⟨c22,h3⟩:=chk_of h2; clear h2
     refine h_iaddrX S CL hw le (subR rfl) (ty':=g.T) rfl .h rfl h.hU h.hT c22.1 c22.2 rfl rfl ⟨_,_,rfl,rfl,c20⟩ fun g58 a hA18 S CL=>h_ldXW S CL hw le (subR rfl) (i:=(wr .i64 (y81 - 1))) rfl hA18 .h h.hT c22.1 c22.2 rfl rfl rfl ⟨_,_,rfl,rfl,c20⟩ fun ch48 a S CL=>h_run' S rfl ⟨_,_,rfl,rfl,c20⟩ (bindX h3 fun t6 et6 h4=>s_callK S (h.hcmp et6) h.nc rfl .pre (fun _=> .n) rfl fun ch49 m le1 a w S=>?_)
     replace le:=le.trans le1
     refine CL.bk hw S (.c0 .n) le fun hw=>?_
     replace CL:=CL.add (t:=33) (d:=(.i t6)) S rfl rfl
     refine h_bin S CL hw le (subR rfl) rfl rfl rfl rfl rfl ⟨_,_,rfl,rfl,c20⟩ fun a S CL=>h_not S CL hw le (subR rfl) rfl rfl rfl ⟨_,_,rfl,rfl,c20⟩ fun a S CL=>h_pick S CL hw le (subR rfl) (b:=true) (hc_of rfl c20) rfl rfl rfl tv fun a S CL=>?_
     refine h_done ?_; clear CL hw le
     replace S:=S.rowu .h
     refine x_thenN ?_
     exact j5 _ (!(decide (t6<0))) a w (S.sb rfl (.c0 .n)) h4
    ·refine h_sk8 S CL rfl (ne_bool c20) fun a S CL=>h_sk2 S CL rfl (ne_bool c20) fun a S CL=>h_skipRt S rfl rfl rfl (ne_bool c20) rfl fun a S=>CL.bk hw S (.c0 .n) le fun hw=>?_
     replace CL:=CL.add (t:=33) (d:= .u) S rfl rfl
     refine h_sk2 S CL rfl (ne_bool c20) fun a S CL=>h_pick S CL hw le (subR rfl) (b:=false) (hc_of rfl c20) rfl rfl rfl tv fun a S CL=>?_
     refine h_done ?_; clear CL hw le
     replace S:=S.rowu .h
     refine x_thenN ?_
     exact j5 _ false a w (S.sb rfl (.c0 .n)) h1
  ·refine c_condF S rfl c1 (wp_exit (x_thenX (x_thenX (x_blockX (x_thenN ?_)))))
   exact j1 _ y39 a w (S.sub tv (.c0 .n)) h1
abbrev fa3_.Ty (g:SortG):Type:=(List g.α)→Int→Int→Int→Option (Int×(List g.α))
def fa3_.Ctr (g:SortG)(s:fa3_.Ty g):Prop:=∀ {x1:List g.α} {x2:Int} {x3:Int} {x4:Int} {ch_0_0:Option Addr} {ch_0_1:Nat} {ch_0_2:Nat} {r:Int×(List g.α)} (h0:s x1 x2 x3 x4=some r) {mi:Mem} {w0:World},CtrB Try.prog (g.φ 73) [(.s ch_0_0 ch_0_1 ch_0_2),(.i x2),(.i x3),(.i x4),(.v (.func (.func g.fc) #[] #[]))] [Res.row g.T g.e ch_0_0 ch_0_1 ch_0_2 x1] (fun (ch:Unit)=>((.i r.1):D)) (fun (ch:Unit)=>[Res.row g.T g.e ch_0_0 ch_0_1 ch_0_2 r.2]) mi w0
def fa3_.j1 (g:SortG)(y1:List g.α)(y2:Int):Option (Int×(List g.α)):=some (y2,y1)
def fa3_.j3 (g:SortG)(y30:List g.α)(rec1:(List g.α)→Int→Int→Option (Int×(List g.α)))(y38:Int)(y44:Int):Option (Int×(List g.α)):=if (decide (y44<y38))=true then (fa3_.j1 g y30 y38) else (if (0:Int)≤y44∧y44<((y30).length:Int) then (if (0:Int)≤y38∧y38<((y30).length:Int) then (if (0:Int)≤y44∧y44<((y30.set (Int.toNat y38) (gt y30 y44)).length:Int) then (rec1 ((y30.set (Int.toNat y38) (gt y30 y44)).set (Int.toNat y44) (gt y30 y38)) (wr .i64 (y44 - 1)) (wr .i64 (y38+1))) else none) else none) else none)
def fa3_.j4 (g:SortG)(y30:List g.α)(rec1:(List g.α)→Int→Int→Option (Int×(List g.α)))(y38:Int)(y48:Int)(rec2:Int→Option (Int×(List g.α)))(y49:Bool):Option (Int×(List g.α)):=if y49=true then (rec2 (wr .i64 (y48 - 1))) else (fa3_.j3 g y30 rec1 y38 y48)
def fa3_.b2 (g:SortG)(k:Nat)(x2:Int)(y30:List g.α)(rec1:(List g.α)→Int→Int→Option (Int×(List g.α)))(y38:Int)(rec2:Int→Option (Int×(List g.α)))(y48:Int):Option (Int×(List g.α)):=if (decide (y38≤y48))=true then (if (0:Int)≤x2∧x2<((y30).length:Int) then (if (0:Int)≤y48∧y48<((y30).length:Int) then ((g.cmp k (gt y30 x2) (gt y30 y48)).bind fun t1=>(fa3_.j4 g y30 rec1 y38 y48 rec2 (decide (t1<0)))) else none) else none) else (fa3_.j4 g y30 rec1 y38 y48 rec2 false)
def fa3_.l2 (g:SortG)(k:Nat)(x2:Int)(y30:List g.α)(rec1:(List g.α)→Int→Int→Option (Int×(List g.α)))(y38:Int):Nat→Int→Option (Int×(List g.α))
  | 0,_=>none
  | q+1,y48=>fa3_.b2 g k x2 y30 rec1 y38 (fa3_.l2 g k x2 y30 rec1 y38 q) y48
def fa3_.j2 (g:SortG)(k:Nat)(x2:Int)(y30:List g.α)(y31:Int)(rec1:(List g.α)→Int→Int→Option (Int×(List g.α)))(y38:Int):Option (Int×(List g.α)):=fa3_.l2 g k x2 y30 rec1 y38 k y31
def fa3_.j5 (g:SortG)(k:Nat)(x2:Int)(y30:List g.α)(y31:Int)(rec1:(List g.α)→Int→Int→Option (Int×(List g.α)))(y53:Int)(rec3:Int→Option (Int×(List g.α)))(y54:Bool):Option (Int×(List g.α)):=if y54=true then (rec3 (wr .i64 (y53+1))) else (fa3_.j2 g k x2 y30 y31 rec1 y53)
def fa3_.b3 (g:SortG)(k:Nat)(x2:Int)(y30:List g.α)(y31:Int)(rec1:(List g.α)→Int→Int→Option (Int×(List g.α)))(rec3:Int→Option (Int×(List g.α)))(y53:Int):Option (Int×(List g.α)):=if (decide (y53≤y31))=true then (if (0:Int)≤x2∧x2<((y30).length:Int) then (if (0:Int)≤y53∧y53<((y30).length:Int) then ((g.cmp k (gt y30 x2) (gt y30 y53)).bind fun t3=>(fa3_.j5 g k x2 y30 y31 rec1 y53 rec3 (!(decide (t3<0))))) else none) else none) else (fa3_.j5 g k x2 y30 y31 rec1 y53 rec3 false)
def fa3_.l3 (g:SortG)(k:Nat)(x2:Int)(y30:List g.α)(y31:Int)(rec1:(List g.α)→Int→Int→Option (Int×(List g.α))):Nat→Int→Option (Int×(List g.α))
  | 0,_=>none
  | q+1,y53=>fa3_.b3 g k x2 y30 y31 rec1 (fa3_.l3 g k x2 y30 y31 rec1 q) y53
def fa3_.b1 (g:SortG)(k:Nat)(x2:Int)(rec1:(List g.α)→Int→Int→Option (Int×(List g.α)))(y30:List g.α)(y31:Int)(y32:Int):Option (Int×(List g.α)):=fa3_.l3 g k x2 y30 y31 rec1 k y32
def fa3_.l1 (g:SortG)(k:Nat)(x2:Int):Nat→(List g.α)→Int→Int→Option (Int×(List g.α))
  | 0,_,_,_=>none
  | q+1,y30,y31,y32=>fa3_.b1 g k x2 (fa3_.l1 g k x2 q) y30 y31 y32
def fa3_.f (g:SortG)(k:Nat)(x1:List g.α)(x2:Int)(x3:Int)(x4:Int):Option (Int×(List g.α)):=if (0:Int)≤x4∧x4<((x1).length:Int) then (if (0:Int)≤x2∧x2<((x1).length:Int) then (if (0:Int)≤x4∧x4<((x1.set (Int.toNat x2) (gt x1 x4)).length:Int) then (fa3_.l1 g k x2 k ((x1.set (Int.toNat x2) (gt x1 x4)).set (Int.toNat x4) (gt x1 x2)) (wr .i64 (x3 - 1)) (wr .i64 (x2+1))) else none) else none) else none
theorem fa3_.ok (g:SortG)(h:SortG.Ok g)(k:Nat):fa3_.Ctr g (fa3_.f g k):=by
 intro x1 x2 x3 x4 ch_0_0 ch_0_1 ch_0_2 r h0 mi w0 ok hm
 delta fa3_.f at h0
 refine c_enterG (n:=90) [(.s ch_0_0 ch_0_1 ch_0_2),(.i x2),(.i x3),(.i x4),(.v (.func (.func g.fc) #[] #[]))] (l:=[(0,(.s ch_0_0 ch_0_1 ch_0_2)),(1,(.i x2)),(2,(.i x3)),(3,(.i x4)),(4,(.v (.func (.func g.fc) #[] #[])))]) h.n73 rfl rfl rfl ok hm ?_
 clear ok hm
 intro b0 hb a S
 refine c_region (s_as1 S rfl fun a S=>c_end ?_)
 have hS:=S.rowx (fun _=> .h)
 clear S; obtain ⟨cs1,S⟩:=hS
 refine wp_seq (c_hS S (.take 0 (.take 1 (.tk 4 9 (.pure 2 (.pure 3 (.alts (.run 13 false (.alts (.run 14 false (.alts (.run 15 false .done .nil)) .nil)) .nil))))))) 13 (.c0 .n) ⟨Res.stay_rowx,tv⟩ [(0,(.s ch_0_0 ch_0_1 ch_0_2)),(1,(.i x2)),(3,(.i x4))] rfl (by kernel_rfl) ?_); clear S; intro w S CL hw le
 refine h_mv4 S CL hw le rfl tv tv tv tv fun a S CL=>?_
 obtain ⟨c1,h1⟩:=chk_of h0; clear h0
 refine h_iaddrX S CL hw le (subR rfl) (ty':=g.T) rfl .h rfl h.hU h.hT c1.1 c1.2 rfl rfl tv fun g1 a hA1 S CL=>h_ldXW S CL hw le (subR rfl) (i:=x4) rfl hA1 .h h.hT c1.1 c1.2 rfl rfl rfl tv fun ch1 a S CL=>h_mv2 S CL hw le rfl tv tv fun a S CL=>?_
 obtain ⟨c2,h2⟩:=chk_of h1; clear h1
 refine h_iaddrX S CL hw le (subR rfl) (ty':=g.T) rfl .h rfl h.hU h.hT c2.1 c2.2 rfl rfl tv fun g2 a hA2 S CL=>h_ldXW S CL hw le (subR rfl) (i:=x2) rfl hA2 .h h.hT c2.1 c2.2 rfl rfl rfl tv fun ch2 a S CL=>h_iaddrX S CL hw le (subR rfl) (ty':=g.T) rfl .h rfl h.hU h.hT c2.1 c2.2 rfl rfl tv fun g3 a hA3 S CL=>p_move S rfl rfl rfl tv fun a S=>p_move S rfl rfl rfl tv fun a S=>h_run' S rfl tv ?_
 replace S:=S.rowu .h
 refine s_stRW S (i:=x2) (u:=gt x1 x4) (cu:=ch1) rfl rfl hA3 .h h.hT c2.1 c2.2 rfl fun w S=>?_
 refine h_back ⟨fun h=>(nomatch h),?_⟩
 refine h_run' S rfl tv ?_
 obtain ⟨c3,h3⟩:=chk_of h2; clear h2
 refine s_iaddrO S (ty':=g.T) rfl .h rfl h.hU h.hT c3.1 c3.2 rfl fun g4 a hA4 S=>?_
 refine h_back ⟨fun h=>(nomatch h),?_⟩
 refine h_run' S rfl tv (s_stRW S (i:=x4) (u:=gt x1 x2) (cu:=ch2) rfl rfl hA4 .h h.hT c3.1 c3.2 rfl fun w S=>?_)
 refine h_back ⟨fun h=>(nomatch h),?_⟩
 refine h_done ?_; clear CL hw le
 refine x_thenN (c_region (s_mv1 S rfl fun a S=>s_bi S rfl fun a S=>s_mv1 S rfl fun a S=>s_bi S rfl fun a S=>s_as2 S rfl fun a S=>c_end (wp_seq_k fun K1 hK1=>?_)))
 have j1:∀ m y1 y2 a w,St 90 m b0 [(11,(.i y2))] [Res.row g.T g.e ch_0_0 ch_0_1 ch_0_2 y1] a w→fa3_.j1 g y1 y2=some r→K1 a w:=by
  intro m y1 y2 a w S h0
  delta fa3_.j1 at h0
  refine hK1 a w (c_region (s_mv1 S rfl fun a S=>s_as1 S rfl fun a S=>c_end (wp_ret ?_)))
  obtain rfl:=sI h0
  exact b_ret1 (d:=(.i y2)) S rfl rfl fun ok=>S.retX (Hx:=[]) hb _ _ (():Unit) (.c0 .n) ok
 refine wp_block ?_
 refine c_loop (fun q1 a w=>∃ m y30 y31 y32,St 90 m b0 [(12,(.i y31)),(11,(.i y32)),(0,(.s ch_0_0 ch_0_1 ch_0_2)),(1,(.i x2)),(4,(.v (.func (.func g.fc) #[] #[])))] [Res.row g.T g.e ch_0_0 ch_0_1 ch_0_2 y30] a w∧fa3_.l1 g k x2 q1 y30 y31 y32=some r) ?_ ?_ (k:=k) ⟨_,((x1.set (Int.toNat x2) (gt x1 x4)).set (Int.toNat x4) (gt x1 x2)),(wr .i64 (x3 - 1)),(wr .i64 (x2+1)),(S.sb rfl (.c0 .n)),h3⟩
 ·rintro a w ⟨m,y30,y31,y32,S,h0⟩
  exact (nomatch (show (none:Option (Int×(List g.α)))=some r from h0))
 ·clear S h3
  rintro q1 a w ⟨m,y30,y31,y32,S,h0⟩
  replace h0:fa3_.b1 g k x2 (fa3_.l1 g k x2 q1) y30 y31 y32=some r:=h0
  delta fa3_.b1 at h0
  refine wp_block (wp_seq_k fun K2 hK2=>?_)
  have j2:∀ m y38 a w,St 90 m b0 [(12,(.i y31)),(11,(.i y38)),(0,(.s ch_0_0 ch_0_1 ch_0_2)),(1,(.i x2)),(4,(.v (.func (.func g.fc) #[] #[])))] [Res.row g.T g.e ch_0_0 ch_0_1 ch_0_2 y30] a w→fa3_.j2 g k x2 y30 y31 (fa3_.l1 g k x2 q1) y38=some r→K2 a w:=by
   intro m y38 a w S h0
   delta fa3_.j2 at h0
   refine hK2 a w (wp_seq_k fun K3 hK3=>?_)
   have j3:∀ m y44 a w,St 90 m b0 [(12,(.i y44)),(11,(.i y38)),(0,(.s ch_0_0 ch_0_1 ch_0_2)),(1,(.i x2)),(4,(.v (.func (.func g.fc) #[] #[])))] [Res.row g.T g.e ch_0_0 ch_0_1 ch_0_2 y30] a w→fa3_.j3 g y30 (fa3_.l1 g k x2 q1) y38 y44=some r→K3 a w:=by
    intro m y44 a w S h0
    delta fa3_.j3 at h0
    refine hK3 a w (wp_seq (c_region (s_mv2 S rfl fun a S=>s_bi S rfl fun a S=>c_end ?_)))
    rcases ite_of h0 with ⟨c4,h1⟩ | ⟨c4,h1⟩
    ·refine c_condT S rfl c4 (wp_exit (x_thenX (x_blockO (by decide) (x_thenX (x_blockX (x_thenN ?_))))))
     exact j1 _ y30 y38 a w (S.sub ⟨rfl,tv⟩ (.c0 .n)) h1
    ·refine c_condF S rfl c4 (wp_skip (x_thenN ?_))
     have hS:=S.rowx (fun _=> .h)
     clear S; obtain ⟨cs2,S⟩:=hS
     refine wp_seq (c_hS S (.take 0 (.take 1 (.tk 4 9 (.pure 2 (.pure 3 (.alts (.run 13 false (.alts (.run 14 false (.alts (.run 15 false .done .nil)) .nil)) .nil))))))) 13 (.c0 .n) ⟨Res.stay_rowx,tv⟩ [(12,(.i y44)),(11,(.i y38)),(0,(.s ch_0_0 ch_0_1 ch_0_2))] rfl (by kernel_rfl) ?_); clear S; intro w S CL hw le
     refine h_mv4 S CL hw le rfl tv tv tv tv fun a S CL=>?_
     obtain ⟨c5,h2⟩:=chk_of h1; clear h1
     refine h_iaddrX S CL hw le (subR rfl) (ty':=g.T) rfl .h rfl h.hU h.hT c5.1 c5.2 rfl rfl tv fun g13 a hA5 S CL=>h_ldXW S CL hw le (subR rfl) (i:=y44) rfl hA5 .h h.hT c5.1 c5.2 rfl rfl rfl tv fun ch7 a S CL=>h_mv2 S CL hw le rfl tv tv fun a S CL=>?_
     obtain ⟨c6,h3⟩:=chk_of h2; clear h2
     refine h_iaddrX S CL hw le (subR rfl) (ty':=g.T) rfl .h rfl h.hU h.hT c6.1 c6.2 rfl rfl tv fun g14 a hA6 S CL=>h_ldXW S CL hw le (subR rfl) (i:=y38) rfl hA6 .h h.hT c6.1 c6.2 rfl rfl rfl tv fun ch8 a S CL=>h_iaddrX S CL hw le (subR rfl) (ty':=g.T) rfl .h rfl h.hU h.hT c6.1 c6.2 rfl rfl tv fun g15 a hA7 S CL=>p_move S rfl rfl rfl tv fun a S=>p_move S rfl rfl rfl tv fun a S=>h_run' S rfl tv ?_
     replace S:=S.rowu .h
     refine s_stRW S (i:=y38) (u:=gt y30 y44) (cu:=ch7) rfl rfl hA7 .h h.hT c6.1 c6.2 rfl fun w S=>?_
     refine h_back ⟨fun h=>(nomatch h),?_⟩
     refine h_run' S rfl tv ?_
     obtain ⟨c7,h4⟩:=chk_of h3; clear h3
     refine s_iaddrO S (ty':=g.T) rfl .h rfl h.hU h.hT c7.1 c7.2 rfl fun g16 a hA8 S=>?_
     refine h_back ⟨fun h=>(nomatch h),?_⟩
     refine h_run' S rfl tv (s_stRW S (i:=y44) (u:=gt y30 y38) (cu:=ch8) rfl rfl hA8 .h h.hT c7.1 c7.2 rfl fun w S=>?_)
     refine h_back ⟨fun h=>(nomatch h),?_⟩
     refine h_done ?_; clear CL hw le
     refine x_thenN (c_region (s_mv1 S rfl fun a S=>s_bi S rfl fun a S=>s_as1 S rfl fun a S=>c_end (c_region' (s_mv1 S rfl fun a S=>s_bi S rfl fun a S=>s_as1 S rfl fun a S=>c_end' (x_blockN (x_thenN ?_))))))
     exact ⟨_,((y30.set (Int.toNat y38) (gt y30 y44)).set (Int.toNat y44) (gt y30 y38)),(wr .i64 (y44 - 1)),(wr .i64 (y38+1)),(S.sb rfl (.c0 .n)),h4⟩
   refine wp_block ?_
   refine c_loop (fun q2 a w=>∃ m y48,St 90 m b0 [(12,(.i y48)),(11,(.i y38)),(0,(.s ch_0_0 ch_0_1 ch_0_2)),(1,(.i x2)),(4,(.v (.func (.func g.fc) #[] #[])))] [Res.row g.T g.e ch_0_0 ch_0_1 ch_0_2 y30] a w∧fa3_.l2 g k x2 y30 (fa3_.l1 g k x2 q1) y38 q2 y48=some r) ?_ ?_ (k:=k) ⟨_,y31,(S.sb rfl (.c0 .n)),h0⟩
   ·rintro a w ⟨m,y48,S,h0⟩
    exact (nomatch (show (none:Option (Int×(List g.α)))=some r from h0))
   ·clear S h0
    rintro q2 a w ⟨m,y48,S,h0⟩
    replace h0:fa3_.b2 g k x2 y30 (fa3_.l1 g k x2 q1) y38 (fa3_.l2 g k x2 y30 (fa3_.l1 g k x2 q1) y38 q2) y48=some r:=h0
    delta fa3_.b2 at h0
    refine wp_seq (wp_seq_k fun K4 hK4=>?_)
    have j4:∀ m y49 a w,St 90 m b0 [(65,(.b y49)),(12,(.i y48)),(11,(.i y38)),(0,(.s ch_0_0 ch_0_1 ch_0_2)),(1,(.i x2)),(4,(.v (.func (.func g.fc) #[] #[])))] [Res.row g.T g.e ch_0_0 ch_0_1 ch_0_2 y30] a w→fa3_.j4 g y30 (fa3_.l1 g k x2 q1) y38 y48 (fa3_.l2 g k x2 y30 (fa3_.l1 g k x2 q1) y38 q2) y49=some r→K4 a w:=by
     intro m y49 a w S h0
     delta fa3_.j4 at h0
     refine hK4 a w ?_
     rcases ite_of h0 with ⟨c8,h1⟩ | ⟨c8,h1⟩
     ·refine c_condT S rfl c8 (wp_skip (x_thenN (wp_block (c_region' (s_mv1 S rfl fun a S=>s_bi S rfl fun a S=>s_as1 S rfl fun a S=>c_end' (x_blockN (x_thenN ?_)))))))
      exact ⟨_,(wr .i64 (y48 - 1)),(S.sb rfl (.c0 .n)),h1⟩
     ·refine c_condF S rfl c8 (wp_exit (x_thenX (x_thenX (x_blockX (x_thenN ?_)))))
      exact j3 _ y48 a w (S.sb rfl (.c0 .n)) h1
    have hS:=S.rowx (fun _=> .h)
    clear S; obtain ⟨cs3,S⟩:=hS
    refine c_hS S (.tk 0 13 (.alts (.run 13 true (.take 14 (.take 15 .done)) .nil))) 16 (.c0 .n) ⟨Res.stay_rowx,tv⟩ [(12,(.i y48)),(11,(.i y38)),(0,(.s ch_0_0 ch_0_1 ch_0_2)),(1,(.i x2)),(4,(.v (.func (.func g.fc) #[] #[])))] rfl (by kernel_rfl) fun w S CL hw le=>?_
    refine h_mv2 S CL hw le rfl tv tv fun a S CL=>h_bin S CL hw le (subR rfl) rfl rfl rfl rfl rfl tv fun a S CL=>h_mv1 S CL hw le rfl tv fun a S CL=>?_
    rcases ite_of h0 with ⟨c9,h1⟩ | ⟨c9,h1⟩
    ·refine h_mv3 S CL hw le rfl ⟨_,_,rfl,rfl,c9⟩ ⟨_,_,rfl,rfl,c9⟩ ⟨_,_,rfl,rfl,c9⟩ fun a S CL=>?_
     obtain ⟨c10,h2⟩:=chk_of h1; clear h1
     refine h_iaddrX S CL hw le (subR rfl) (ty':=g.T) rfl .h rfl h.hU h.hT c10.1 c10.2 rfl rfl ⟨_,_,rfl,rfl,c9⟩ fun g19 a hA9 S CL=>h_ldXW S CL hw le (subR rfl) (i:=x2) rfl hA9 .h h.hT c10.1 c10.2 rfl rfl rfl ⟨_,_,rfl,rfl,c9⟩ fun ch11 a S CL=>h_mv2 S CL hw le rfl ⟨_,_,rfl,rfl,c9⟩ ⟨_,_,rfl,rfl,c9⟩ fun a S CL=>?_
     obtain ⟨c11,h3⟩:=chk_of h2; clear h2
     refine h_iaddrX S CL hw le (subR rfl) (ty':=g.T) rfl .h rfl h.hU h.hT c11.1 c11.2 rfl rfl ⟨_,_,rfl,rfl,c9⟩ fun g20 a hA10 S CL=>h_ldXW S CL hw le (subR rfl) (i:=y48) rfl hA10 .h h.hT c11.1 c11.2 rfl rfl rfl ⟨_,_,rfl,rfl,c9⟩ fun ch12 a S CL=>h_run' S rfl ⟨_,_,rfl,rfl,c9⟩ (bindX h3 fun t1 et1 h4=>s_callK S (h.hcmp et1) h.nc rfl .pre (fun _=> .n) rfl fun ch13 m le1 a w S=>?_)
     replace le:=le.trans le1
     refine CL.bk hw S (.c0 .n) le fun hw=>?_
     replace CL:=CL.add (t:=63) (d:=(.i t1)) S rfl rfl
     refine h_bin S CL hw le (subR rfl) rfl rfl rfl rfl rfl ⟨_,_,rfl,rfl,c9⟩ fun a S CL=>h_pick S CL hw le (subR rfl) (b:=true) (hc_of rfl c9) rfl rfl rfl tv fun a S CL=>?_
     refine h_done ?_; clear CL hw le
     replace S:=S.rowu .h
     refine x_thenN ?_
     exact j4 _ (decide (t1<0)) a w (S.sb rfl (.c0 .n)) h4
    ·refine h_sk8 S CL rfl (ne_bool c9) fun a S CL=>h_sk1 S CL rfl (ne_bool c9) fun a S CL=>h_skipRt S rfl rfl rfl (ne_bool c9) rfl fun a S=>CL.bk hw S (.c0 .n) le fun hw=>?_
     replace CL:=CL.add (t:=63) (d:= .u) S rfl rfl
     refine h_sk1 S CL rfl (ne_bool c9) fun a S CL=>h_pick S CL hw le (subR rfl) (b:=false) (hc_of rfl c9) rfl rfl rfl tv fun a S CL=>?_
     refine h_done ?_; clear CL hw le
     replace S:=S.rowu .h
     refine x_thenN ?_
     exact j4 _ false a w (S.sb rfl (.c0 .n)) h1
  refine wp_block ?_
  refine c_loop (fun q3 a w=>∃ m y53,St 90 m b0 [(12,(.i y31)),(11,(.i y53)),(0,(.s ch_0_0 ch_0_1 ch_0_2)),(1,(.i x2)),(4,(.v (.func (.func g.fc) #[] #[])))] [Res.row g.T g.e ch_0_0 ch_0_1 ch_0_2 y30] a w∧fa3_.l3 g k x2 y30 y31 (fa3_.l1 g k x2 q1) q3 y53=some r) ?_ ?_ (k:=k) ⟨_,y32,(S.sb rfl (.c0 .n)),h0⟩
  ·rintro a w ⟨m,y53,S,h0⟩
   exact (nomatch (show (none:Option (Int×(List g.α)))=some r from h0))
  ·clear S h0
   rintro q3 a w ⟨m,y53,S,h0⟩
   replace h0:fa3_.b3 g k x2 y30 y31 (fa3_.l1 g k x2 q1) (fa3_.l3 g k x2 y30 y31 (fa3_.l1 g k x2 q1) q3) y53=some r:=h0
   delta fa3_.b3 at h0
   refine wp_seq (wp_seq_k fun K5 hK5=>?_)
   have j5:∀ m y54 a w,St 90 m b0 [(47,(.b y54)),(12,(.i y31)),(11,(.i y53)),(0,(.s ch_0_0 ch_0_1 ch_0_2)),(1,(.i x2)),(4,(.v (.func (.func g.fc) #[] #[])))] [Res.row g.T g.e ch_0_0 ch_0_1 ch_0_2 y30] a w→fa3_.j5 g k x2 y30 y31 (fa3_.l1 g k x2 q1) y53 (fa3_.l3 g k x2 y30 y31 (fa3_.l1 g k x2 q1) q3) y54=some r→K5 a w:=by
    intro m y54 a w S h0
    delta fa3_.j5 at h0
    refine hK5 a w ?_
    rcases ite_of h0 with ⟨c12,h1⟩ | ⟨c12,h1⟩
    ·refine c_condT S rfl c12 (wp_skip (x_thenN (wp_block (c_region' (s_mv1 S rfl fun a S=>s_bi S rfl fun a S=>s_as1 S rfl fun a S=>c_end' (x_blockN (x_thenN ?_)))))))
     exact ⟨_,(wr .i64 (y53+1)),(S.sb rfl (.c0 .n)),h1⟩
    ·refine c_condF S rfl c12 (wp_exit (x_thenX (x_thenX (x_blockX (x_thenN ?_)))))
     exact j2 _ y53 a w (S.sb rfl (.c0 .n)) h1
   have hS:=S.rowx (fun _=> .h)
   clear S; obtain ⟨cs4,S⟩:=hS
   refine c_hS S (.tk 0 13 (.alts (.run 13 true (.tk 14 3 .done) .nil))) 17 (.c0 .n) ⟨Res.stay_rowx,tv⟩ [(12,(.i y31)),(11,(.i y53)),(0,(.s ch_0_0 ch_0_1 ch_0_2)),(1,(.i x2)),(4,(.v (.func (.func g.fc) #[] #[])))] rfl (by kernel_rfl) fun w S CL hw le=>?_
   refine h_mv2 S CL hw le rfl tv tv fun a S CL=>h_bin S CL hw le (subR rfl) rfl rfl rfl rfl rfl tv fun a S CL=>h_mv1 S CL hw le rfl tv fun a S CL=>?_
   rcases ite_of h0 with ⟨c13,h1⟩ | ⟨c13,h1⟩
   ·refine h_mv3 S CL hw le rfl ⟨_,_,rfl,rfl,c13⟩ ⟨_,_,rfl,rfl,c13⟩ ⟨_,_,rfl,rfl,c13⟩ fun a S CL=>?_
    obtain ⟨c14,h2⟩:=chk_of h1; clear h1
    refine h_iaddrX S CL hw le (subR rfl) (ty':=g.T) rfl .h rfl h.hU h.hT c14.1 c14.2 rfl rfl ⟨_,_,rfl,rfl,c13⟩ fun g23 a hA11 S CL=>h_ldXW S CL hw le (subR rfl) (i:=x2) rfl hA11 .h h.hT c14.1 c14.2 rfl rfl rfl ⟨_,_,rfl,rfl,c13⟩ fun ch16 a S CL=>h_mv2 S CL hw le rfl ⟨_,_,rfl,rfl,c13⟩ ⟨_,_,rfl,rfl,c13⟩ fun a S CL=>?_
    obtain ⟨c15,h3⟩:=chk_of h2; clear h2
    refine h_iaddrX S CL hw le (subR rfl) (ty':=g.T) rfl .h rfl h.hU h.hT c15.1 c15.2 rfl rfl ⟨_,_,rfl,rfl,c13⟩ fun g24 a hA12 S CL=>h_ldXW S CL hw le (subR rfl) (i:=y53) rfl hA12 .h h.hT c15.1 c15.2 rfl rfl rfl ⟨_,_,rfl,rfl,c13⟩ fun ch17 a S CL=>h_run' S rfl ⟨_,_,rfl,rfl,c13⟩ (bindX h3 fun t3 et3 h4=>s_callK S (h.hcmp et3) h.nc rfl .pre (fun _=> .n) rfl fun ch18 m le1 a w S=>?_)
    replace le:=le.trans le1
    refine CL.bk hw S (.c0 .n) le fun hw=>?_
    replace CL:=CL.add (t:=44) (d:=(.i t3)) S rfl rfl
    refine h_bin S CL hw le (subR rfl) rfl rfl rfl rfl rfl ⟨_,_,rfl,rfl,c13⟩ fun a S CL=>h_not S CL hw le (subR rfl) rfl rfl rfl ⟨_,_,rfl,rfl,c13⟩ fun a S CL=>h_pick S CL hw le (subR rfl) (b:=true) (hc_of rfl c13) rfl rfl rfl tv fun a S CL=>?_
    refine h_done ?_; clear CL hw le
    replace S:=S.rowu .h
    refine x_thenN ?_
    exact j5 _ (!(decide (t3<0))) a w (S.sb rfl (.c0 .n)) h4
   ·refine h_sk8 S CL rfl (ne_bool c13) fun a S CL=>h_sk1 S CL rfl (ne_bool c13) fun a S CL=>h_skipRt S rfl rfl rfl (ne_bool c13) rfl fun a S=>CL.bk hw S (.c0 .n) le fun hw=>?_
    replace CL:=CL.add (t:=44) (d:= .u) S rfl rfl
    refine h_sk2 S CL rfl (ne_bool c13) fun a S CL=>h_pick S CL hw le (subR rfl) (b:=false) (hc_of rfl c13) rfl rfl rfl tv fun a S CL=>?_
    refine h_done ?_; clear CL hw le
    replace S:=S.rowu .h
    refine x_thenN ?_
    exact j5 _ false a w (S.sb rfl (.c0 .n)) h1
abbrev fb4_.Ty (g:SortG):Type:=(List g.α)→Int→Int→Int→Option (Int×Bool×(List g.α))
def fb4_.Ctr (g:SortG)(s:fb4_.Ty g):Prop:=∀ {x1:List g.α} {x2:Int} {x3:Int} {x4:Int} {ch_0_0:Option Addr} {ch_0_1:Nat} {ch_0_2:Nat} {r:Int×Bool×(List g.α)} (h0:s x1 x2 x3 x4=some r) {mi:Mem} {w0:World},CtrB Try.prog (g.φ 74) [(.s ch_0_0 ch_0_1 ch_0_2),(.i x2),(.i x3),(.i x4),(.v (.func (.func g.fc) #[] #[]))] [Res.row g.T g.e ch_0_0 ch_0_1 ch_0_2 x1] (fun (ch:Unit)=>((.tup [(false,[.i r.1]),(false,[.b r.2.1])]):D)) (fun (ch:Unit)=>[Res.row g.T g.e ch_0_0 ch_0_1 ch_0_2 r.t2]) mi w0
def fb4_.j3 (g:SortG)(x2:Int)(y50:List g.α)(y51:Int):Option (Int×Bool×(List g.α)):=if (0:Int)≤x2∧x2<((y50).length:Int) then (if (0:Int)≤y51∧y51<((y50).length:Int) then (if (0:Int)≤x2∧x2<((y50.set (Int.toNat y51) (gt y50 x2)).length:Int) then (some (y51,false,(y50.set (Int.toNat y51) (gt y50 x2)).set (Int.toNat x2) (gt y50 y51))) else none) else none) else none
def fb4_.j5 (g:SortG)(x2:Int)(y79:List g.α)(rec1:(List g.α)→Int→Int→Option (Int×Bool×(List g.α)))(y87:Int)(y93:Int):Option (Int×Bool×(List g.α)):=if (decide (y93<y87))=true then (fb4_.j3 g x2 y79 y93) else (if (0:Int)≤y93∧y93<((y79).length:Int) then (if (0:Int)≤y87∧y87<((y79).length:Int) then (if (0:Int)≤y93∧y93<((y79.set (Int.toNat y87) (gt y79 y93)).length:Int) then (rec1 ((y79.set (Int.toNat y87) (gt y79 y93)).set (Int.toNat y93) (gt y79 y87)) (wr .i64 (y93 - 1)) (wr .i64 (y87+1))) else none) else none) else none)
def fb4_.j6 (g:SortG)(x2:Int)(y79:List g.α)(rec1:(List g.α)→Int→Int→Option (Int×Bool×(List g.α)))(y87:Int)(y97:Int)(rec2:Int→Option (Int×Bool×(List g.α)))(y98:Bool):Option (Int×Bool×(List g.α)):=if y98=true then (rec2 (wr .i64 (y97 - 1))) else (fb4_.j5 g x2 y79 rec1 y87 y97)
def fb4_.b2 (g:SortG)(k:Nat)(x2:Int)(y79:List g.α)(rec1:(List g.α)→Int→Int→Option (Int×Bool×(List g.α)))(y87:Int)(rec2:Int→Option (Int×Bool×(List g.α)))(y97:Int):Option (Int×Bool×(List g.α)):=if (decide (y87≤y97))=true then (if (0:Int)≤y97∧y97<((y79).length:Int) then (if (0:Int)≤x2∧x2<((y79).length:Int) then ((g.cmp k (gt y79 y97) (gt y79 x2)).bind fun t1=>(fb4_.j6 g x2 y79 rec1 y87 y97 rec2 (!(decide (t1<0))))) else none) else none) else (fb4_.j6 g x2 y79 rec1 y87 y97 rec2 false)
def fb4_.l2 (g:SortG)(k:Nat)(x2:Int)(y79:List g.α)(rec1:(List g.α)→Int→Int→Option (Int×Bool×(List g.α)))(y87:Int):Nat→Int→Option (Int×Bool×(List g.α))
  | 0,_=>none
  | q+1,y97=>fb4_.b2 g k x2 y79 rec1 y87 (fb4_.l2 g k x2 y79 rec1 y87 q) y97
def fb4_.j4 (g:SortG)(k:Nat)(x2:Int)(y79:List g.α)(y80:Int)(rec1:(List g.α)→Int→Int→Option (Int×Bool×(List g.α)))(y87:Int):Option (Int×Bool×(List g.α)):=fb4_.l2 g k x2 y79 rec1 y87 k y80
def fb4_.j7 (g:SortG)(k:Nat)(x2:Int)(y79:List g.α)(y80:Int)(rec1:(List g.α)→Int→Int→Option (Int×Bool×(List g.α)))(y102:Int)(rec3:Int→Option (Int×Bool×(List g.α)))(y103:Bool):Option (Int×Bool×(List g.α)):=if y103=true then (rec3 (wr .i64 (y102+1))) else (fb4_.j4 g k x2 y79 y80 rec1 y102)
def fb4_.b3 (g:SortG)(k:Nat)(x2:Int)(y79:List g.α)(y80:Int)(rec1:(List g.α)→Int→Int→Option (Int×Bool×(List g.α)))(rec3:Int→Option (Int×Bool×(List g.α)))(y102:Int):Option (Int×Bool×(List g.α)):=if (decide (y102≤y80))=true then (if (0:Int)≤y102∧y102<((y79).length:Int) then (if (0:Int)≤x2∧x2<((y79).length:Int) then ((g.cmp k (gt y79 y102) (gt y79 x2)).bind fun t3=>(fb4_.j7 g k x2 y79 y80 rec1 y102 rec3 (decide (t3<0)))) else none) else none) else (fb4_.j7 g k x2 y79 y80 rec1 y102 rec3 false)
def fb4_.l3 (g:SortG)(k:Nat)(x2:Int)(y79:List g.α)(y80:Int)(rec1:(List g.α)→Int→Int→Option (Int×Bool×(List g.α))):Nat→Int→Option (Int×Bool×(List g.α))
  | 0,_=>none
  | q+1,y102=>fb4_.b3 g k x2 y79 y80 rec1 (fb4_.l3 g k x2 y79 y80 rec1 q) y102
def fb4_.b1 (g:SortG)(k:Nat)(x2:Int)(rec1:(List g.α)→Int→Int→Option (Int×Bool×(List g.α)))(y79:List g.α)(y80:Int)(y81:Int):Option (Int×Bool×(List g.α)):=fb4_.l3 g k x2 y79 y80 rec1 k y81
def fb4_.l1 (g:SortG)(k:Nat)(x2:Int):Nat→(List g.α)→Int→Int→Option (Int×Bool×(List g.α))
  | 0,_,_,_=>none
  | q+1,y79,y80,y81=>fb4_.b1 g k x2 (fb4_.l1 g k x2 q) y79 y80 y81
def fb4_.j2 (g:SortG)(k:Nat)(x1:List g.α)(x2:Int)(x4:Int)(y1:Int)(y7:Int):Option (Int×Bool×(List g.α)):=if (decide (y7<y1))=true then (if (0:Int)≤x2∧x2<(((x1.set (Int.toNat x2) (gt x1 x4)).set (Int.toNat x4) (gt x1 x2)).length:Int) then (if (0:Int)≤y7∧y7<(((x1.set (Int.toNat x2) (gt x1 x4)).set (Int.toNat x4) (gt x1 x2)).length:Int) then (if (0:Int)≤x2∧x2<((((x1.set (Int.toNat x2) (gt x1 x4)).set (Int.toNat x4) (gt x1 x2)).set (Int.toNat y7) (gt ((x1.set (Int.toNat x2) (gt x1 x4)).set (Int.toNat x4) (gt x1 x2)) x2)).length:Int) then (some (y7,true,(((x1.set (Int.toNat x2) (gt x1 x4)).set (Int.toNat x4) (gt x1 x2)).set (Int.toNat y7) (gt ((x1.set (Int.toNat x2) (gt x1 x4)).set (Int.toNat x4) (gt x1 x2)) x2)).set (Int.toNat x2) (gt ((x1.set (Int.toNat x2) (gt x1 x4)).set (Int.toNat x4) (gt x1 x2)) y7))) else none) else none) else none) else (if (0:Int)≤y7∧y7<(((x1.set (Int.toNat x2) (gt x1 x4)).set (Int.toNat x4) (gt x1 x2)).length:Int) then (if (0:Int)≤y1∧y1<(((x1.set (Int.toNat x2) (gt x1 x4)).set (Int.toNat x4) (gt x1 x2)).length:Int) then (if (0:Int)≤y7∧y7<((((x1.set (Int.toNat x2) (gt x1 x4)).set (Int.toNat x4) (gt x1 x2)).set (Int.toNat y1) (gt ((x1.set (Int.toNat x2) (gt x1 x4)).set (Int.toNat x4) (gt x1 x2)) y7)).length:Int) then (fb4_.l1 g k x2 k ((((x1.set (Int.toNat x2) (gt x1 x4)).set (Int.toNat x4) (gt x1 x2)).set (Int.toNat y1) (gt ((x1.set (Int.toNat x2) (gt x1 x4)).set (Int.toNat x4) (gt x1 x2)) y7)).set (Int.toNat y7) (gt ((x1.set (Int.toNat x2) (gt x1 x4)).set (Int.toNat x4) (gt x1 x2)) y1)) (wr .i64 (y7 - 1)) (wr .i64 (y1+1))) else none) else none) else none)
def fb4_.j8 (g:SortG)(k:Nat)(x1:List g.α)(x2:Int)(x4:Int)(y1:Int)(y107:Int)(rec4:Int→Option (Int×Bool×(List g.α)))(y108:Bool):Option (Int×Bool×(List g.α)):=if y108=true then (rec4 (wr .i64 (y107 - 1))) else (fb4_.j2 g k x1 x2 x4 y1 y107)
def fb4_.b4 (g:SortG)(k:Nat)(x1:List g.α)(x2:Int)(x4:Int)(y1:Int)(rec4:Int→Option (Int×Bool×(List g.α)))(y107:Int):Option (Int×Bool×(List g.α)):=if (decide (y1≤y107))=true then (if (0:Int)≤y107∧y107<(((x1.set (Int.toNat x2) (gt x1 x4)).set (Int.toNat x4) (gt x1 x2)).length:Int) then (if (0:Int)≤x2∧x2<(((x1.set (Int.toNat x2) (gt x1 x4)).set (Int.toNat x4) (gt x1 x2)).length:Int) then ((g.cmp k (gt ((x1.set (Int.toNat x2) (gt x1 x4)).set (Int.toNat x4) (gt x1 x2)) y107) (gt ((x1.set (Int.toNat x2) (gt x1 x4)).set (Int.toNat x4) (gt x1 x2)) x2)).bind fun t5=>(fb4_.j8 g k x1 x2 x4 y1 y107 rec4 (!(decide (t5<0))))) else none) else none) else (fb4_.j8 g k x1 x2 x4 y1 y107 rec4 false)
def fb4_.l4 (g:SortG)(k:Nat)(x1:List g.α)(x2:Int)(x4:Int)(y1:Int):Nat→Int→Option (Int×Bool×(List g.α))
  | 0,_=>none
  | q+1,y107=>fb4_.b4 g k x1 x2 x4 y1 (fb4_.l4 g k x1 x2 x4 y1 q) y107
def fb4_.j1 (g:SortG)(k:Nat)(x1:List g.α)(x2:Int)(x3:Int)(x4:Int)(y1:Int):Option (Int×Bool×(List g.α)):=fb4_.l4 g k x1 x2 x4 y1 k (wr .i64 (x3 - 1))
def fb4_.j9 (g:SortG)(k:Nat)(x1:List g.α)(x2:Int)(x3:Int)(x4:Int)(y112:Int)(rec5:Int→Option (Int×Bool×(List g.α)))(y113:Bool):Option (Int×Bool×(List g.α)):=if y113=true then (rec5 (wr .i64 (y112+1))) else (fb4_.j1 g k x1 x2 x3 x4 y112)
def fb4_.b5 (g:SortG)(k:Nat)(x1:List g.α)(x2:Int)(x3:Int)(x4:Int)(rec5:Int→Option (Int×Bool×(List g.α)))(y112:Int):Option (Int×Bool×(List g.α)):=if (decide (y112≤(wr .i64 (x3 - 1))))=true then (if (0:Int)≤y112∧y112<(((x1.set (Int.toNat x2) (gt x1 x4)).set (Int.toNat x4) (gt x1 x2)).length:Int) then (if (0:Int)≤x2∧x2<(((x1.set (Int.toNat x2) (gt x1 x4)).set (Int.toNat x4) (gt x1 x2)).length:Int) then ((g.cmp k (gt ((x1.set (Int.toNat x2) (gt x1 x4)).set (Int.toNat x4) (gt x1 x2)) y112) (gt ((x1.set (Int.toNat x2) (gt x1 x4)).set (Int.toNat x4) (gt x1 x2)) x2)).bind fun t7=>(fb4_.j9 g k x1 x2 x3 x4 y112 rec5 (decide (t7<0)))) else none) else none) else (fb4_.j9 g k x1 x2 x3 x4 y112 rec5 false)
def fb4_.l5 (g:SortG)(k:Nat)(x1:List g.α)(x2:Int)(x3:Int)(x4:Int):Nat→Int→Option (Int×Bool×(List g.α))
  | 0,_=>none
  | q+1,y112=>fb4_.b5 g k x1 x2 x3 x4 (fb4_.l5 g k x1 x2 x3 x4 q) y112
def fb4_.f (g:SortG)(k:Nat)(x1:List g.α)(x2:Int)(x3:Int)(x4:Int):Option (Int×Bool×(List g.α)):=if (0:Int)≤x4∧x4<((x1).length:Int) then (if (0:Int)≤x2∧x2<((x1).length:Int) then (if (0:Int)≤x4∧x4<((x1.set (Int.toNat x2) (gt x1 x4)).length:Int) then (fb4_.l5 g k x1 x2 x3 x4 k (wr .i64 (x2+1))) else none) else none) else none
theorem fb4_.ok (g:SortG)(h:SortG.Ok g)(k:Nat):fb4_.Ctr g (fb4_.f g k):=by
 intro x1 x2 x3 x4 ch_0_0 ch_0_1 ch_0_2 r h0 mi w0 ok hm
 delta fb4_.f at h0
 refine c_enterG (n:=178) [(.s ch_0_0 ch_0_1 ch_0_2),(.i x2),(.i x3),(.i x4),(.v (.func (.func g.fc) #[] #[]))] (l:=[(0,(.s ch_0_0 ch_0_1 ch_0_2)),(1,(.i x2)),(2,(.i x3)),(3,(.i x4)),(4,(.v (.func (.func g.fc) #[] #[])))]) h.n74 rfl rfl rfl ok hm ?_
 clear ok hm
 intro b0 hb a S
 refine c_region (s_as2 S rfl fun a S=>c_end ?_)
 have hS:=S.rowx (fun _=> .h)
 clear S; obtain ⟨cs1,S⟩:=hS
 refine wp_seq (c_hS S (.take 0 (.take 1 (.tk 4 9 (.pure 2 (.pure 3 (.alts (.run 13 false (.alts (.run 14 false (.alts (.run 15 false .done .nil)) .nil)) .nil))))))) 13 (.c0 .n) ⟨Res.stay_rowx,tv⟩ [(0,(.s ch_0_0 ch_0_1 ch_0_2)),(1,(.i x2)),(3,(.i x4))] rfl (by kernel_rfl) ?_); clear S; intro w S CL hw le
 refine h_mv4 S CL hw le rfl tv tv tv tv fun a S CL=>?_
 obtain ⟨c1,h1⟩:=chk_of h0; clear h0
 refine h_iaddrX S CL hw le (subR rfl) (ty':=g.T) rfl .h rfl h.hU h.hT c1.1 c1.2 rfl rfl tv fun g1 a hA1 S CL=>h_ldXW S CL hw le (subR rfl) (i:=x4) rfl hA1 .h h.hT c1.1 c1.2 rfl rfl rfl tv fun ch1 a S CL=>h_mv2 S CL hw le rfl tv tv fun a S CL=>?_
 obtain ⟨c2,h2⟩:=chk_of h1; clear h1
 refine h_iaddrX S CL hw le (subR rfl) (ty':=g.T) rfl .h rfl h.hU h.hT c2.1 c2.2 rfl rfl tv fun g2 a hA2 S CL=>h_ldXW S CL hw le (subR rfl) (i:=x2) rfl hA2 .h h.hT c2.1 c2.2 rfl rfl rfl tv fun ch2 a S CL=>h_iaddrX S CL hw le (subR rfl) (ty':=g.T) rfl .h rfl h.hU h.hT c2.1 c2.2 rfl rfl tv fun g3 a hA3 S CL=>p_move S rfl rfl rfl tv fun a S=>p_move S rfl rfl rfl tv fun a S=>h_run' S rfl tv ?_
 replace S:=S.rowu .h
 refine s_stRW S (i:=x2) (u:=gt x1 x4) (cu:=ch1) rfl rfl hA3 .h h.hT c2.1 c2.2 rfl fun w S=>?_
 refine h_back ⟨fun h=>(nomatch h),?_⟩
 refine h_run' S rfl tv ?_
 obtain ⟨c3,h3⟩:=chk_of h2; clear h2
 refine s_iaddrO S (ty':=g.T) rfl .h rfl h.hU h.hT c3.1 c3.2 rfl fun g4 a hA4 S=>?_
 refine h_back ⟨fun h=>(nomatch h),?_⟩
 refine h_run' S rfl tv (s_stRW S (i:=x4) (u:=gt x1 x2) (cu:=ch2) rfl rfl hA4 .h h.hT c3.1 c3.2 rfl fun w S=>?_)
 refine h_back ⟨fun h=>(nomatch h),?_⟩
 refine h_done ?_; clear CL hw le
 refine x_thenN (c_region (s_mv1 S rfl fun a S=>s_bi S rfl fun a S=>s_mv1 S rfl fun a S=>s_bi S rfl fun a S=>s_as2 S rfl fun a S=>c_end (wp_seq_k fun K1 hK1=>?_)))
 have j1:∀ m y1 a w,St 178 m b0 [(13,(.i (wr .i64 (x3 - 1)))),(12,(.i y1)),(0,(.s ch_0_0 ch_0_1 ch_0_2)),(1,(.i x2)),(4,(.v (.func (.func g.fc) #[] #[])))] [Res.row g.T g.e ch_0_0 ch_0_1 ch_0_2 ((x1.set (Int.toNat x2) (gt x1 x4)).set (Int.toNat x4) (gt x1 x2))] a w→fb4_.j1 g k x1 x2 x3 x4 y1=some r→K1 a w:=by
  intro m y1 a w S h0
  delta fb4_.j1 at h0
  refine hK1 a w (wp_seq_k fun K2 hK2=>?_)
  have j2:∀ m y7 a w,St 178 m b0 [(13,(.i y7)),(12,(.i y1)),(0,(.s ch_0_0 ch_0_1 ch_0_2)),(1,(.i x2)),(4,(.v (.func (.func g.fc) #[] #[])))] [Res.row g.T g.e ch_0_0 ch_0_1 ch_0_2 ((x1.set (Int.toNat x2) (gt x1 x4)).set (Int.toNat x4) (gt x1 x2))] a w→fb4_.j2 g k x1 x2 x4 y1 y7=some r→K2 a w:=by
   intro m y7 a w S h0
   delta fb4_.j2 at h0
   refine hK2 a w (wp_seq (c_region (s_mv2 S rfl fun a S=>s_bi S rfl fun a S=>c_end ?_)))
   rcases ite_of h0 with ⟨c4,h1⟩ | ⟨c4,h1⟩
   ·refine c_condT S rfl c4 ?_
    have hS:=S.rowx (fun _=> .h)
    clear S; obtain ⟨cs2,S⟩:=hS
    refine wp_seq (c_hS S (.take 0 (.take 1 (.tk 4 9 (.pure 2 (.pure 3 (.alts (.run 13 false (.alts (.run 14 false (.alts (.run 15 false .done .nil)) .nil)) .nil))))))) 13 (.c0 .n) ⟨Res.stay_rowx,tv⟩ [(13,(.i y7)),(0,(.s ch_0_0 ch_0_1 ch_0_2)),(1,(.i x2))] rfl (by kernel_rfl) ?_); clear S; intro w S CL hw le
    refine h_mv4 S CL hw le rfl tv tv tv tv fun a S CL=>?_
    obtain ⟨c5,h2⟩:=chk_of h1; clear h1
    refine h_iaddrX S CL hw le (subR rfl) (ty':=g.T) rfl .h rfl h.hU h.hT c5.1 c5.2 rfl rfl tv fun g5 a hA5 S CL=>h_ldXW S CL hw le (subR rfl) (i:=x2) rfl hA5 .h h.hT c5.1 c5.2 rfl rfl rfl tv fun ch3 a S CL=>h_mv2 S CL hw le rfl tv tv fun a S CL=>?_
    obtain ⟨c6,h3⟩:=chk_of h2; clear h2
    refine h_iaddrX S CL hw le (subR rfl) (ty':=g.T) rfl .h rfl h.hU h.hT c6.1 c6.2 rfl rfl tv fun g6 a hA6 S CL=>h_ldXW S CL hw le (subR rfl) (i:=y7) rfl hA6 .h h.hT c6.1 c6.2 rfl rfl rfl tv fun ch4 a S CL=>h_iaddrX S CL hw le (subR rfl) (ty':=g.T) rfl .h rfl h.hU h.hT c6.1 c6.2 rfl rfl tv fun g7 a hA7 S CL=>p_move S rfl rfl rfl tv fun a S=>p_move S rfl rfl rfl tv fun a S=>h_run' S rfl tv ?_
    replace S:=S.rowu .h
    refine s_stRW S (i:=y7) (u:=gt ((x1.set (Int.toNat x2) (gt x1 x4)).set (Int.toNat x4) (gt x1 x2)) x2) (cu:=ch3) rfl rfl hA7 .h h.hT c6.1 c6.2 rfl fun w S=>?_
    refine h_back ⟨fun h=>(nomatch h),?_⟩
    refine h_run' S rfl tv ?_
    obtain ⟨c7,h4⟩:=chk_of h3; clear h3
    refine s_iaddrO S (ty':=g.T) rfl .h rfl h.hU h.hT c7.1 c7.2 rfl fun g8 a hA8 S=>?_
    refine h_back ⟨fun h=>(nomatch h),?_⟩
    refine h_run' S rfl tv (s_stRW S (i:=x2) (u:=gt ((x1.set (Int.toNat x2) (gt x1 x4)).set (Int.toNat x4) (gt x1 x2)) y7) (cu:=ch4) rfl rfl hA8 .h h.hT c7.1 c7.2 rfl fun w S=>?_)
    refine h_back ⟨fun h=>(nomatch h),?_⟩
    refine h_done ?_; clear CL hw le
    refine x_thenN (c_region (s_mv1 S rfl fun a S=>s_as2 S rfl fun a S=>c_end (wp_ret (x_thenR ?_))))
    obtain rfl:=sI h4
    exact b_ret2 (d1:=(.i y7)) (d2:=(.b true)) S rfl rfl rfl fun ok1 ok2=>S.retX (Hx:=[]) hb _ _ (():Unit) (.c0 .n) ⟨⟨ok1,tv⟩,⟨ok2,tv⟩,tv⟩
   ·refine c_condF S rfl c4 (wp_skip (x_thenN ?_))
    have hS:=S.rowx (fun _=> .h)
    clear S; obtain ⟨cs3,S⟩:=hS
    refine wp_seq (c_hS S (.take 0 (.take 1 (.tk 4 9 (.pure 2 (.pure 3 (.alts (.run 13 false (.alts (.run 14 false (.alts (.run 15 false .done .nil)) .nil)) .nil))))))) 13 (.c0 .n) ⟨Res.stay_rowx,tv⟩ [(13,(.i y7)),(12,(.i y1)),(0,(.s ch_0_0 ch_0_1 ch_0_2))] rfl (by kernel_rfl) ?_); clear S; intro w S CL hw le
    refine h_mv4 S CL hw le rfl tv tv tv tv fun a S CL=>?_
    obtain ⟨c8,h2⟩:=chk_of h1; clear h1
    refine h_iaddrX S CL hw le (subR rfl) (ty':=g.T) rfl .h rfl h.hU h.hT c8.1 c8.2 rfl rfl tv fun g9 a hA9 S CL=>h_ldXW S CL hw le (subR rfl) (i:=y7) rfl hA9 .h h.hT c8.1 c8.2 rfl rfl rfl tv fun ch5 a S CL=>h_mv2 S CL hw le rfl tv tv fun a S CL=>?_
    obtain ⟨c9,h3⟩:=chk_of h2; clear h2
    refine h_iaddrX S CL hw le (subR rfl) (ty':=g.T) rfl .h rfl h.hU h.hT c9.1 c9.2 rfl rfl tv fun g10 a hA10 S CL=>h_ldXW S CL hw le (subR rfl) (i:=y1) rfl hA10 .h h.hT c9.1 c9.2 rfl rfl rfl tv fun ch6 a S CL=>h_iaddrX S CL hw le (subR rfl) (ty':=g.T) rfl .h rfl h.hU h.hT c9.1 c9.2 rfl rfl tv fun g11 a hA11 S CL=>p_move S rfl rfl rfl tv fun a S=>p_move S rfl rfl rfl tv fun a S=>h_run' S rfl tv ?_
    replace S:=S.rowu .h
    refine s_stRW S (i:=y1) (u:=gt ((x1.set (Int.toNat x2) (gt x1 x4)).set (Int.toNat x4) (gt x1 x2)) y7) (cu:=ch5) rfl rfl hA11 .h h.hT c9.1 c9.2 rfl fun w S=>?_
    refine h_back ⟨fun h=>(nomatch h),?_⟩
    refine h_run' S rfl tv ?_
    obtain ⟨c10,h4⟩:=chk_of h3; clear h3
    refine s_iaddrO S (ty':=g.T) rfl .h rfl h.hU h.hT c10.1 c10.2 rfl fun g12 a hA12 S=>?_
    refine h_back ⟨fun h=>(nomatch h),?_⟩
    refine h_run' S rfl tv (s_stRW S (i:=y7) (u:=gt ((x1.set (Int.toNat x2) (gt x1 x4)).set (Int.toNat x4) (gt x1 x2)) y1) (cu:=ch6) rfl rfl hA12 .h h.hT c10.1 c10.2 rfl fun w S=>?_)
    refine h_back ⟨fun h=>(nomatch h),?_⟩
    refine h_done ?_; clear CL hw le
    refine x_thenN (c_region (s_mv1 S rfl fun a S=>s_bi S rfl fun a S=>s_as1 S rfl fun a S=>c_end (c_region (s_mv1 S rfl fun a S=>s_bi S rfl fun a S=>s_as1 S rfl fun a S=>c_end (wp_seq_k fun K3 hK3=>?_)))))
    have j3:∀ m y50 y51 a w,St 178 m b0 [(13,(.i y51)),(0,(.s ch_0_0 ch_0_1 ch_0_2)),(1,(.i x2))] [Res.row g.T g.e ch_0_0 ch_0_1 ch_0_2 y50] a w→fb4_.j3 g x2 y50 y51=some r→K3 a w:=by
     intro m y50 y51 a w S h0
     delta fb4_.j3 at h0
     refine hK3 a w ?_
     have hS:=S.rowx (fun _=> .h)
     clear S; obtain ⟨cs4,S⟩:=hS
     refine wp_seq (c_hS S (.take 0 (.take 1 (.tk 4 9 (.pure 2 (.pure 3 (.alts (.run 13 false (.alts (.run 14 false (.alts (.run 15 false .done .nil)) .nil)) .nil))))))) 13 (.c0 .n) ⟨Res.stay_rowx,tv⟩ [(13,(.i y51)),(0,(.s ch_0_0 ch_0_1 ch_0_2)),(1,(.i x2))] rfl (by kernel_rfl) ?_); clear S; intro w S CL hw le
     refine h_mv4 S CL hw le rfl tv tv tv tv fun a S CL=>?_
     obtain ⟨c11,h1⟩:=chk_of h0; clear h0
     refine h_iaddrX S CL hw le (subR rfl) (ty':=g.T) rfl .h rfl h.hU h.hT c11.1 c11.2 rfl rfl tv fun g13 a hA13 S CL=>h_ldXW S CL hw le (subR rfl) (i:=x2) rfl hA13 .h h.hT c11.1 c11.2 rfl rfl rfl tv fun ch7 a S CL=>h_mv2 S CL hw le rfl tv tv fun a S CL=>?_
     obtain ⟨c12,h2⟩:=chk_of h1; clear h1
     refine h_iaddrX S CL hw le (subR rfl) (ty':=g.T) rfl .h rfl h.hU h.hT c12.1 c12.2 rfl rfl tv fun g14 a hA14 S CL=>h_ldXW S CL hw le (subR rfl) (i:=y51) rfl hA14 .h h.hT c12.1 c12.2 rfl rfl rfl tv fun ch8 a S CL=>h_iaddrX S CL hw le (subR rfl) (ty':=g.T) rfl .h rfl h.hU h.hT c12.1 c12.2 rfl rfl tv fun g15 a hA15 S CL=>p_move S rfl rfl rfl tv fun a S=>p_move S rfl rfl rfl tv fun a S=>h_run' S rfl tv ?_
     replace S:=S.rowu .h
     refine s_stRW S (i:=y51) (u:=gt y50 x2) (cu:=ch7) rfl rfl hA15 .h h.hT c12.1 c12.2 rfl fun w S=>?_
     refine h_back ⟨fun h=>(nomatch h),?_⟩
     refine h_run' S rfl tv ?_
     obtain ⟨c13,h3⟩:=chk_of h2; clear h2
     refine s_iaddrO S (ty':=g.T) rfl .h rfl h.hU h.hT c13.1 c13.2 rfl fun g16 a hA16 S=>?_
     refine h_back ⟨fun h=>(nomatch h),?_⟩
     refine h_run' S rfl tv (s_stRW S (i:=x2) (u:=gt y50 y51) (cu:=ch8) rfl rfl hA16 .h h.hT c13.1 c13.2 rfl fun w S=>?_)
     refine h_back ⟨fun h=>(nomatch h),?_⟩
     refine h_done ?_; clear CL hw le
     refine x_thenN (c_region (s_mv1 S rfl fun a S=>s_as2 S rfl fun a S=>c_end (wp_ret ?_)))
     obtain rfl:=sI h3
     exact b_ret2 (d1:=(.i y51)) (d2:=(.b false)) S rfl rfl rfl fun ok1 ok2=>S.retX (Hx:=[]) hb _ _ (():Unit) (.c0 .n) ⟨⟨ok1,tv⟩,⟨ok2,tv⟩,tv⟩
    refine wp_block ?_
    refine c_loop (fun q1 a w=>∃ m y79 y80 y81,St 178 m b0 [(13,(.i y80)),(12,(.i y81)),(0,(.s ch_0_0 ch_0_1 ch_0_2)),(1,(.i x2)),(4,(.v (.func (.func g.fc) #[] #[])))] [Res.row g.T g.e ch_0_0 ch_0_1 ch_0_2 y79] a w∧fb4_.l1 g k x2 q1 y79 y80 y81=some r) ?_ ?_ (k:=k) ⟨_,((((x1.set (Int.toNat x2) (gt x1 x4)).set (Int.toNat x4) (gt x1 x2)).set (Int.toNat y1) (gt ((x1.set (Int.toNat x2) (gt x1 x4)).set (Int.toNat x4) (gt x1 x2)) y7)).set (Int.toNat y7) (gt ((x1.set (Int.toNat x2) (gt x1 x4)).set (Int.toNat x4) (gt x1 x2)) y1)),(wr .i64 (y7 - 1)),(wr .i64 (y1+1)),(S.sb rfl (.c0 .n)),h4⟩
    ·rintro a w ⟨m,y79,y80,y81,S,h0⟩
     exact (nomatch (show (none:Option (Int×Bool×(List g.α)))=some r from h0))
    ·clear S h4
     rintro q1 a w ⟨m,y79,y80,y81,S,h0⟩
     replace h0:fb4_.b1 g k x2 (fb4_.l1 g k x2 q1) y79 y80 y81=some r:=h0
     delta fb4_.b1 at h0
     refine wp_block (wp_seq_k fun K4 hK4=>?_)
     have j4:∀ m y87 a w,St 178 m b0 [(13,(.i y80)),(12,(.i y87)),(0,(.s ch_0_0 ch_0_1 ch_0_2)),(1,(.i x2)),(4,(.v (.func (.func g.fc) #[] #[])))] [Res.row g.T g.e ch_0_0 ch_0_1 ch_0_2 y79] a w→fb4_.j4 g k x2 y79 y80 (fb4_.l1 g k x2 q1) y87=some r→K4 a w:=by
      intro m y87 a w S h0
      delta fb4_.j4 at h0
      refine hK4 a w (wp_seq_k fun K5 hK5=>?_)
      have j5:∀ m y93 a w,St 178 m b0 [(13,(.i y93)),(12,(.i y87)),(0,(.s ch_0_0 ch_0_1 ch_0_2)),(1,(.i x2)),(4,(.v (.func (.func g.fc) #[] #[])))] [Res.row g.T g.e ch_0_0 ch_0_1 ch_0_2 y79] a w→fb4_.j5 g x2 y79 (fb4_.l1 g k x2 q1) y87 y93=some r→K5 a w:=by
       intro m y93 a w S h0
       delta fb4_.j5 at h0
       refine hK5 a w (wp_seq (c_region (s_mv2 S rfl fun a S=>s_bi S rfl fun a S=>c_end ?_)))
       rcases ite_of h0 with ⟨c14,h1⟩ | ⟨c14,h1⟩
       ·refine c_condT S rfl c14 (wp_exit (x_thenX (x_blockO (by decide) (x_thenX (x_blockX (x_thenN ?_))))))
        exact j3 _ y79 y93 a w (S.sb rfl (.c0 .n)) h1
       ·refine c_condF S rfl c14 (wp_skip (x_thenN ?_))
        have hS:=S.rowx (fun _=> .h)
        clear S; obtain ⟨cs5,S⟩:=hS
        refine wp_seq (c_hS S (.take 0 (.take 1 (.tk 4 9 (.pure 2 (.pure 3 (.alts (.run 13 false (.alts (.run 14 false (.alts (.run 15 false .done .nil)) .nil)) .nil))))))) 13 (.c0 .n) ⟨Res.stay_rowx,tv⟩ [(13,(.i y93)),(12,(.i y87)),(0,(.s ch_0_0 ch_0_1 ch_0_2))] rfl (by kernel_rfl) ?_); clear S; intro w S CL hw le
        refine h_mv4 S CL hw le rfl tv tv tv tv fun a S CL=>?_
        obtain ⟨c15,h2⟩:=chk_of h1; clear h1
        refine h_iaddrX S CL hw le (subR rfl) (ty':=g.T) rfl .h rfl h.hU h.hT c15.1 c15.2 rfl rfl tv fun g25 a hA17 S CL=>h_ldXW S CL hw le (subR rfl) (i:=y93) rfl hA17 .h h.hT c15.1 c15.2 rfl rfl rfl tv fun ch13 a S CL=>h_mv2 S CL hw le rfl tv tv fun a S CL=>?_
        obtain ⟨c16,h3⟩:=chk_of h2; clear h2
        refine h_iaddrX S CL hw le (subR rfl) (ty':=g.T) rfl .h rfl h.hU h.hT c16.1 c16.2 rfl rfl tv fun g26 a hA18 S CL=>h_ldXW S CL hw le (subR rfl) (i:=y87) rfl hA18 .h h.hT c16.1 c16.2 rfl rfl rfl tv fun ch14 a S CL=>h_iaddrX S CL hw le (subR rfl) (ty':=g.T) rfl .h rfl h.hU h.hT c16.1 c16.2 rfl rfl tv fun g27 a hA19 S CL=>p_move S rfl rfl rfl tv fun a S=>p_move S rfl rfl rfl tv fun a S=>h_run' S rfl tv ?_
        replace S:=S.rowu .h
        refine s_stRW S (i:=y87) (u:=gt y79 y93) (cu:=ch13) rfl rfl hA19 .h h.hT c16.1 c16.2 rfl fun w S=>?_
        refine h_back ⟨fun h=>(nomatch h),?_⟩
        refine h_run' S rfl tv ?_
        obtain ⟨c17,h4⟩:=chk_of h3; clear h3
        refine s_iaddrO S (ty':=g.T) rfl .h rfl h.hU h.hT c17.1 c17.2 rfl fun g28 a hA20 S=>?_
        refine h_back ⟨fun h=>(nomatch h),?_⟩
        refine h_run' S rfl tv (s_stRW S (i:=y93) (u:=gt y79 y87) (cu:=ch14) rfl rfl hA20 .h h.hT c17.1 c17.2 rfl fun w S=>?_)
        refine h_back ⟨fun h=>(nomatch h),?_⟩
        refine h_done ?_; clear CL hw le
        refine x_thenN (c_region (s_mv1 S rfl fun a S=>s_bi S rfl fun a S=>s_as1 S rfl fun a S=>c_end (c_region' (s_mv1 S rfl fun a S=>s_bi S rfl fun a S=>s_as1 S rfl fun a S=>c_end' (x_blockN (x_thenN ?_))))))
        exact ⟨_,((y79.set (Int.toNat y87) (gt y79 y93)).set (Int.toNat y93) (gt y79 y87)),(wr .i64 (y93 - 1)),(wr .i64 (y87+1)),(S.sb rfl (.c0 .n)),h4⟩
      refine wp_block ?_
      refine c_loop (fun q2 a w=>∃ m y97,St 178 m b0 [(13,(.i y97)),(12,(.i y87)),(0,(.s ch_0_0 ch_0_1 ch_0_2)),(1,(.i x2)),(4,(.v (.func (.func g.fc) #[] #[])))] [Res.row g.T g.e ch_0_0 ch_0_1 ch_0_2 y79] a w∧fb4_.l2 g k x2 y79 (fb4_.l1 g k x2 q1) y87 q2 y97=some r) ?_ ?_ (k:=k) ⟨_,y80,(S.sb rfl (.c0 .n)),h0⟩
      ·rintro a w ⟨m,y97,S,h0⟩
       exact (nomatch (show (none:Option (Int×Bool×(List g.α)))=some r from h0))
      ·clear S h0
       rintro q2 a w ⟨m,y97,S,h0⟩
       replace h0:fb4_.b2 g k x2 y79 (fb4_.l1 g k x2 q1) y87 (fb4_.l2 g k x2 y79 (fb4_.l1 g k x2 q1) y87 q2) y97=some r:=h0
       delta fb4_.b2 at h0
       refine wp_seq (wp_seq_k fun K6 hK6=>?_)
       have j6:∀ m y98 a w,St 178 m b0 [(139,(.b y98)),(13,(.i y97)),(12,(.i y87)),(0,(.s ch_0_0 ch_0_1 ch_0_2)),(1,(.i x2)),(4,(.v (.func (.func g.fc) #[] #[])))] [Res.row g.T g.e ch_0_0 ch_0_1 ch_0_2 y79] a w→fb4_.j6 g x2 y79 (fb4_.l1 g k x2 q1) y87 y97 (fb4_.l2 g k x2 y79 (fb4_.l1 g k x2 q1) y87 q2) y98=some r→K6 a w:=by
        intro m y98 a w S h0
        delta fb4_.j6 at h0
        refine hK6 a w ?_
        rcases ite_of h0 with ⟨c18,h1⟩ | ⟨c18,h1⟩
        ·refine c_condT S rfl c18 (wp_skip (x_thenN (wp_block (c_region' (s_mv1 S rfl fun a S=>s_bi S rfl fun a S=>s_as1 S rfl fun a S=>c_end' (x_blockN (x_thenN ?_)))))))
         exact ⟨_,(wr .i64 (y97 - 1)),(S.sb rfl (.c0 .n)),h1⟩
        ·refine c_condF S rfl c18 (wp_exit (x_thenX (x_thenX (x_blockX (x_thenN ?_)))))
         exact j5 _ y97 a w (S.sb rfl (.c0 .n)) h1
       have hS:=S.rowx (fun _=> .h)
       clear S; obtain ⟨cs6,S⟩:=hS
       refine c_hS S (.tk 0 13 (.alts (.run 13 true (.tk 14 3 .done) .nil))) 17 (.c0 .n) ⟨Res.stay_rowx,tv⟩ [(13,(.i y97)),(12,(.i y87)),(0,(.s ch_0_0 ch_0_1 ch_0_2)),(1,(.i x2)),(4,(.v (.func (.func g.fc) #[] #[])))] rfl (by kernel_rfl) fun w S CL hw le=>?_
       refine h_mv2 S CL hw le rfl tv tv fun a S CL=>h_bin S CL hw le (subR rfl) rfl rfl rfl rfl rfl tv fun a S CL=>h_mv1 S CL hw le rfl tv fun a S CL=>?_
       rcases ite_of h0 with ⟨c19,h1⟩ | ⟨c19,h1⟩
       ·refine h_mv3 S CL hw le rfl ⟨_,_,rfl,rfl,c19⟩ ⟨_,_,rfl,rfl,c19⟩ ⟨_,_,rfl,rfl,c19⟩ fun a S CL=>?_
        obtain ⟨c20,h2⟩:=chk_of h1; clear h1
        refine h_iaddrX S CL hw le (subR rfl) (ty':=g.T) rfl .h rfl h.hU h.hT c20.1 c20.2 rfl rfl ⟨_,_,rfl,rfl,c19⟩ fun g31 a hA21 S CL=>h_ldXW S CL hw le (subR rfl) (i:=y97) rfl hA21 .h h.hT c20.1 c20.2 rfl rfl rfl ⟨_,_,rfl,rfl,c19⟩ fun ch17 a S CL=>h_mv2 S CL hw le rfl ⟨_,_,rfl,rfl,c19⟩ ⟨_,_,rfl,rfl,c19⟩ fun a S CL=>?_
        obtain ⟨c21,h3⟩:=chk_of h2; clear h2
        refine h_iaddrX S CL hw le (subR rfl) (ty':=g.T) rfl .h rfl h.hU h.hT c21.1 c21.2 rfl rfl ⟨_,_,rfl,rfl,c19⟩ fun g32 a hA22 S CL=>h_ldXW S CL hw le (subR rfl) (i:=x2) rfl hA22 .h h.hT c21.1 c21.2 rfl rfl rfl ⟨_,_,rfl,rfl,c19⟩ fun ch18 a S CL=>h_run' S rfl ⟨_,_,rfl,rfl,c19⟩ (bindX h3 fun t1 et1 h4=>s_callK S (h.hcmp et1) h.nc rfl .pre (fun _=> .n) rfl fun ch19 m le1 a w S=>?_)
        replace le:=le.trans le1
        refine CL.bk hw S (.c0 .n) le fun hw=>?_
        replace CL:=CL.add (t:=136) (d:=(.i t1)) S rfl rfl
        refine h_bin S CL hw le (subR rfl) rfl rfl rfl rfl rfl ⟨_,_,rfl,rfl,c19⟩ fun a S CL=>h_not S CL hw le (subR rfl) rfl rfl rfl ⟨_,_,rfl,rfl,c19⟩ fun a S CL=>h_pick S CL hw le (subR rfl) (b:=true) (hc_of rfl c19) rfl rfl rfl tv fun a S CL=>?_
        refine h_done ?_; clear CL hw le
        replace S:=S.rowu .h
        refine x_thenN ?_
        exact j6 _ (!(decide (t1<0))) a w (S.sb rfl (.c0 .n)) h4
       ·refine h_sk8 S CL rfl (ne_bool c19) fun a S CL=>h_sk1 S CL rfl (ne_bool c19) fun a S CL=>h_skipRt S rfl rfl rfl (ne_bool c19) rfl fun a S=>CL.bk hw S (.c0 .n) le fun hw=>?_
        replace CL:=CL.add (t:=136) (d:= .u) S rfl rfl
        refine h_sk2 S CL rfl (ne_bool c19) fun a S CL=>h_pick S CL hw le (subR rfl) (b:=false) (hc_of rfl c19) rfl rfl rfl tv fun a S CL=>?_
        refine h_done ?_; clear CL hw le
        replace S:=S.rowu .h
        refine x_thenN ?_
        exact j6 _ false a w (S.sb rfl (.c0 .n)) h1
     refine wp_block ?_
     refine c_loop (fun q3 a w=>∃ m y102,St 178 m b0 [(13,(.i y80)),(12,(.i y102)),(0,(.s ch_0_0 ch_0_1 ch_0_2)),(1,(.i x2)),(4,(.v (.func (.func g.fc) #[] #[])))] [Res.row g.T g.e ch_0_0 ch_0_1 ch_0_2 y79] a w∧fb4_.l3 g k x2 y79 y80 (fb4_.l1 g k x2 q1) q3 y102=some r) ?_ ?_ (k:=k) ⟨_,y81,(S.sb rfl (.c0 .n)),h0⟩
     ·rintro a w ⟨m,y102,S,h0⟩
      exact (nomatch (show (none:Option (Int×Bool×(List g.α)))=some r from h0))
     ·clear S h0
      rintro q3 a w ⟨m,y102,S,h0⟩
      replace h0:fb4_.b3 g k x2 y79 y80 (fb4_.l1 g k x2 q1) (fb4_.l3 g k x2 y79 y80 (fb4_.l1 g k x2 q1) q3) y102=some r:=h0
      delta fb4_.b3 at h0
      refine wp_seq (wp_seq_k fun K7 hK7=>?_)
      have j7:∀ m y103 a w,St 178 m b0 [(120,(.b y103)),(13,(.i y80)),(12,(.i y102)),(0,(.s ch_0_0 ch_0_1 ch_0_2)),(1,(.i x2)),(4,(.v (.func (.func g.fc) #[] #[])))] [Res.row g.T g.e ch_0_0 ch_0_1 ch_0_2 y79] a w→fb4_.j7 g k x2 y79 y80 (fb4_.l1 g k x2 q1) y102 (fb4_.l3 g k x2 y79 y80 (fb4_.l1 g k x2 q1) q3) y103=some r→K7 a w:=by
       intro m y103 a w S h0
       delta fb4_.j7 at h0
       refine hK7 a w ?_
       rcases ite_of h0 with ⟨c22,h1⟩ | ⟨c22,h1⟩
       ·refine c_condT S rfl c22 (wp_skip (x_thenN (wp_block (c_region' (s_mv1 S rfl fun a S=>s_bi S rfl fun a S=>s_as1 S rfl fun a S=>c_end' (x_blockN (x_thenN ?_)))))))
        exact ⟨_,(wr .i64 (y102+1)),(S.sb rfl (.c0 .n)),h1⟩
       ·refine c_condF S rfl c22 (wp_exit (x_thenX (x_thenX (x_blockX (x_thenN ?_)))))
        exact j4 _ y102 a w (S.sb rfl (.c0 .n)) h1
      have hS:=S.rowx (fun _=> .h)
      clear S; obtain ⟨cs7,S⟩:=hS
      refine c_hS S (.tk 0 13 (.alts (.run 13 true (.take 14 (.take 15 .done)) .nil))) 16 (.c0 .n) ⟨Res.stay_rowx,tv⟩ [(13,(.i y80)),(12,(.i y102)),(0,(.s ch_0_0 ch_0_1 ch_0_2)),(1,(.i x2)),(4,(.v (.func (.func g.fc) #[] #[])))] rfl (by kernel_rfl) fun w S CL hw le=>?_
      refine h_mv2 S CL hw le rfl tv tv fun a S CL=>h_bin S CL hw le (subR rfl) rfl rfl rfl rfl rfl tv fun a S CL=>h_mv1 S CL hw le rfl tv fun a S CL=>?_
      rcases ite_of h0 with ⟨c23,h1⟩ | ⟨c23,h1⟩
      ·refine h_mv3 S CL hw le rfl ⟨_,_,rfl,rfl,c23⟩ ⟨_,_,rfl,rfl,c23⟩ ⟨_,_,rfl,rfl,c23⟩ fun a S CL=>?_
       obtain ⟨c24,h2⟩:=chk_of h1; clear h1
       refine h_iaddrX S CL hw le (subR rfl) (ty':=g.T) rfl .h rfl h.hU h.hT c24.1 c24.2 rfl rfl ⟨_,_,rfl,rfl,c23⟩ fun g35 a hA23 S CL=>h_ldXW S CL hw le (subR rfl) (i:=y102) rfl hA23 .h h.hT c24.1 c24.2 rfl rfl rfl ⟨_,_,rfl,rfl,c23⟩ fun ch22 a S CL=>h_mv2 S CL hw le rfl ⟨_,_,rfl,rfl,c23⟩ ⟨_,_,rfl,rfl,c23⟩ fun a S CL=>?_
       obtain ⟨c25,h3⟩:=chk_of h2; clear h2
       refine h_iaddrX S CL hw le (subR rfl) (ty':=g.T) rfl .h rfl h.hU h.hT c25.1 c25.2 rfl rfl ⟨_,_,rfl,rfl,c23⟩ fun g36 a hA24 S CL=>h_ldXW S CL hw le (subR rfl) (i:=x2) rfl hA24 .h h.hT c25.1 c25.2 rfl rfl rfl ⟨_,_,rfl,rfl,c23⟩ fun ch23 a S CL=>h_run' S rfl ⟨_,_,rfl,rfl,c23⟩ (bindX h3 fun t3 et3 h4=>s_callK S (h.hcmp et3) h.nc rfl .pre (fun _=> .n) rfl fun ch24 m le1 a w S=>?_)
       replace le:=le.trans le1
       refine CL.bk hw S (.c0 .n) le fun hw=>?_
       replace CL:=CL.add (t:=118) (d:=(.i t3)) S rfl rfl
       refine h_bin S CL hw le (subR rfl) rfl rfl rfl rfl rfl ⟨_,_,rfl,rfl,c23⟩ fun a S CL=>h_pick S CL hw le (subR rfl) (b:=true) (hc_of rfl c23) rfl rfl rfl tv fun a S CL=>?_
       refine h_done ?_; clear CL hw le
       replace S:=S.rowu .h
       refine x_thenN ?_
       exact j7 _ (decide (t3<0)) a w (S.sb rfl (.c0 .n)) h4
      ·refine h_sk8 S CL rfl (ne_bool c23) fun a S CL=>h_sk1 S CL rfl (ne_bool c23) fun a S CL=>h_skipRt S rfl rfl rfl (ne_bool c23) rfl fun a S=>CL.bk hw S (.c0 .n) le fun hw=>?_
       replace CL:=CL.add (t:=118) (d:= .u) S rfl rfl
       refine h_sk1 S CL rfl (ne_bool c23) fun a S CL=>h_pick S CL hw le (subR rfl) (b:=false) (hc_of rfl c23) rfl rfl rfl tv fun a S CL=>?_
       refine h_done ?_; clear CL hw le
       replace S:=S.rowu .h
       refine x_thenN ?_
       exact j7 _ false a w (S.sb rfl (.c0 .n)) h1
  refine wp_block ?_
  refine c_loop (fun q4 a w=>∃ m y107,St 178 m b0 [(13,(.i y107)),(12,(.i y1)),(0,(.s ch_0_0 ch_0_1 ch_0_2)),(1,(.i x2)),(4,(.v (.func (.func g.fc) #[] #[])))] [Res.row g.T g.e ch_0_0 ch_0_1 ch_0_2 ((x1.set (Int.toNat x2) (gt x1 x4)).set (Int.toNat x4) (gt x1 x2))] a w∧fb4_.l4 g k x1 x2 x4 y1 q4 y107=some r) ?_ ?_ (k:=k) ⟨_,(wr .i64 (x3 - 1)),(S.sb rfl (.c0 .n)),h0⟩
  ·rintro a w ⟨m,y107,S,h0⟩
   exact (nomatch (show (none:Option (Int×Bool×(List g.α)))=some r from h0))
  ·clear S h0
   rintro q4 a w ⟨m,y107,S,h0⟩
   replace h0:fb4_.b4 g k x1 x2 x4 y1 (fb4_.l4 g k x1 x2 x4 y1 q4) y107=some r:=h0
   delta fb4_.b4 at h0
   refine wp_seq (wp_seq_k fun K8 hK8=>?_)
   have j8:∀ m y108 a w,St 178 m b0 [(66,(.b y108)),(13,(.i y107)),(12,(.i y1)),(0,(.s ch_0_0 ch_0_1 ch_0_2)),(1,(.i x2)),(4,(.v (.func (.func g.fc) #[] #[])))] [Res.row g.T g.e ch_0_0 ch_0_1 ch_0_2 ((x1.set (Int.toNat x2) (gt x1 x4)).set (Int.toNat x4) (gt x1 x2))] a w→fb4_.j8 g k x1 x2 x4 y1 y107 (fb4_.l4 g k x1 x2 x4 y1 q4) y108=some r→K8 a w:=by
    intro m y108 a w S h0
    delta fb4_.j8 at h0
    refine hK8 a w ?_
    rcases ite_of h0 with ⟨c26,h1⟩ | ⟨c26,h1⟩
    ·refine c_condT S rfl c26 (wp_skip (x_thenN (wp_block (c_region' (s_mv1 S rfl fun a S=>s_bi S rfl fun a S=>s_as1 S rfl fun a S=>c_end' (x_blockN (x_thenN ?_)))))))
     exact ⟨_,(wr .i64 (y107 - 1)),(S.sb rfl (.c0 .n)),h1⟩
    ·refine c_condF S rfl c26 (wp_exit (x_thenX (x_thenX (x_blockX (x_thenN ?_)))))
     exact j2 _ y107 a w (S.sb rfl (.c0 .n)) h1
   have hS:=S.rowx (fun _=> .h)
   clear S; obtain ⟨cs8,S⟩:=hS
   refine c_hS S (.tk 0 13 (.alts (.run 13 true (.tk 14 3 .done) .nil))) 17 (.c0 .n) ⟨Res.stay_rowx,tv⟩ [(13,(.i y107)),(12,(.i y1)),(0,(.s ch_0_0 ch_0_1 ch_0_2)),(1,(.i x2)),(4,(.v (.func (.func g.fc) #[] #[])))] rfl (by kernel_rfl) fun w S CL hw le=>?_
   refine h_mv2 S CL hw le rfl tv tv fun a S CL=>h_bin S CL hw le (subR rfl) rfl rfl rfl rfl rfl tv fun a S CL=>h_mv1 S CL hw le rfl tv fun a S CL=>?_
   rcases ite_of h0 with ⟨c27,h1⟩ | ⟨c27,h1⟩
   ·refine h_mv3 S CL hw le rfl ⟨_,_,rfl,rfl,c27⟩ ⟨_,_,rfl,rfl,c27⟩ ⟨_,_,rfl,rfl,c27⟩ fun a S CL=>?_
    obtain ⟨c28,h2⟩:=chk_of h1; clear h1
    refine h_iaddrX S CL hw le (subR rfl) (ty':=g.T) rfl .h rfl h.hU h.hT c28.1 c28.2 rfl rfl ⟨_,_,rfl,rfl,c27⟩ fun g39 a hA25 S CL=>h_ldXW S CL hw le (subR rfl) (i:=y107) rfl hA25 .h h.hT c28.1 c28.2 rfl rfl rfl ⟨_,_,rfl,rfl,c27⟩ fun ch27 a S CL=>h_mv2 S CL hw le rfl ⟨_,_,rfl,rfl,c27⟩ ⟨_,_,rfl,rfl,c27⟩ fun a S CL=>?_
    obtain ⟨c29,h3⟩:=chk_of h2; clear h2
    refine h_iaddrX S CL hw le (subR rfl) (ty':=g.T) rfl .h rfl h.hU h.hT c29.1 c29.2 rfl rfl ⟨_,_,rfl,rfl,c27⟩ fun g40 a hA26 S CL=>h_ldXW S CL hw le (subR rfl) (i:=x2) rfl hA26 .h h.hT c29.1 c29.2 rfl rfl rfl ⟨_,_,rfl,rfl,c27⟩ fun ch28 a S CL=>h_run' S rfl ⟨_,_,rfl,rfl,c27⟩ (bindX h3 fun t5 et5 h4=>s_callK S (h.hcmp et5) h.nc rfl .pre (fun _=> .n) rfl fun ch29 m le1 a w S=>?_)
    replace le:=le.trans le1
    refine CL.bk hw S (.c0 .n) le fun hw=>?_
    replace CL:=CL.add (t:=63) (d:=(.i t5)) S rfl rfl
    refine h_bin S CL hw le (subR rfl) rfl rfl rfl rfl rfl ⟨_,_,rfl,rfl,c27⟩ fun a S CL=>h_not S CL hw le (subR rfl) rfl rfl rfl ⟨_,_,rfl,rfl,c27⟩ fun a S CL=>h_pick S CL hw le (subR rfl) (b:=true) (hc_of rfl c27) rfl rfl rfl tv fun a S CL=>?_
    refine h_done ?_; clear CL hw le
    replace S:=S.rowu .h
    refine x_thenN ?_
    exact j8 _ (!(decide (t5<0))) a w (S.sb rfl (.c0 .n)) h4
   ·refine h_sk8 S CL rfl (ne_bool c27) fun a S CL=>h_sk1 S CL rfl (ne_bool c27) fun a S CL=>h_skipRt S rfl rfl rfl (ne_bool c27) rfl fun a S=>CL.bk hw S (.c0 .n) le fun hw=>?_
    replace CL:=CL.add (t:=63) (d:= .u) S rfl rfl
    refine h_sk2 S CL rfl (ne_bool c27) fun a S CL=>h_pick S CL hw le (subR rfl) (b:=false) (hc_of rfl c27) rfl rfl rfl tv fun a S CL=>?_
    refine h_done ?_; clear CL hw le
    replace S:=S.rowu .h
    refine x_thenN ?_
    exact j8 _ false a w (S.sb rfl (.c0 .n)) h1
 refine wp_block ?_
 refine c_loop (fun q5 a w=>∃ m y112,St 178 m b0 [(13,(.i (wr .i64 (x3 - 1)))),(12,(.i y112)),(0,(.s ch_0_0 ch_0_1 ch_0_2)),(1,(.i x2)),(4,(.v (.func (.func g.fc) #[] #[])))] [Res.row g.T g.e ch_0_0 ch_0_1 ch_0_2 ((x1.set (Int.toNat x2) (gt x1 x4)).set (Int.toNat x4) (gt x1 x2))] a w∧fb4_.l5 g k x1 x2 x3 x4 q5 y112=some r) ?_ ?_ (k:=k) ⟨_,(wr .i64 (x2+1)),(S.sb rfl (.c0 .n)),h3⟩
 ·rintro a w ⟨m,y112,S,h0⟩
  exact (nomatch (show (none:Option (Int×Bool×(List g.α)))=some r from h0))
 ·clear S h3
  rintro q5 a w ⟨m,y112,S,h0⟩
  replace h0:fb4_.b5 g k x1 x2 x3 x4 (fb4_.l5 g k x1 x2 x3 x4 q5) y112=some r:=h0
  delta fb4_.b5 at h0
  refine wp_seq (wp_seq_k fun K9 hK9=>?_)
  have j9:∀ m y113 a w,St 178 m b0 [(47,(.b y113)),(13,(.i (wr .i64 (x3 - 1)))),(12,(.i y112)),(0,(.s ch_0_0 ch_0_1 ch_0_2)),(1,(.i x2)),(4,(.v (.func (.func g.fc) #[] #[])))] [Res.row g.T g.e ch_0_0 ch_0_1 ch_0_2 ((x1.set (Int.toNat x2) (gt x1 x4)).set (Int.toNat x4) (gt x1 x2))] a w→fb4_.j9 g k x1 x2 x3 x4 y112 (fb4_.l5 g k x1 x2 x3 x4 q5) y113=some r→K9 a w:=by
   intro m y113 a w S h0
   delta fb4_.j9 at h0
   refine hK9 a w ?_
   rcases ite_of h0 with ⟨c30,h1⟩ | ⟨c30,h1⟩
   ·refine c_condT S rfl c30 (wp_skip (x_thenN (wp_block (c_region' (s_mv1 S rfl fun a S=>s_bi S rfl fun a S=>s_as1 S rfl fun a S=>c_end' (x_blockN (x_thenN ?_)))))))
    exact ⟨_,(wr .i64 (y112+1)),(S.sb rfl (.c0 .n)),h1⟩
   ·refine c_condF S rfl c30 (wp_exit (x_thenX (x_thenX (x_blockX (x_thenN ?_)))))
    exact j1 _ y112 a w (S.sb rfl (.c0 .n)) h1
  have hS:=S.rowx (fun _=> .h)
  clear S; obtain ⟨cs9,S⟩:=hS
  refine c_hS S (.tk 0 13 (.alts (.run 13 true (.take 14 (.take 15 .done)) .nil))) 16 (.c0 .n) ⟨Res.stay_rowx,tv⟩ [(13,(.i (wr .i64 (x3 - 1)))),(12,(.i y112)),(0,(.s ch_0_0 ch_0_1 ch_0_2)),(1,(.i x2)),(4,(.v (.func (.func g.fc) #[] #[])))] rfl (by kernel_rfl) fun w S CL hw le=>?_
  refine h_mv2 S CL hw le rfl tv tv fun a S CL=>h_bin S CL hw le (subR rfl) rfl rfl rfl rfl rfl tv fun a S CL=>h_mv1 S CL hw le rfl tv fun a S CL=>?_
  rcases ite_of h0 with ⟨c31,h1⟩ | ⟨c31,h1⟩
  ·refine h_mv3 S CL hw le rfl ⟨_,_,rfl,rfl,c31⟩ ⟨_,_,rfl,rfl,c31⟩ ⟨_,_,rfl,rfl,c31⟩ fun a S CL=>?_
   obtain ⟨c32,h2⟩:=chk_of h1; clear h1
   refine h_iaddrX S CL hw le (subR rfl) (ty':=g.T) rfl .h rfl h.hU h.hT c32.1 c32.2 rfl rfl ⟨_,_,rfl,rfl,c31⟩ fun g43 a hA27 S CL=>h_ldXW S CL hw le (subR rfl) (i:=y112) rfl hA27 .h h.hT c32.1 c32.2 rfl rfl rfl ⟨_,_,rfl,rfl,c31⟩ fun ch32 a S CL=>h_mv2 S CL hw le rfl ⟨_,_,rfl,rfl,c31⟩ ⟨_,_,rfl,rfl,c31⟩ fun a S CL=>?_
   obtain ⟨c33,h3⟩:=chk_of h2; clear h2
   refine h_iaddrX S CL hw le (subR rfl) (ty':=g.T) rfl .h rfl h.hU h.hT c33.1 c33.2 rfl rfl ⟨_,_,rfl,rfl,c31⟩ fun g44 a hA28 S CL=>h_ldXW S CL hw le (subR rfl) (i:=x2) rfl hA28 .h h.hT c33.1 c33.2 rfl rfl rfl ⟨_,_,rfl,rfl,c31⟩ fun ch33 a S CL=>h_run' S rfl ⟨_,_,rfl,rfl,c31⟩ (bindX h3 fun t7 et7 h4=>s_callK S (h.hcmp et7) h.nc rfl .pre (fun _=> .n) rfl fun ch34 m le1 a w S=>?_)
   replace le:=le.trans le1
   refine CL.bk hw S (.c0 .n) le fun hw=>?_
   replace CL:=CL.add (t:=45) (d:=(.i t7)) S rfl rfl
   refine h_bin S CL hw le (subR rfl) rfl rfl rfl rfl rfl ⟨_,_,rfl,rfl,c31⟩ fun a S CL=>h_pick S CL hw le (subR rfl) (b:=true) (hc_of rfl c31) rfl rfl rfl tv fun a S CL=>?_
   refine h_done ?_; clear CL hw le
   replace S:=S.rowu .h
   refine x_thenN ?_
   exact j9 _ (decide (t7<0)) a w (S.sb rfl (.c0 .n)) h4
  ·refine h_sk8 S CL rfl (ne_bool c31) fun a S CL=>h_sk1 S CL rfl (ne_bool c31) fun a S CL=>h_skipRt S rfl rfl rfl (ne_bool c31) rfl fun a S=>CL.bk hw S (.c0 .n) le fun hw=>?_
   replace CL:=CL.add (t:=45) (d:= .u) S rfl rfl
   refine h_sk1 S CL rfl (ne_bool c31) fun a S CL=>h_pick S CL hw le (subR rfl) (b:=false) (hc_of rfl c31) rfl rfl rfl tv fun a S CL=>?_
   refine h_done ?_; clear CL hw le
   replace S:=S.rowu .h
   refine x_thenN ?_
   exact j9 _ false a w (S.sb rfl (.c0 .n)) h1
abbrev fb0_.Ty:Type:=Int→Option Int
def fb0_.Ctr (s:fb0_.Ty):Prop:=∀ {x1:Int} {r:Int} (h0:s x1=some r) {mi:Mem} {w0:World},CtrB Try.prog 76 [(.i x1)] [] (fun (ch:Unit)=>((.w r):D)) (fun (ch:Unit)=>[]) mi w0
def fb0_.f (x1:Int):Option Int:=(fg0_.f (wr .u64 x1)).bind fun t1=>(if (0:Int)≤t1 then (some (shl .u64 1 (min (Int.toNat t1) 64))) else none)
theorem fb0_.ok:fb0_.Ctr (fb0_.f):=by
 intro x1 r h0 mi w0 ok hm
 delta fb0_.f at h0
 refine c_enterZ (n:=7) ok hm func76 rfl rfl rfl fun b0 hb a S=>c_region (s_as1 S rfl fun a S=>c_end (c_region (s_mv1 S rfl fun a S=>s_conv S rfl rfl underlying100 rfl fun a S=>bindX h0 fun t1 et1 h1=>s_callK S (fg0_.ok et1) N48 rfl .pre (fun _=> .n) rfl fun ch1 m le1 a w S=>?_)))
 obtain ⟨c1,h2⟩:=chk_of h1; clear h1
 refine s_shl S (e:=(min (Int.toNat t1) 64)) rfl rfl c1 rfl rfl fun a S=>s_as1 S rfl fun a S=>c_end (wp_ret ?_)
 obtain rfl:=sI h2
 exact b_ret1 (d:=(.w (shl .u64 1 (min (Int.toNat t1) 64)))) S rfl rfl (S.rt hb)
abbrev fb6_.Ty:Type:=Int→Option (Int×Int)
def fb6_.Ctr (s:fb6_.Ty):Prop:=∀ {x1:Int} {ch_0_0:Nat} {r:Int×Int} (h0:s x1=some r) {mi:Mem} {w0:World},CtrB Try.prog 77 [(.p ch_0_0)] [Res.cells ch_0_0 126 [.w x1]] (fun (ch:Unit)=>((.w r.1):D)) (fun (ch:Unit)=>[Res.cells ch_0_0 126 [.w r.2]]) mi w0
def fb6_.f (x1:Int):Option (Int×Int):=some (bits .xor .u64 (bits .xor .u64 (bits .xor .u64 x1 (shl .u64 x1 13)) (shr (bits .xor .u64 x1 (shl .u64 x1 13)) 7)) (shl .u64 (bits .xor .u64 (bits .xor .u64 x1 (shl .u64 x1 13)) (shr (bits .xor .u64 x1 (shl .u64 x1 13)) 7)) 17),bits .xor .u64 (bits .xor .u64 (bits .xor .u64 x1 (shl .u64 x1 13)) (shr (bits .xor .u64 x1 (shl .u64 x1 13)) 7)) (shl .u64 (bits .xor .u64 (bits .xor .u64 x1 (shl .u64 x1 13)) (shr (bits .xor .u64 x1 (shl .u64 x1 13)) 7)) 17))
theorem fb6_.ok:fb6_.Ctr (fb6_.f):=by
 intro x1 ch_0_0 r h0 mi w0 ok hm
 delta fb6_.f at h0
 refine c_enterZ (n:=33) ok hm func77 rfl rfl rfl fun b0 hb a S=>c_region (s_as1 S rfl fun a S=>c_end ?_)
 refine wp_seq (c_heldS S (.take 0 (.take 1 (.take 2 (.take 3 (.take 4 (.take 5 (.take 6 (.take 7 (.take 8 (.alts (.run 9 false .done .nil))))))))))) 9 [Res.cells ch_0_0 126 [.w x1]] (.c0 .n) ⟨Res.stay_cells,tv⟩ [(0,(.p ch_0_0))] ⟨rfl,tv⟩ (by kernel_rfl) (by kernel_rfl) ?_); clear S; intro w S CL hw le
 refine h_move S CL hw le ⟨rfl,tv⟩ rfl rfl rfl tv fun a S CL=>h_nilchk S CL hw le (subR rfl) rfl rfl rfl rfl tv fun a S CL=>h_load1 S CL hw le (subR rfl) rfl .h T126 (v:=(.int .u64 x1)) rfl rfl rfl tv fun a S CL=>h_mv1 S CL hw le rfl tv fun a S CL=>h_nilchk S CL hw le (subR rfl) rfl rfl rfl rfl tv fun a S CL=>h_load1 S CL hw le (subR rfl) rfl .h T126 (v:=(.int .u64 x1)) rfl rfl rfl tv fun a S CL=>h_shl S CL hw le (subR rfl) (e:=13) rfl rfl (by decide) rfl rfl rfl tv fun a S CL=>h_bin S CL hw le (subR rfl) rfl rfl rfl rfl rfl tv fun a S CL=>h_nilchk S CL hw le (subR rfl) rfl rfl rfl rfl tv fun a S CL=>h_run' S rfl tv (s_storeJ S 0 rfl rfl rfl rfl .h T126 rfl rfl fun w S=>?_)
 refine h_back ⟨fun h=>(nomatch h),?_⟩
 refine h_done ?_; clear CL hw le
 refine x_thenN ?_
 refine wp_seq (c_heldS S (.take 0 (.take 1 (.take 2 (.take 3 (.take 4 (.take 5 (.take 6 (.take 7 (.take 8 (.alts (.run 9 false .done .nil))))))))))) 9 [Res.cells ch_0_0 126 [.w (bits .xor .u64 x1 (shl .u64 x1 13))]] (.c0 .n) ⟨Res.stay_cells,tv⟩ [(0,(.p ch_0_0))] ⟨rfl,tv⟩ (by kernel_rfl) (by kernel_rfl) ?_); clear S; intro w S CL hw le
 refine h_move S CL hw le ⟨rfl,tv⟩ rfl rfl rfl tv fun a S CL=>h_nilchk S CL hw le (subR rfl) rfl rfl rfl rfl tv fun a S CL=>h_load1 S CL hw le (subR rfl) rfl .h T126 (v:=(.int .u64 (bits .xor .u64 x1 (shl .u64 x1 13)))) rfl rfl rfl tv fun a S CL=>h_mv1 S CL hw le rfl tv fun a S CL=>h_nilchk S CL hw le (subR rfl) rfl rfl rfl rfl tv fun a S CL=>h_load1 S CL hw le (subR rfl) rfl .h T126 (v:=(.int .u64 (bits .xor .u64 x1 (shl .u64 x1 13)))) rfl rfl rfl tv fun a S CL=>h_shr S CL hw le (subR rfl) (e:=7) rfl rfl (by decide) rfl rfl rfl tv fun a S CL=>h_bin S CL hw le (subR rfl) rfl rfl rfl rfl rfl tv fun a S CL=>h_nilchk S CL hw le (subR rfl) rfl rfl rfl rfl tv fun a S CL=>h_run' S rfl tv (s_storeJ S 0 rfl rfl rfl rfl .h T126 rfl rfl fun w S=>?_)
 refine h_back ⟨fun h=>(nomatch h),?_⟩
 refine h_done ?_; clear CL hw le
 refine x_thenN ?_
 refine wp_seq (c_heldS S (.take 0 (.take 1 (.take 2 (.take 3 (.take 4 (.take 5 (.take 6 (.take 7 (.take 8 (.alts (.run 9 false .done .nil))))))))))) 9 [Res.cells ch_0_0 126 [.w (bits .xor .u64 (bits .xor .u64 x1 (shl .u64 x1 13)) (shr (bits .xor .u64 x1 (shl .u64 x1 13)) 7))]] (.c0 .n) ⟨Res.stay_cells,tv⟩ [(0,(.p ch_0_0))] ⟨rfl,tv⟩ (by kernel_rfl) (by kernel_rfl) ?_); clear S; intro w S CL hw le
 refine h_move S CL hw le ⟨rfl,tv⟩ rfl rfl rfl tv fun a S CL=>h_nilchk S CL hw le (subR rfl) rfl rfl rfl rfl tv fun a S CL=>h_load1 S CL hw le (subR rfl) rfl .h T126 (v:=(.int .u64 (bits .xor .u64 (bits .xor .u64 x1 (shl .u64 x1 13)) (shr (bits .xor .u64 x1 (shl .u64 x1 13)) 7)))) rfl rfl rfl tv fun a S CL=>h_mv1 S CL hw le rfl tv fun a S CL=>h_nilchk S CL hw le (subR rfl) rfl rfl rfl rfl tv fun a S CL=>h_load1 S CL hw le (subR rfl) rfl .h T126 (v:=(.int .u64 (bits .xor .u64 (bits .xor .u64 x1 (shl .u64 x1 13)) (shr (bits .xor .u64 x1 (shl .u64 x1 13)) 7)))) rfl rfl rfl tv fun a S CL=>h_shl S CL hw le (subR rfl) (e:=17) rfl rfl (by decide) rfl rfl rfl tv fun a S CL=>h_bin S CL hw le (subR rfl) rfl rfl rfl rfl rfl tv fun a S CL=>h_nilchk S CL hw le (subR rfl) rfl rfl rfl rfl tv fun a S CL=>h_run' S rfl tv (s_storeJ S 0 rfl rfl rfl rfl .h T126 rfl rfl fun w S=>?_)
 refine h_back ⟨fun h=>(nomatch h),?_⟩
 refine h_done ?_; clear CL hw le
 refine x_thenN (c_region (s_mv1 S rfl fun a S=>s_nilchk S rfl rfl fun a S=>s_load1 S rfl .h T126 (v:=(.int .u64 (bits .xor .u64 (bits .xor .u64 (bits .xor .u64 x1 (shl .u64 x1 13)) (shr (bits .xor .u64 x1 (shl .u64 x1 13)) 7)) (shl .u64 (bits .xor .u64 (bits .xor .u64 x1 (shl .u64 x1 13)) (shr (bits .xor .u64 x1 (shl .u64 x1 13)) 7)) 17)))) rfl rfl fun a S=>s_as1 S rfl fun a S=>c_end (wp_ret ?_)))
 obtain rfl:=sI h0
 exact b_ret1 (d:=(.w (bits .xor .u64 (bits .xor .u64 (bits .xor .u64 x1 (shl .u64 x1 13)) (shr (bits .xor .u64 x1 (shl .u64 x1 13)) 7)) (shl .u64 (bits .xor .u64 (bits .xor .u64 x1 (shl .u64 x1 13)) (shr (bits .xor .u64 x1 (shl .u64 x1 13)) 7)) 17)))) S rfl rfl fun ok=>S.retX (Hx:=[]) hb _ _ (():Unit) (.c0 .n) ok
abbrev fa4_.Ty (g:SortG):Type:=(List g.α)→Int→Int→Option (List g.α)
def fa4_.Ctr (g:SortG)(s:fa4_.Ty g):Prop:=∀ {x1:List g.α} {x2:Int} {x3:Int} {ch_0_0:Option Addr} {ch_0_1:Nat} {ch_0_2:Nat} {r:List g.α} (h0:s x1 x2 x3=some r) {mi:Mem} {w0:World},CtrB Try.prog (g.φ 69) [(.s ch_0_0 ch_0_1 ch_0_2),(.i x2),(.i x3),(.v (.func (.func g.fc) #[] #[]))] [Res.row g.T g.e ch_0_0 ch_0_1 ch_0_2 x1] (fun (ch:Unit)=>((.tup []):D)) (fun (ch:Unit)=>[Res.row g.T g.e ch_0_0 ch_0_1 ch_0_2 r]) mi w0
def fa4_.j1 (g:SortG)(x2:Int)(y1:List g.α)(y2:Int)(rec1:(List g.α)→Int→Int→Option (List g.α))(t4:Int×Int)(y4:Int):Option (List g.α):=if (0:Int)≤(wr .i64 (x2+y4))∧(wr .i64 (x2+y4))<((y1).length:Int) then (if (0:Int)≤y2∧y2<((y1).length:Int) then (if (0:Int)≤(wr .i64 (x2+y4))∧(wr .i64 (x2+y4))<((y1.set (Int.toNat y2) (gt y1 (wr .i64 (x2+y4)))).length:Int) then (rec1 ((y1.set (Int.toNat y2) (gt y1 (wr .i64 (x2+y4)))).set (Int.toNat (wr .i64 (x2+y4))) (gt y1 y2)) (wr .i64 (y2+1)) t4.2) else none) else none) else none
def fa4_.b1 (g:SortG)(x2:Int)(x3:Int)(t1:Int)(rec1:(List g.α)→Int→Int→Option (List g.α))(y1:List g.α)(y2:Int)(y3:Int):Option (List g.α):=if (decide (y2≤(wr .i64 ((wr .i64 (x2+(wr .i64 ((wr .i64 (Int.tdiv (wr .i64 (x3 - x2)) 4))*2))))+1))))=true then ((fb6_.f y3).bind fun t4=>(if (decide ((wr .i64 (x3 - x2))≤(wr .i64 (bits .and .u64 t4.1 (wr .u64 (t1 - 1))))))=true then (fa4_.j1 g x2 y1 y2 rec1 t4 (wr .i64 ((wr .i64 (bits .and .u64 t4.1 (wr .u64 (t1 - 1)))) - (wr .i64 (x3 - x2))))) else (fa4_.j1 g x2 y1 y2 rec1 t4 (wr .i64 (bits .and .u64 t4.1 (wr .u64 (t1 - 1))))))) else (some y1)
def fa4_.l1 (g:SortG)(x2:Int)(x3:Int)(t1:Int):Nat→(List g.α)→Int→Int→Option (List g.α)
  | 0,_,_,_=>none
  | q+1,y1,y2,y3=>fa4_.b1 g x2 x3 t1 (fa4_.l1 g x2 x3 t1 q) y1 y2 y3
def fa4_.f (g:SortG)(k:Nat)(x1:List g.α)(x2:Int)(x3:Int):Option (List g.α):=if (decide (8≤(wr .i64 (x3 - x2))))=true then ((fb0_.f (wr .i64 (x3 - x2))).bind fun t1=>(fa4_.l1 g x2 x3 t1 k x1 (wr .i64 ((wr .i64 (x2+(wr .i64 ((wr .i64 (Int.tdiv (wr .i64 (x3 - x2)) 4))*2)))) - 1)) (wr .u64 (wr .i64 (x3 - x2))))) else (some x1)
theorem fa4_.ok (g:SortG)(h:SortG.Ok g)(k:Nat):fa4_.Ctr g (fa4_.f g k):=by
 intro x1 x2 x3 ch_0_0 ch_0_1 ch_0_2 r h0 mi w0 ok hm
 delta fa4_.f at h0
 refine c_enterG (n:=67) [(.s ch_0_0 ch_0_1 ch_0_2),(.i x2),(.i x3),(.v (.func (.func g.fc) #[] #[]))] (l:=[(0,(.s ch_0_0 ch_0_1 ch_0_2)),(1,(.i x2)),(2,(.i x3)),(3,(.v (.func (.func g.fc) #[] #[])))]) h.n69 rfl rfl rfl ok hm ?_
 clear ok hm
 intro b0 hb a S
 refine c_region (s_mv2 S rfl fun a S=>s_bi S rfl fun a S=>s_as1 S rfl fun a S=>c_end (c_region (s_mv1 S rfl fun a S=>s_bi S rfl fun a S=>c_end ?_)))
 rcases ite_of h0 with ⟨c1,h1⟩ | ⟨c1,h1⟩
 ·refine c_condT S rfl c1 (c_region (s_mv1 S rfl fun a S=>s_conv S rfl rfl underlying126 rfl fun a S=>s_alloc S Z126 rfl rfl rfl fun g1 a w S=>s_storeJ S 0 rfl rfl rfl rfl .h T126 rfl rfl fun w S=>c_end (c_region (s_mv1 S rfl fun a S=>bindX h1 fun t1 et1 h2=>s_callK S (fb0_.ok et1) N76 rfl .pre (fun _=> .n) rfl fun ch1 m le1 a w S=>s_as1 S rfl fun a S=>c_end (c_region (s_mv2 S rfl fun a S=>s_quo S rfl rfl (by decide) rfl fun a S=>s_bi S rfl fun a S=>s_bi S rfl fun a S=>s_bi S rfl fun a S=>s_as1 S rfl fun a S=>c_end (wp_block ?_)))))))
  refine c_loop (fun q1 a w=>∃ m y1 y2 g14 y3,St 67 m b0 [(11,(.i y2)),(10,(.w t1)),(9,(.p g14)),(8,(.i (wr .i64 (x3 - x2)))),(0,(.s ch_0_0 ch_0_1 ch_0_2)),(1,(.i x2))] [Res.cells g14 126 [.w y3],Res.row g.T g.e ch_0_0 ch_0_1 ch_0_2 y1] a w∧fa4_.l1 g x2 x3 t1 q1 y1 y2 y3=some r) ?_ ?_ (k:=k) ⟨_,x1,(wr .i64 ((wr .i64 (x2+(wr .i64 ((wr .i64 (Int.tdiv (wr .i64 (x3 - x2)) 4))*2)))) - 1)),g1,(wr .u64 (wr .i64 (x3 - x2))),(S.sb rfl (.c0 (.c0 .n))),h2⟩
  ·rintro a w ⟨m,y1,y2,g14,y3,S,h0⟩
   exact (nomatch (show (none:Option (List g.α))=some r from h0))
  ·clear S h2
   rintro q1 a w ⟨m,y1,y2,g14,y3,S,h0⟩
   replace h0:fa4_.b1 g x2 x3 t1 (fa4_.l1 g x2 x3 t1 q1) y1 y2 y3=some r:=h0
   delta fa4_.b1 at h0
   refine wp_seq (c_region (s_mv3 S rfl fun a S=>s_quo S rfl rfl (by decide) rfl fun a S=>s_bi S rfl fun a S=>s_bi S rfl fun a S=>s_bi S rfl fun a S=>s_bi S rfl fun a S=>c_end ?_))
   rcases ite_of h0 with ⟨c2,h1⟩ | ⟨c2,h1⟩
   ·refine c_condT S rfl c2 (wp_skip (x_thenN (wp_seq (wp_block (c_region (bindX h1 fun t4 et4 h2=>s_callK S (fb6_.ok et4) N77 rfl .pre (fun _=> .c1) rfl fun ch8 m le1 a w S=>s_mv1 S rfl fun a S=>s_bi S rfl fun a S=>s_bi S rfl fun a S=>s_conv S rfl rfl underlying3 rfl fun a S=>s_as1 S rfl fun a S=>c_end (wp_seq_k fun K1 hK1=>?_)))))))
    have j1:∀ m y4 g15 a w,St 67 m b0 [(12,(.i y4)),(11,(.i y2)),(10,(.w t1)),(9,(.p g15)),(8,(.i (wr .i64 (x3 - x2)))),(0,(.s ch_0_0 ch_0_1 ch_0_2)),(1,(.i x2))] [Res.cells g15 126 [.w t4.2],Res.row g.T g.e ch_0_0 ch_0_1 ch_0_2 y1] a w→fa4_.j1 g x2 y1 y2 (fa4_.l1 g x2 x3 t1 q1) t4 y4=some r→K1 a w:=by
     intro m y4 g15 a w S h0
     delta fa4_.j1 at h0
     refine hK1 a w ?_
     have hS:=S.rowx (fun _=> .h1)
     clear S; obtain ⟨cs1,S⟩:=hS
     refine c_hS S (.take 0 (.take 1 (.tk 6 11 (.pure 2 (.pure 3 (.pure 4 (.pure 5 (.alts (.run 17 false (.alts (.run 18 false (.alts (.run 19 false .done .nil)) .nil)) .nil))))))))) 17 (.c1 .n) ⟨Res.stay_rowx,tv⟩ [(12,(.i y4)),(11,(.i y2)),(0,(.s ch_0_0 ch_0_1 ch_0_2)),(1,(.i x2))] rfl (by kernel_rfl) fun w S CL hw le=>?_
     refine h_mv4 S CL hw le rfl tv tv tv tv fun a S CL=>h_mv1 S CL hw le rfl tv fun a S CL=>h_bin S CL hw le (subR rfl) rfl rfl rfl rfl rfl tv fun a S CL=>?_
     obtain ⟨c3,h1⟩:=chk_of h0; clear h0
     refine h_iaddrX S CL hw le (subR rfl) (ty':=g.T) rfl .h rfl h.hU h.hT c3.1 c3.2 rfl rfl tv fun g16 a hA1 S CL=>h_ldXW S CL hw le (subR rfl) (i:=(wr .i64 (x2+y4))) rfl hA1 .h h.hT c3.1 c3.2 rfl rfl rfl tv fun ch9 a S CL=>h_mv2 S CL hw le rfl tv tv fun a S CL=>?_
     obtain ⟨c4,h2⟩:=chk_of h1; clear h1
     refine h_iaddrX S CL hw le (subR rfl) (ty':=g.T) rfl .h rfl h.hU h.hT c4.1 c4.2 rfl rfl tv fun g17 a hA2 S CL=>h_ldXW S CL hw le (subR rfl) (i:=y2) rfl hA2 .h h.hT c4.1 c4.2 rfl rfl rfl tv fun ch10 a S CL=>h_iaddrX S CL hw le (subR rfl) (ty':=g.T) rfl .h rfl h.hU h.hT c4.1 c4.2 rfl rfl tv fun g18 a hA3 S CL=>p_move S rfl rfl rfl tv fun a S=>p_move S rfl rfl rfl tv fun a S=>p_move S rfl rfl rfl tv fun a S=>p_bin S rfl rfl rfl rfl rfl tv fun a S=>h_run' S rfl tv ?_
     replace S:=S.rowu .h1
     refine s_stRW S (i:=y2) (u:=gt y1 (wr .i64 (x2+y4))) (cu:=ch9) rfl rfl hA3 .h1 h.hT c4.1 c4.2 rfl fun w S=>?_
     refine h_back ⟨fun h=>(nomatch h),?_⟩
     refine h_run' S rfl tv ?_
     obtain ⟨c5,h3⟩:=chk_of h2; clear h2
     refine s_iaddrO S (ty':=g.T) rfl .h1 rfl h.hU h.hT c5.1 c5.2 rfl fun g19 a hA4 S=>?_
     refine h_back ⟨fun h=>(nomatch h),?_⟩
     refine h_run' S rfl tv (s_stRW S (i:=(wr .i64 (x2+y4))) (u:=gt y1 y2) (cu:=ch10) rfl rfl hA4 .h1 h.hT c5.1 c5.2 rfl fun w S=>?_)
     refine h_back ⟨fun h=>(nomatch h),?_⟩
     refine h_done ?_; clear CL hw le
     refine x_blockN (x_thenN (c_region' (s_mv1 S rfl fun a S=>s_bi S rfl fun a S=>s_as1 S rfl fun a S=>c_end' (x_thenN ?_))))
     exact ⟨_,((y1.set (Int.toNat y2) (gt y1 (wr .i64 (x2+y4)))).set (Int.toNat (wr .i64 (x2+y4))) (gt y1 y2)),(wr .i64 (y2+1)),g15,t4.2,(S.sb rfl (.c0 (.c0 .n))),h3⟩
    refine c_region (s_mv2 S rfl fun a S=>s_bi S rfl fun a S=>c_end ?_)
    rcases ite_of h2 with ⟨c6,h3⟩ | ⟨c6,h3⟩
    ·refine c_condT S rfl c6 (c_region' (s_mv2 S rfl fun a S=>s_bi S rfl fun a S=>s_as1 S rfl fun a S=>c_end' (x_thenN ?_)))
     exact j1 _ (wr .i64 ((wr .i64 (bits .and .u64 t4.1 (wr .u64 (t1 - 1)))) - (wr .i64 (x3 - x2)))) g14 a w (S.sb rfl (.c0 (.c0 .n))) h3
    ·refine c_condF S rfl c6 (wp_skip (x_thenN ?_))
     exact j1 _ (wr .i64 (bits .and .u64 t4.1 (wr .u64 (t1 - 1)))) g14 a w (S.sb rfl (.c0 (.c0 .n))) h3
   ·refine c_condF S rfl c2 (wp_exit (x_thenX (x_thenX (x_blockX (b_end ?_)))))
    obtain rfl:=sI h1
    exact b_ret0 S rfl (S.retX (Hx:=[]) hb _ _ (():Unit) (.c1 .n) tv)
 ·refine c_condF S rfl c1 (wp_skip (b_end ?_))
  obtain rfl:=sI h1
  exact b_ret0 S rfl (S.retX (Hx:=[]) hb _ _ (():Unit) (.c0 .n) tv)
abbrev fc3_.Ty (g:SortG):Type:=(List g.α)→Int→Int→Int→Option (List g.α)
def fc3_.Ctr (g:SortG)(s:fc3_.Ty g):Prop:=∀ {x1:List g.α} {x2:Int} {x3:Int} {x4:Int} {ch_0_0:Option Addr} {ch_0_1:Nat} {ch_0_2:Nat} {r:List g.α} (h0:s x1 x2 x3 x4=some r) {mi:Mem} {w0:World},CtrB Try.prog (g.φ 53) [(.s ch_0_0 ch_0_1 ch_0_2),(.i x2),(.i x3),(.i x4),(.v (.func (.func g.fc) #[] #[]))] [Res.row g.T g.e ch_0_0 ch_0_1 ch_0_2 x1] (fun (ch:Unit)=>((.tup []):D)) (fun (ch:Unit)=>[Res.row g.T g.e ch_0_0 ch_0_1 ch_0_2 r]) mi w0
def fc3_.j4 (g:SortG)(k:Nat)(self0:fc3_.Ty g)(y2:Bool)(y3:Bool)(y4:Int)(y5:Int)(rec1:(List g.α)→Bool→Bool→Int→Int→Int→Option (List g.α))(y8:Int)(y11:Int)(y13:List g.α)(y14:Bool):Option (List g.α):=if y14=true then ((fa3_.f g k y13 y4 y5 y11).bind fun t8=>(rec1 t8.2 y2 y3 t8.1 y5 y8)) else ((fb4_.f g k y13 y4 y5 y11).bind fun t9=>(if (decide ((wr .i64 (t9.1 - y4))<(wr .i64 (y5 - t9.1))))=true then ((self0 t9.2.2 y4 t9.1 y8).bind fun t10=>(rec1 t10 t9.2.1 (decide ((wr .i64 (Int.tdiv (wr .i64 (y5 - y4)) 8))≤(wr .i64 (t9.1 - y4)))) (wr .i64 (t9.1+1)) y5 y8)) else ((self0 t9.2.2 (wr .i64 (t9.1+1)) y5 y8).bind fun t11=>(rec1 t11 t9.2.1 (decide ((wr .i64 (Int.tdiv (wr .i64 (y5 - y4)) 8))≤(wr .i64 (y5 - t9.1)))) y4 t9.1 y8))))
def fc3_.j3 (g:SortG)(k:Nat)(self0:fc3_.Ty g)(y2:Bool)(y3:Bool)(y4:Int)(y5:Int)(rec1:(List g.α)→Bool→Bool→Int→Int→Int→Option (List g.α))(y8:Int)(y11:Int)(y13:List g.α):Option (List g.α):=if (decide (0<y4))=true then (if (0:Int)≤(wr .i64 (y4 - 1))∧(wr .i64 (y4 - 1))<((y13).length:Int) then (if (0:Int)≤y11∧y11<((y13).length:Int) then ((g.cmp k (gt y13 (wr .i64 (y4 - 1))) (gt y13 y11)).bind fun t12=>(fc3_.j4 g k self0 y2 y3 y4 y5 rec1 y8 y11 y13 (!(decide (t12<0))))) else none) else none) else (fc3_.j4 g k self0 y2 y3 y4 y5 rec1 y8 y11 y13 false)
def fc3_.j5 (g:SortG)(k:Nat)(self0:fc3_.Ty g)(y2:Bool)(y3:Bool)(y4:Int)(y5:Int)(rec1:(List g.α)→Bool→Bool→Int→Int→Int→Option (List g.α))(y8:Int)(y9:List g.α)(y11:Int)(y15:Bool):Option (List g.α):=if y15=true then ((fa_.f g k y9 y4 y5).bind fun t13=>(if t13.1=true then (some t13.2) else (fc3_.j3 g k self0 y2 y3 y4 y5 rec1 y8 y11 t13.2))) else (fc3_.j3 g k self0 y2 y3 y4 y5 rec1 y8 y11 y9)
def fc3_.j2 (g:SortG)(k:Nat)(self0:fc3_.Ty g)(y2:Bool)(y3:Bool)(y4:Int)(y5:Int)(rec1:(List g.α)→Bool→Bool→Int→Int→Int→Option (List g.α))(y8:Int)(y9:List g.α)(y10:Int)(y11:Int):Option (List g.α):=if y3=true then (if y2=true then (fc3_.j5 g k self0 y2 y3 y4 y5 rec1 y8 y9 y11 (y10==1)) else (fc3_.j5 g k self0 y2 y3 y4 y5 rec1 y8 y9 y11 false)) else (fc3_.j5 g k self0 y2 y3 y4 y5 rec1 y8 y9 y11 false)
def fc3_.j1 (g:SortG)(k:Nat)(self0:fc3_.Ty g)(y2:Bool)(y3:Bool)(y4:Int)(y5:Int)(rec1:(List g.α)→Bool→Bool→Int→Int→Int→Option (List g.α))(y7:List g.α)(y8:Int):Option (List g.α):=(fa7_.f g k y7 y4 y5).bind fun t4=>(if (t4.2==2)=true then ((fa6_.f g k y7 y4 y5).bind fun t14=>(fc3_.j2 g k self0 y2 y3 y4 y5 rec1 y8 t14 1 (wr .i64 ((wr .i64 (y5 - 1)) - (wr .i64 (t4.1 - y4)))))) else (fc3_.j2 g k self0 y2 y3 y4 y5 rec1 y8 y7 t4.2 t4.1))
def fc3_.b1 (g:SortG)(k:Nat)(self0:fc3_.Ty g)(rec1:(List g.α)→Bool→Bool→Int→Int→Int→Option (List g.α))(y1:List g.α)(y2:Bool)(y3:Bool)(y4:Int)(y5:Int)(y6:Int):Option (List g.α):=if (decide ((wr .i64 (y5 - y4))≤12))=true then ((fa5_.f g k y1 y4 y5).bind fun t1=>(some t1)) else (if (y6==0)=true then ((fc1_.f g k y1 y4 y5).bind fun t2=>(some t2)) else (if (!y3)=true then ((fa4_.f g k y1 y4 y5).bind fun t15=>(fc3_.j1 g k self0 y2 y3 y4 y5 rec1 t15 (wr .i64 (y6 - 1)))) else (fc3_.j1 g k self0 y2 y3 y4 y5 rec1 y1 y6)))
def fc3_.l1 (g:SortG)(k:Nat)(self0:fc3_.Ty g):Nat→(List g.α)→Bool→Bool→Int→Int→Int→Option (List g.α)
  | 0,_,_,_,_,_,_=>none
  | q+1,y1,y2,y3,y4,y5,y6=>fc3_.b1 g k self0 (fc3_.l1 g k self0 q) y1 y2 y3 y4 y5 y6
def fc3_.body (g:SortG)(self0:fc3_.Ty g)(k:Nat)(x1:List g.α)(x2:Int)(x3:Int)(x4:Int):Option (List g.α):=fc3_.l1 g k self0 k x1 true true x2 x3 x4
theorem fc3_.okb (g:SortG)(h:SortG.Ok g)(self0:fc3_.Ty g)(c_0:fc3_.Ctr g self0)(k:Nat):fc3_.Ctr g (fc3_.body g self0 k):=by
 intro x1 x2 x3 x4 ch_0_0 ch_0_1 ch_0_2 r h0 mi w0 ok hm
 delta fc3_.body at h0
 refine c_enterG (n:=148) [(.s ch_0_0 ch_0_1 ch_0_2),(.i x2),(.i x3),(.i x4),(.v (.func (.func g.fc) #[] #[]))] (l:=[(0,(.s ch_0_0 ch_0_1 ch_0_2)),(1,(.i x2)),(2,(.i x3)),(3,(.i x4)),(4,(.v (.func (.func g.fc) #[] #[])))]) h.n53 rfl rfl rfl ok hm ?_
 clear ok hm
 intro b0 hb a S
 refine c_region (s_as1 S rfl fun a S=>c_end (c_region (s_as1 S rfl fun a S=>c_end (wp_block ?_))))
 refine c_loop (fun q1 a w=>∃ m y1 y2 y3 y4 y5 y6,St 148 m b0 [(11,(.b y2)),(10,(.b y3)),(0,(.s ch_0_0 ch_0_1 ch_0_2)),(1,(.i y4)),(2,(.i y5)),(3,(.i y6)),(4,(.v (.func (.func g.fc) #[] #[])))] [Res.row g.T g.e ch_0_0 ch_0_1 ch_0_2 y1] a w∧fc3_.l1 g k self0 q1 y1 y2 y3 y4 y5 y6=some r) ?_ ?_ (k:=k) ⟨_,x1,true,true,x2,x3,x4,(S.sb rfl (.c0 .n)),h0⟩
 ·rintro a w ⟨m,y1,y2,y3,y4,y5,y6,S,h0⟩
  exact (nomatch (show (none:Option (List g.α))=some r from h0))
 ·clear S h0
  rintro q1 a w ⟨m,y1,y2,y3,y4,y5,y6,S,h0⟩
  replace h0:fc3_.b1 g k self0 (fc3_.l1 g k self0 q1) y1 y2 y3 y4 y5 y6=some r:=h0
  delta fc3_.b1 at h0
  refine wp_block (c_region (s_mv2 S rfl fun a S=>s_bi S rfl fun a S=>s_as1 S rfl fun a S=>c_end (wp_seq (c_region (s_mv1 S rfl fun a S=>s_bi S rfl fun a S=>c_end ?_)))))
  rcases ite_of h0 with ⟨c1,h1⟩ | ⟨c1,h1⟩
  ·refine c_condT S rfl c1 (c_region (s_mv4 S rfl fun a S=>bindX h1 fun t1 et1 h2=>s_callK S (fa5_.ok g h k et1) h.n67.fn rfl .pre (fun _=> .c1) rfl fun ch1 m le1 a w S=>c_end (wp_ret (x_thenR (x_blockR (x_thenR (x_blockR ?_)))))))
   obtain rfl:=sI h2
   exact b_ret0 S rfl (S.retX (Hx:=[]) hb _ _ (():Unit) (.c0 .n) tv)
  ·refine c_condF S rfl c1 (wp_skip (x_thenN (wp_seq (c_region (s_mv1 S rfl fun a S=>s_bi S rfl fun a S=>c_end ?_)))))
   rcases ite_of h1 with ⟨c2,h2⟩ | ⟨c2,h2⟩
   ·refine c_condT S rfl c2 (c_region (s_mv4 S rfl fun a S=>bindX h2 fun t2 et2 h3=>s_callK S (fc1_.ok g h k et2) h.n68.fn rfl .pre (fun _=> .c1) rfl fun ch2 m le1 a w S=>c_end (wp_ret (x_thenR (x_blockR (x_thenR (x_blockR ?_)))))))
    obtain rfl:=sI h3
    exact b_ret0 S rfl (S.retX (Hx:=[]) hb _ _ (():Unit) (.c0 .n) tv)
   ·refine c_condF S rfl c2 (wp_skip (x_thenN (wp_seq_k fun K1 hK1=>?_)))
    have j1:∀ m y7 y8 a w,St 148 m b0 [(3,(.i y8)),(12,(.i (wr .i64 (y5 - y4)))),(11,(.b y2)),(10,(.b y3)),(0,(.s ch_0_0 ch_0_1 ch_0_2)),(1,(.i y4)),(2,(.i y5)),(4,(.v (.func (.func g.fc) #[] #[])))] [Res.row g.T g.e ch_0_0 ch_0_1 ch_0_2 y7] a w→fc3_.j1 g k self0 y2 y3 y4 y5 (fc3_.l1 g k self0 q1) y7 y8=some r→K1 a w:=by
     intro m y7 y8 a w S h0
     delta fc3_.j1 at h0
     refine hK1 a w (c_region (s_mv4 S rfl fun a S=>bindX h0 fun t4 et4 h1=>s_callK S (fa7_.ok g h k et4) h.n70.fn rfl .pre (fun _=> .c1) rfl fun ch3 m le1 a w S=>s_mv1 S rfl fun a S=>s_extract S rfl rfl rfl rfl fun a S=>s_extract S rfl rfl rfl rfl fun a S=>s_as2 S rfl fun a S=>c_end (wp_seq_k fun K2 hK2=>?_)))
     have j2:∀ m y9 y10 y11 a w,St 148 m b0 [(14,(.i y10)),(13,(.i y11)),(3,(.i y8)),(12,(.i (wr .i64 (y5 - y4)))),(11,(.b y2)),(10,(.b y3)),(0,(.s ch_0_0 ch_0_1 ch_0_2)),(1,(.i y4)),(2,(.i y5)),(4,(.v (.func (.func g.fc) #[] #[])))] [Res.row g.T g.e ch_0_0 ch_0_1 ch_0_2 y9] a w→fc3_.j2 g k self0 y2 y3 y4 y5 (fc3_.l1 g k self0 q1) y8 y9 y10 y11=some r→K2 a w:=by
      intro m y9 y10 y11 a w S h0
      delta fc3_.j2 at h0
      refine hK2 a w (wp_seq_k fun K3 hK3=>?_)
      have j3:∀ m y13 a w,St 148 m b0 [(13,(.i y11)),(3,(.i y8)),(12,(.i (wr .i64 (y5 - y4)))),(11,(.b y2)),(10,(.b y3)),(0,(.s ch_0_0 ch_0_1 ch_0_2)),(1,(.i y4)),(2,(.i y5)),(4,(.v (.func (.func g.fc) #[] #[])))] [Res.row g.T g.e ch_0_0 ch_0_1 ch_0_2 y13] a w→fc3_.j3 g k self0 y2 y3 y4 y5 (fc3_.l1 g k self0 q1) y8 y11 y13=some r→K3 a w:=by
       intro m y13 a w S h0
       delta fc3_.j3 at h0
       refine hK3 a w (wp_seq (wp_seq_k fun K4 hK4=>?_))
       have j4:∀ m y14 a w,St 148 m b0 [(97,(.b y14)),(13,(.i y11)),(3,(.i y8)),(12,(.i (wr .i64 (y5 - y4)))),(11,(.b y2)),(10,(.b y3)),(0,(.s ch_0_0 ch_0_1 ch_0_2)),(1,(.i y4)),(2,(.i y5)),(4,(.v (.func (.func g.fc) #[] #[])))] [Res.row g.T g.e ch_0_0 ch_0_1 ch_0_2 y13] a w→fc3_.j4 g k self0 y2 y3 y4 y5 (fc3_.l1 g k self0 q1) y8 y11 y13 y14=some r→K4 a w:=by
        intro m y14 a w S h0
        delta fc3_.j4 at h0
        refine hK4 a w ?_
        rcases ite_of h0 with ⟨c3,h1⟩ | ⟨c3,h1⟩
        ·refine c_condT S rfl c3 (c_region (s_mv5 S rfl fun a S=>bindX h1 fun t8 et8 h2=>s_callK S (fa3_.ok g h k et8) h.n73.fn rfl .pre (fun _=> .c1) rfl fun ch6 m le1 a w S=>s_as1 S rfl fun a S=>c_end (c_region (s_mv1 S rfl fun a S=>s_as1 S rfl fun a S=>c_end (wp_exit (x_thenX (x_blockX (x_thenN ?_))))))))
         exact ⟨_,t8.2,y2,y3,t8.1,y5,y8,(S.sb rfl (.c0 .n)),h2⟩
        ·refine c_condF S rfl c3 (wp_skip (x_thenN (c_region (s_mv5 S rfl fun a S=>bindX h1 fun t9 et9 h2=>s_callK S (fb4_.ok g h k et9) h.n74.fn rfl .pre (fun _=> .c1) rfl fun ch7 m le1 a w S=>s_mv1 S rfl fun a S=>s_extract S rfl rfl rfl rfl fun a S=>s_extract S rfl rfl rfl rfl fun a S=>s_as2 S rfl fun a S=>c_end (c_region (s_mv1 S rfl fun a S=>s_as1 S rfl fun a S=>c_end (c_region (s_mv2 S rfl fun a S=>s_bi S rfl fun a S=>s_mv2 S rfl fun a S=>s_bi S rfl fun a S=>s_as2 S rfl fun a S=>c_end (c_region (s_mv1 S rfl fun a S=>s_quo S rfl rfl (by decide) rfl fun a S=>s_as1 S rfl fun a S=>c_end (c_region (s_mv2 S rfl fun a S=>s_bi S rfl fun a S=>c_end ?_))))))))))))
         rcases ite_of h2 with ⟨c4,h3⟩ | ⟨c4,h3⟩
         ·refine c_condT S rfl c4 (c_region (s_mv2 S rfl fun a S=>s_bi S rfl fun a S=>s_as1 S rfl fun a S=>c_end (c_region (s_mv5 S rfl fun a S=>bindX h3 fun t10 et10 h4=>s_callK S (c_0 et10) h.n53.fn rfl .pre (fun _=> .c1) rfl fun ch8 m le1 a w S=>c_end (c_region' (s_mv1 S rfl fun a S=>s_bi S rfl fun a S=>s_as1 S rfl fun a S=>c_end' (x_blockN (x_thenN ?_))))))))
          exact ⟨_,t10,t9.2.1,(decide ((wr .i64 (Int.tdiv (wr .i64 (y5 - y4)) 8))≤(wr .i64 (t9.1 - y4)))),(wr .i64 (t9.1+1)),y5,y8,(S.sb rfl (.c0 .n)),h4⟩
         ·refine c_condF S rfl c4 (c_region (s_mv2 S rfl fun a S=>s_bi S rfl fun a S=>s_as1 S rfl fun a S=>c_end (c_region (s_mv2 S rfl fun a S=>s_bi S rfl fun a S=>s_mv3 S rfl fun a S=>bindX h3 fun t11 et11 h4=>s_callK S (c_0 et11) h.n53.fn rfl .pre (fun _=> .c1) rfl fun ch9 m le1 a w S=>c_end (c_region' (s_mv1 S rfl fun a S=>s_as1 S rfl fun a S=>c_end' (x_blockN (x_thenN ?_))))))))
          exact ⟨_,t11,t9.2.1,(decide ((wr .i64 (Int.tdiv (wr .i64 (y5 - y4)) 8))≤(wr .i64 (y5 - t9.1)))),y4,t9.1,y8,(S.sb rfl (.c0 .n)),h4⟩
       have hS:=S.rowx (fun _=> .h)
       clear S; obtain ⟨cs1,S⟩:=hS
       refine c_hS S (.tk 0 13 (.alts (.run 13 true (.tk 14 3 .done) .nil))) 17 (.c0 .n) ⟨Res.stay_rowx,tv⟩ [(13,(.i y11)),(0,(.s ch_0_0 ch_0_1 ch_0_2)),(1,(.i y4)),(4,(.v (.func (.func g.fc) #[] #[])))] rfl (by kernel_rfl) fun w S CL hw le=>?_
       refine h_mv1 S CL hw le rfl tv fun a S CL=>h_bin S CL hw le (subR rfl) rfl rfl rfl rfl rfl tv fun a S CL=>h_mv1 S CL hw le rfl tv fun a S CL=>?_
       rcases ite_of h0 with ⟨c5,h1⟩ | ⟨c5,h1⟩
       ·refine h_mv3 S CL hw le rfl ⟨_,_,rfl,rfl,c5⟩ ⟨_,_,rfl,rfl,c5⟩ ⟨_,_,rfl,rfl,c5⟩ fun a S CL=>h_bin S CL hw le (subR rfl) rfl rfl rfl rfl rfl ⟨_,_,rfl,rfl,c5⟩ fun a S CL=>?_
        obtain ⟨c6,h2⟩:=chk_of h1; clear h1
        refine h_iaddrX S CL hw le (subR rfl) (ty':=g.T) rfl .h rfl h.hU h.hT c6.1 c6.2 rfl rfl ⟨_,_,rfl,rfl,c5⟩ fun g1 a hA1 S CL=>h_ldXW S CL hw le (subR rfl) (i:=(wr .i64 (y4 - 1))) rfl hA1 .h h.hT c6.1 c6.2 rfl rfl rfl ⟨_,_,rfl,rfl,c5⟩ fun ch10 a S CL=>h_mv2 S CL hw le rfl ⟨_,_,rfl,rfl,c5⟩ ⟨_,_,rfl,rfl,c5⟩ fun a S CL=>?_
        obtain ⟨c7,h3⟩:=chk_of h2; clear h2
        refine h_iaddrX S CL hw le (subR rfl) (ty':=g.T) rfl .h rfl h.hU h.hT c7.1 c7.2 rfl rfl ⟨_,_,rfl,rfl,c5⟩ fun g2 a hA2 S CL=>h_ldXW S CL hw le (subR rfl) (i:=y11) rfl hA2 .h h.hT c7.1 c7.2 rfl rfl rfl ⟨_,_,rfl,rfl,c5⟩ fun ch11 a S CL=>h_run' S rfl ⟨_,_,rfl,rfl,c5⟩ (bindX h3 fun t12 et12 h4=>s_callK S (h.hcmp et12) h.nc rfl .pre (fun _=> .n) rfl fun ch12 m le1 a w S=>?_)
        replace le:=le.trans le1
        refine CL.bk hw S (.c0 .n) le fun hw=>?_
        replace CL:=CL.add (t:=94) (d:=(.i t12)) S rfl rfl
        refine h_bin S CL hw le (subR rfl) rfl rfl rfl rfl rfl ⟨_,_,rfl,rfl,c5⟩ fun a S CL=>h_not S CL hw le (subR rfl) rfl rfl rfl ⟨_,_,rfl,rfl,c5⟩ fun a S CL=>h_pick S CL hw le (subR rfl) (b:=true) (hc_of rfl c5) rfl rfl rfl tv fun a S CL=>?_
        refine h_done ?_; clear CL hw le
        replace S:=S.rowu .h
        refine x_thenN ?_
        exact j4 _ (!(decide (t12<0))) a w (S.sb rfl (.c0 .n)) h4
       ·refine h_sk8 S CL rfl (ne_bool c5) fun a S CL=>h_sk2 S CL rfl (ne_bool c5) fun a S CL=>h_skipRt S rfl rfl rfl (ne_bool c5) rfl fun a S=>CL.bk hw S (.c0 .n) le fun hw=>?_
        replace CL:=CL.add (t:=94) (d:= .u) S rfl rfl
        refine h_sk2 S CL rfl (ne_bool c5) fun a S CL=>h_pick S CL hw le (subR rfl) (b:=false) (hc_of rfl c5) rfl rfl rfl tv fun a S CL=>?_
        refine h_done ?_; clear CL hw le
        replace S:=S.rowu .h
        refine x_thenN ?_
        exact j4 _ false a w (S.sb rfl (.c0 .n)) h1
      refine wp_seq_k fun K5 hK5=>?_
      have j5:∀ m y15 a w,St 148 m b0 [(75,(.b y15)),(13,(.i y11)),(3,(.i y8)),(12,(.i (wr .i64 (y5 - y4)))),(11,(.b y2)),(10,(.b y3)),(0,(.s ch_0_0 ch_0_1 ch_0_2)),(1,(.i y4)),(2,(.i y5)),(4,(.v (.func (.func g.fc) #[] #[])))] [Res.row g.T g.e ch_0_0 ch_0_1 ch_0_2 y9] a w→fc3_.j5 g k self0 y2 y3 y4 y5 (fc3_.l1 g k self0 q1) y8 y9 y11 y15=some r→K5 a w:=by
       intro m y15 a w S h0
       delta fc3_.j5 at h0
       refine hK5 a w ?_
       rcases ite_of h0 with ⟨c8,h1⟩ | ⟨c8,h1⟩
       ·refine c_condT S rfl c8 (c_region (s_mv4 S rfl fun a S=>bindX h1 fun t13 et13 h2=>s_callK S (fa_.ok g h k et13) h.n72.fn rfl .pre (fun _=> .c1) rfl fun ch13 m le1 a w S=>c_end ?_))
        rcases ite_of h2 with ⟨c9,h3⟩ | ⟨c9,h3⟩
        ·refine c_condT S rfl c9 (wp_ret (x_thenR (x_blockR (x_thenR (x_blockR ?_)))))
         obtain rfl:=sI h3
         exact b_ret0 S rfl (S.retX (Hx:=[]) hb _ _ (():Unit) (.c0 .n) tv)
        ·refine c_condF S rfl c9 (wp_skip (x_thenN ?_))
         exact j3 _ t13.2 a w (S.sb rfl (.c0 .n)) h3
       ·refine c_condF S rfl c8 (wp_skip (x_thenN ?_))
        exact j3 _ y9 a w (S.sb rfl (.c0 .n)) h1
      refine c_region' (s_mv2 S rfl fun a S=>?_)
      rcases ite_of h0 with ⟨c10,h1⟩ | ⟨c10,h1⟩
      ·refine s_gT S (b:=y3) rfl rfl c10 (s_mv1 S rfl fun a S=>s_pick S (b:=true) (hc_of rfl c10) rfl rfl fun a S=>s_mv1 S rfl fun a S=>?_)
       rcases ite_of h1 with ⟨c11,h2⟩ | ⟨c11,h2⟩
       ·refine s_gT S (b:=y2) rfl rfl c11 (s_mv1 S rfl fun a S=>s_gT S (b:=y2) rfl rfl c11 (s_bi S rfl fun a S=>s_pick S (b:=true) (hc_of rfl c11) rfl rfl fun a S=>c_end' (x_thenN ?_)))
        exact j5 _ (y10==1) a w (S.sb rfl (.c0 .n)) h2
       ·refine s_gF S (b:=y2) rfl rfl c11 rfl fun a S=>s_gF S (b:=y2) rfl rfl c11 rfl fun a S=>s_pick S (b:=false) (hc_of rfl c11) rfl rfl fun a S=>c_end' (x_thenN ?_)
        exact j5 _ false a w (S.sb rfl (.c0 .n)) h2
      ·refine s_gF S (b:=y3) rfl rfl c10 rfl fun a S=>s_pick S (b:=false) (hc_of rfl c10) rfl rfl fun a S=>s_mv1 S rfl fun a S=>s_gF S (b:=false) rfl rfl rfl rfl fun a S=>s_gF S (b:=false) rfl rfl rfl rfl fun a S=>s_pick S (b:=false) (hc_of rfl rfl) rfl rfl fun a S=>c_end' (x_thenN ?_)
       exact j5 _ false a w (S.sb rfl (.c0 .n)) h1
     refine c_region (s_mv1 S rfl fun a S=>s_bi S rfl fun a S=>c_end ?_)
     rcases ite_of h1 with ⟨c12,h2⟩ | ⟨c12,h2⟩
     ·refine c_condT S rfl c12 (c_region (s_mv4 S rfl fun a S=>bindX h2 fun t14 et14 h3=>s_callK S (fa6_.ok g h k et14) h.n71.fn rfl .pre (fun _=> .c1) rfl fun ch14 m le1 a w S=>c_end (c_region (s_mv1 S rfl fun a S=>s_bi S rfl fun a S=>s_mv2 S rfl fun a S=>s_bi S rfl fun a S=>s_bi S rfl fun a S=>s_as1 S rfl fun a S=>c_end (c_region' (s_as1 S rfl fun a S=>c_end' (x_thenN ?_)))))))
      exact j2 _ t14 1 (wr .i64 ((wr .i64 (y5 - 1)) - (wr .i64 (t4.1 - y4)))) a w (S.sb rfl (.c0 .n)) h3
     ·refine c_condF S rfl c12 (wp_skip (x_thenN ?_))
      exact j2 _ y7 t4.2 t4.1 a w (S.sb rfl (.c0 .n)) h2
    refine c_region (s_mv1 S rfl fun a S=>s_not S rfl rfl fun a S=>c_end ?_)
    rcases ite_of h2 with ⟨c13,h3⟩ | ⟨c13,h3⟩
    ·refine c_condT S rfl c13 (c_region (s_mv4 S rfl fun a S=>bindX h3 fun t15 et15 h4=>s_callK S (fa4_.ok g h k et15) h.n69.fn rfl .pre (fun _=> .c1) rfl fun ch15 m le1 a w S=>c_end (c_region' (s_mv1 S rfl fun a S=>s_bi S rfl fun a S=>s_as1 S rfl fun a S=>c_end' (x_thenN ?_)))))
     exact j1 _ t15 (wr .i64 (y6 - 1)) a w (S.sb rfl (.c0 .n)) h4
    ·refine c_condF S rfl c13 (wp_skip (x_thenN ?_))
     exact j1 _ y1 y6 a w (S.sb rfl (.c0 .n)) h3
def fc3_.f (g:SortG):Nat→fc3_.Ty g
  | 0=>fun _ _ _ _=>none
  | k+1=>fc3_.body g (fc3_.f g k) k
theorem fc3_.oks (g:SortG)(h:SortG.Ok g)(k:Nat):fc3_.Ctr g (fc3_.f g k):=by
  induction k with
  | zero=>exact (by intro _ _ _ _ _ _ _ r h0; exact (nomatch (show (none:Option (List g.α))=some r from h0)))
  | succ k ih =>
    exact fc3_.okb g h (fc3_.f g k) ih k
theorem fc3_.ok (g:SortG)(h:SortG.Ok g)(k:Nat):fc3_.Ctr g (fc3_.f g k):=(fc3_.oks g h k)
abbrev ff5_.Ty (g:SortG):Type:=(List g.α)→Option (List g.α)
def ff5_.Ctr (g:SortG)(s:ff5_.Ty g):Prop:=∀ {x1:List g.α} {ch_0_0:Option Addr} {ch_0_1:Nat} {ch_0_2:Nat} {r:List g.α} (h0:s x1=some r) {mi:Mem} {w0:World},CtrB Try.prog (g.φ 42) [(.s ch_0_0 ch_0_1 ch_0_2),(.v (.func (.func g.fc) #[] #[]))] [Res.row g.T g.e ch_0_0 ch_0_1 ch_0_2 x1] (fun (ch:Unit)=>((.tup []):D)) (fun (ch:Unit)=>[Res.row g.T g.e ch_0_0 ch_0_1 ch_0_2 r]) mi w0
def ff5_.f (g:SortG)(k:Nat)(x1:List g.α):Option (List g.α):=(fg0_.f (wr .u64 ((x1).length:Int))).bind fun t1=>((fc3_.f g k x1 0 ((x1).length:Int) t1).bind fun t2=>(some t2))
theorem ff5_.ok (g:SortG)(h:SortG.Ok g)(k:Nat):ff5_.Ctr g (ff5_.f g k):=by
 intro x1 ch_0_0 ch_0_1 ch_0_2 r h0 mi w0 ok hm
 delta ff5_.f at h0
 refine c_enterG (n:=14) [(.s ch_0_0 ch_0_1 ch_0_2),(.v (.func (.func g.fc) #[] #[]))] (l:=[(0,(.s ch_0_0 ch_0_1 ch_0_2)),(1,(.v (.func (.func g.fc) #[] #[])))]) h.n42 rfl rfl rfl ok hm ?_
 clear ok hm
 intro b0 hb a S
 refine c_region (s_mv1 S rfl fun a S=>s_lenO S rfl .h h.hU rfl fun a S=>s_as1 S rfl fun a S=>c_end (c_region' (s_mv3 S rfl fun a S=>s_conv S rfl rfl underlying100 rfl fun a S=>bindX h0 fun t1 et1 h1=>s_callK S (fg0_.ok et1) N48 rfl .pre (fun _=> .n) rfl fun ch1 m le1 a w S=>s_mv1 S rfl fun a S=>bindX h1 fun t2 et2 h2=>s_callK S (fc3_.ok g h k et2) h.n53.fn rfl .pre (fun _=> .c1) rfl fun ch2 m le1 a w S=>c_end' (b_end ?_))))
 obtain rfl:=sI h2
 exact b_ret0 S rfl (S.retX (Hx:=[]) hb _ _ (():Unit) (.c0 .n) tv)
def lexW (a b:List Int):Int:=if a=b then 0 else if rd a 3=rd b 3 then if rd a 2=rd b 2 then if rd a 1=rd b 1 then if rd a 0<rd b 0 then -1 else 1 else if rd a 1<rd b 1 then -1 else 1 else if rd a 2<rd b 2 then -1 else 1 else if rd a 3<rd b 3 then -1 else 1
theorem lexW_j (a b:List Int){i:Int}(hi:(0:Int)≤i∧i<4):ff_.j1 a b i=some (if rd a i<rd b i then -1 else 1):=by
  unfold ff_.j1
  rw [iP hi]
  by_cases c:rd a i<rd b i
  · rw [iP (dT c),iP c]
  · rw [iN (by simpa using c),iN c]
theorem lexW_b (a b:List Int)(rec1:Int→Option Int){i:Int}(hi:(0:Int)≤i∧i<4):ff_.b1 a b rec1 i=if rd a i=rd b i then rec1 (wr .i64 (i - 1)) else some (if rd a i<rd b i then -1 else 1):=by
  unfold ff_.b1
  rw [iP hi,lexW_j a b hi]
  by_cases c:rd a i=rd b i
  · rw [iP (by simpa using c),iP c]
  · rw [iN (by simpa using c),iN c]
theorem lexW_eq {a b:List Int}(ha:a.length=4)(hb:b.length=4):ff_.f 5 a b=some (lexW a b):=by
  unfold ff_.f lexW
  by_cases e:a=b
  · rw [iP (dT e),iP e]
  rw [iN (by simpa using e),iN e]
  have h0:rd a 3=rd b 3→rd a 2=rd b 2→rd a 1=rd b 1→¬ rd a 0=rd b 0:=fun h3 h2 h1 h0=>e (by
    match a,ha,b,hb with
    | [a0,a1,a2,a3],_,[b0,b1,b2,b3],_ =>
      have e0:a0=b0:=h0
      have e1:a1=b1:=h1
      have e2:a2=b2:=h2
      have e3:a3=b3:=h3
      rw [e0,e1,e2,e3])
  show ff_.b1 a b (ff_.b1 a b (ff_.b1 a b (ff_.b1 a b (ff_.l1 a b 1)))) 3=_
  rw [lexW_b a b _ (by omega),show wr .i64 ((3:Int) - 1)=2 from rfl,lexW_b a b _ (by omega),show wr .i64 ((2:Int) - 1)=1 from rfl,lexW_b a b _ (by omega),show wr .i64 ((1:Int) - 1)=0 from rfl,lexW_b a b _ (by omega)]
  split
  · split
    · split
      · rename_i h3 h2 h1
        rw [iN (h0 h3 h2 h1)]
      · rfl
    · rfl
  · rfl
abbrev G1:SortG:={ α:=(List Int)×(List Int),inh:=inferInstance,T:=Y82,e:=82,s:=37,c:=95,φ:=fun f=>f,fc:=43,cmp:=fun _ x y=>some (lexW x.1 y.1) }
theorem H1:SortG.Ok G1 where
  hT:=T82
  hU:=underlying37
  hcmp:=fun {k x y cx cy r} e {mi w0} ok=>fb2_.ok 5 (show fb2_.f 5 x y=some r by unfold fb2_.f; rw [lexW_eq (show x.1.length=4 from ok.1.1) (show y.1.length=4 from ok.2.1.1),oB]; exact e) ok
  nc:=N43
  n67:=⟨⟨_,func67,by kernel_rfl,rfl,by kernel_rfl,by decide⟩⟩
  n80:=⟨⟨_,func80,by kernel_rfl,rfl,by kernel_rfl,by decide⟩⟩
  n68:=⟨⟨_,func68,by kernel_rfl,rfl,by kernel_rfl,by decide⟩⟩
  n69:=⟨⟨_,func69,by kernel_rfl,rfl,by kernel_rfl,by decide⟩⟩
  n84:=⟨⟨_,func84,by kernel_rfl,rfl,by kernel_rfl,by decide⟩⟩
  n82:=⟨⟨_,func82,by kernel_rfl,rfl,by kernel_rfl,by decide⟩⟩
  n81:=⟨⟨_,func81,by kernel_rfl,rfl,by kernel_rfl,by decide⟩⟩
  n70:=⟨⟨_,func70,by kernel_rfl,rfl,by kernel_rfl,by decide⟩⟩
  n71:=⟨⟨_,func71,by kernel_rfl,rfl,by kernel_rfl,by decide⟩⟩
  n72:=⟨⟨_,func72,by kernel_rfl,rfl,by kernel_rfl,by decide⟩⟩
  n73:=⟨⟨_,func73,by kernel_rfl,rfl,by kernel_rfl,by decide⟩⟩
  n74:=⟨⟨_,func74,by kernel_rfl,rfl,by kernel_rfl,by decide⟩⟩
  n53:=⟨⟨_,func53,by kernel_rfl,rfl,by kernel_rfl,by decide⟩⟩
  n42:=⟨⟨_,func42,by kernel_rfl,rfl,by kernel_rfl,by decide⟩⟩
end
end GW
