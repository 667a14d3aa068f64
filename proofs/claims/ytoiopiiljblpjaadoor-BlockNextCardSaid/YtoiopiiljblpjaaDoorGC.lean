import Derived.Test.YtoiopiiljblpjaaDoorProg
import Derived.Test.YtoiopiiljblpjaaDoorGB
set_option linter.unusedVariables false
set_option maxRecDepth 10000
namespace GW
open Go Go.RowKit Go.Proofs Go.Proofs.Tryd
abbrev fee_Step.Ty : Type := (List Int) → Int → Int → Option ((List Int))
def fee_Step.Ctr (s : fee_Step.Ty) : Prop := ∀ (x1 : List Int) (x2 : Int) (x3 : Int) (r : (List Int)), Ct (C := Unit) Tryd.prog 52 (s x1 x2 x3 = some r) [] [(.a4 x1), (.w x2), (.w x3)] (fun _ => (.a4 r)) fun _ => []
def fee_Step.j1 (k : Nat) (x3 : Int) (y1 : List Int) (y2 : List Int) : Option ((List Int)) := (word_Of.f x3).bind fun t1 => ((word_Of.f 8).bind fun t2 => ((wide_Product.f k t1 t2).bind fun t3 => (if (!(decide (t3.2 = [0, 0, 0, 0]))) = true then (some [0, 0, 0, 0]) else ((fee_quotient.f k y2 y1 t3.1).bind fun t4 => (some t4)))))
def fee_Step.f (k : Nat) (x1 : List Int) (x2 : Int) (x3 : Int) : Option ((List Int)) := if (x3 == 0) = true then (some [0, 0, 0, 0]) else ((word_Of.f x2).bind fun t5 => ((wide_Product.f k x1 t5).bind fun t6 => (fee_Step.j1 k x3 t6.2 t6.1)))
theorem fee_Step.ok (k : Nat) : fee_Step.Ctr (fee_Step.f k) := by
 intro x1 x2 x3 r h0 mi w0 ok hm
 delta fee_Step.f at h0
 refine c_enterZ (n := 36) ok hm func52 rfl rfl rfl fun b0 hb a S => c_region (s_box S rfl rfl rfl fun g1 a w S => s_alloc S Z26 rfl ⟨rfl, trivial⟩ rfl fun g2 a w S => c_end (wp_seq (c_region (s_move S rfl rfl fun a S => s_bin S rfl rfl rfl rfl fun a S => c_end ?_))))
 rcases ite_of h0 with ⟨c1, h1⟩ | ⟨c1, h1⟩
 ·refine c_condT S rfl c1 (c_region (s_build S (ds := []) (dv := (.a4 [0, 0, 0, 0])) rfl (fun _ => by kernel_rfl) ⟨rfl, trivial⟩ rfl fun a S => s_store S rfl rfl rfl (s' := [.w4 [0, 0, 0, 0]]) .h T26 rfl rfl fun w S => c_end (wp_ret (x_thenR ?_))))
  obtain rfl := Option.some.inj h1
  exact b_ret1 (d := (.a4 [0, 0, 0, 0])) S rfl (resD_cell rfl .h T26 rfl rfl) (S.rt hb)
 ·refine c_condF S rfl c1 (wp_skip (x_thenN (wp_seq_k fun K1 hK1 => ?_)))
  have j1 : ∀ m g5 g6 g7 y1 y2 a w, St 36 m b0 [(8, (.p g5)), (7, (.p g6)), (6, (.p g7)), (2, (.w x3))] [Res.cells g5 26 [.w4 y1], Res.cells g6 26 [.w4 y2], Res.cells g7 26 [.w4 [0, 0, 0, 0]]] a w → fee_Step.j1 k x3 y1 y2 = some r → K1 a w := by
   intro m g5 g6 g7 y1 y2 a w S h0
   delta fee_Step.j1 at h0
   refine hK1 a w (c_region (s_move S rfl rfl fun a S => bindX h0 fun t1 et1 h1 => s_callP S _ N43 rfl rfl (word_Of.ok x3 t1 et1 _ _) fun ch1 m le1 a w S => bindX h1 fun t2 et2 h2 => s_callP S _ N43 rfl rfl (word_Of.ok 8 t2 et2 _ _) fun ch2 m le1 a w S => bindX h2 fun t3 et3 h3 => s_callP S _ N72 rfl rfl (wide_Product.ok k t1 t2 t3 et3 _ _) fun ch3 m le1 a w S => s_move S rfl rfl fun a S => s_extract S rfl rfl rfl rfl fun a S => s_extract S rfl rfl rfl rfl fun a S => s_alloc S Z26 rfl ⟨rfl, trivial⟩ rfl fun g8 a w S => s_alloc S Z26 rfl ⟨rfl, trivial⟩ rfl fun g9 a w S => s_store S rfl rfl rfl (s' := [.w4 t3.1]) .h1 T26 rfl rfl fun w S => s_store S rfl rfl rfl (s' := [.w4 t3.2]) .h T26 rfl rfl fun w S => c_end (wp_seq (c_region (s_loada S rfl .h T26 (s' := [.w4 t3.2]) rfl rfl fun a S => s_build S (ds := []) (dv := (.a4 [0, 0, 0, 0])) rfl (fun _ => by kernel_rfl) ⟨rfl, trivial⟩ rfl fun a S => s_nea S rfl rfl underlying26 underlying24 T24 Q26 rfl fun a S => c_end ?_)))))
   rcases ite_of h3 with ⟨c2, h4⟩ | ⟨c2, h4⟩
   ·refine c_condT S rfl c2 (c_region (s_build S (ds := []) (dv := (.a4 [0, 0, 0, 0])) rfl (fun _ => by kernel_rfl) ⟨rfl, trivial⟩ rfl fun a S => s_store S rfl rfl rfl (s' := [.w4 [0, 0, 0, 0]]) .h4 T26 rfl rfl fun w S => c_end (wp_ret (x_thenR ?_))))
    obtain rfl := Option.some.inj h4
    exact b_ret1 (d := (.a4 [0, 0, 0, 0])) S rfl (resD_cell rfl .h4 T26 rfl rfl) (S.rt hb)
   ·refine c_condF S rfl c2 (wp_skip (x_thenN (c_region (s_loada S rfl .h3 T26 (s' := [.w4 y2]) rfl rfl fun a S => s_loada S rfl .h2 T26 (s' := [.w4 y1]) rfl rfl fun a S => s_loada S rfl .h1 T26 (s' := [.w4 t3.1]) rfl rfl fun a S => bindX h4 fun t4 et4 h5 => s_callP S _ N73 rfl rfl (fee_quotient.ok k y2 y1 t3.1 t4 et4 _ _) fun ch4 m le1 a w S => s_store S rfl rfl rfl (s' := [.w4 t4]) .h4 T26 rfl rfl fun w S => c_end (wp_ret ?_)))))
    obtain rfl := Option.some.inj h5
    exact b_ret1 (d := (.a4 t4)) S rfl (resD_cell rfl .h4 T26 rfl rfl) (S.rt hb)
  refine c_heldS S (.take 0 (.take 1 (.alts (.run 2 true (.alts (.run 3 true (.take 4 (.take 5 (.take 6 (.alts (.run 7 true (.alts (.run 8 true (.alts (.run 9 true (.alts (.run 10 false .done .nil)) .nil)) .nil)) (.run 8 true (.alts (.run 7 true (.alts (.run 9 true (.alts (.run 10 false .done .nil)) .nil)) .nil)) .nil)))))) (.run 7 true (.alts (.run 3 true (.take 4 (.take 5 (.take 6 (.alts (.run 8 true (.alts (.run 9 true (.alts (.run 10 false .done .nil)) .nil)) .nil))))) (.run 8 true (.alts (.run 3 true (.take 4 (.take 5 (.take 6 (.alts (.run 9 true (.alts (.run 10 false .done .nil)) .nil))))) .nil)) .nil))) (.run 8 true (.alts (.run 3 true (.take 4 (.take 5 (.take 6 (.alts (.run 7 true (.alts (.run 9 true (.alts (.run 10 false .done .nil)) .nil)) .nil))))) (.run 7 true (.alts (.run 3 true (.take 4 (.take 5 (.take 6 (.alts (.run 9 true (.alts (.run 10 false .done .nil)) .nil))))) .nil)) .nil))) .nil)))) (.run 7 true (.alts (.run 2 true (.alts (.run 3 true (.take 4 (.take 5 (.take 6 (.alts (.run 8 true (.alts (.run 9 true (.alts (.run 10 false .done .nil)) .nil)) .nil))))) (.run 8 true (.alts (.run 3 true (.take 4 (.take 5 (.take 6 (.alts (.run 9 true (.alts (.run 10 false .done .nil)) .nil))))) .nil)) .nil))) (.run 8 true (.alts (.run 2 true (.alts (.run 3 true (.take 4 (.take 5 (.take 6 (.alts (.run 9 true (.alts (.run 10 false .done .nil)) .nil))))) .nil)) .nil)) .nil))) (.run 8 true (.alts (.run 2 true (.alts (.run 3 true (.take 4 (.take 5 (.take 6 (.alts (.run 7 true (.alts (.run 9 true (.alts (.run 10 false .done .nil)) .nil)) .nil))))) (.run 7 true (.alts (.run 3 true (.take 4 (.take 5 (.take 6 (.alts (.run 9 true (.alts (.run 10 false .done .nil)) .nil))))) .nil)) .nil))) (.run 7 true (.alts (.run 2 true (.alts (.run 3 true (.take 4 (.take 5 (.take 6 (.alts (.run 9 true (.alts (.run 10 false .done .nil)) .nil))))) .nil)) .nil)) .nil))) .nil)))))) 10 [Res.cells g2 26 [.w4 [0, 0, 0, 0]], Res.cells g1 26 [.w4 x1]] (.c0 (.c0 .n)) ⟨Res.stay_cells, Res.stay_cells, trivial⟩ [(3, (.p g1)), (1, (.w x2))] (subR rfl) (by kernel_rfl) (by kernel_rfl) fun w S CL hw le => ?_
  refine h_loada S CL hw le (subR rfl) rfl .h1 T26 (s' := [.w4 x1]) rfl rfl rfl trivial fun a S CL => h_move S CL hw le (subR rfl) rfl rfl rfl trivial fun a S CL => bindX h1 fun t5 et5 h2 => bindX h2 fun t6 et6 h3 => h_alts ?_
  refine h_runO S rfl trivial ?_ ?_
  ·refine s_callP S _ N43 rfl rfl (word_Of.ok x2 t5 et5 _ _) fun ch5 m le1 a w S => ?_
   replace le := le.trans le1
   replace hw := CL.again hw S (.c0 (.c0 .n)) le
   refine h_back ⟨fun _ => hw, ?_⟩
   refine h_alts ?_
   refine h_runO S rfl trivial ?_ ?_
   ·refine s_callP S _ N72 rfl rfl (wide_Product.ok k x1 t5 t6 et6 _ _) fun ch6 m le1 a w S => ?_
    replace le := le.trans le1
    replace hw := CL.again hw S (.c0 (.c0 .n)) le
    refine h_back ⟨fun _ => hw, ?_⟩
    replace CL := CL.add (t := 18) (d := (.tup [(true, [.w4 t6.1]), (true, [.w4 t6.2])])) S rfl rfl
    refine h_move S CL hw le (subR rfl) rfl rfl rfl trivial fun a S CL => h_extract S CL hw le (subR rfl) rfl rfl rfl rfl rfl trivial fun a S CL => h_extract S CL hw le (subR rfl) rfl rfl rfl rfl rfl trivial fun a S CL => h_alts ?_
    refine h_runO S rfl trivial ?_ ?_
    ·refine s_alloc S Z26 rfl ⟨rfl, trivial⟩ rfl fun g10 a w S => ?_
     replace hw := CL.again hw S (.c1 (.c1 .n)) le
     refine h_back ⟨fun _ => hw, ?_⟩
     refine h_run' S rfl trivial (s_alloc S Z26 rfl ⟨rfl, trivial⟩ rfl fun g11 a w S => ?_)
     replace hw := CL.again hw S (.c2 (.c2 .n)) le
     refine h_back ⟨fun _ => hw, ?_⟩
     refine h_run' S rfl trivial (s_store S rfl rfl rfl (s' := [.w4 t6.1]) .h1 T26 rfl rfl fun w S => ?_)
     replace hw := CL.again hw S (.c2 (.c2 .n)) le
     refine h_back ⟨fun _ => hw, ?_⟩
     refine h_run' S rfl trivial (s_store S rfl rfl rfl (s' := [.w4 t6.2]) .h T26 rfl rfl fun w S => ?_)
     refine h_back ⟨fun h => (nomatch h), ?_⟩
     refine h_done ?_; clear CL hw le
     refine x_thenN ?_
     exact j1 _ g11 g10 g2 t6.2 t6.1 a w (S.sb rfl (.c0 (.c0 (.c0 .n)))) h3
    refine h_runO S rfl trivial ?_ ?_
    ·refine s_alloc S Z26 rfl ⟨rfl, trivial⟩ rfl fun g10 a w S => ?_
     replace hw := CL.again hw S (.c1 (.c1 .n)) le
     refine h_back ⟨fun _ => hw, ?_⟩
     refine h_run' S rfl trivial (s_alloc S Z26 rfl ⟨rfl, trivial⟩ rfl fun g11 a w S => ?_)
     replace hw := CL.again hw S (.c2 (.c2 .n)) le
     refine h_back ⟨fun _ => hw, ?_⟩
     refine h_run' S rfl trivial (s_store S rfl rfl rfl (s' := [.w4 t6.1]) .h T26 rfl rfl fun w S => ?_)
     replace hw := CL.again hw S (.c2 (.c2 .n)) le
     refine h_back ⟨fun _ => hw, ?_⟩
     refine h_run' S rfl trivial (s_store S rfl rfl rfl (s' := [.w4 t6.2]) .h1 T26 rfl rfl fun w S => ?_)
     refine h_back ⟨fun h => (nomatch h), ?_⟩
     refine h_done ?_; clear CL hw le
     refine x_thenN ?_
     exact j1 _ g10 g11 g2 t6.2 t6.1 a w (S.sb rfl (.c1 (.c0 (.c0 .n)))) h3
    exact h_nil
   refine h_runO S rfl trivial ?_ ?_
   ·refine s_alloc S Z26 rfl ⟨rfl, trivial⟩ rfl fun g10 a w S => ?_
    replace hw := CL.again hw S (.c1 (.c1 .n)) le
    refine h_back ⟨fun _ => hw, ?_⟩
    refine h_alts ?_
    refine h_runO S rfl trivial ?_ ?_
    ·refine s_callP S _ N72 rfl rfl (wide_Product.ok k x1 t5 t6 et6 _ _) fun ch6 m le1 a w S => ?_
     replace le := le.trans le1
     replace hw := CL.again hw S (.c1 (.c1 .n)) le
     refine h_back ⟨fun _ => hw, ?_⟩
     replace CL := CL.add (t := 18) (d := (.tup [(true, [.w4 t6.1]), (true, [.w4 t6.2])])) S rfl rfl
     refine h_move S CL hw le (subR rfl) rfl rfl rfl trivial fun a S CL => h_extract S CL hw le (subR rfl) rfl rfl rfl rfl rfl trivial fun a S CL => h_extract S CL hw le (subR rfl) rfl rfl rfl rfl rfl trivial fun a S CL => h_run' S rfl trivial (s_alloc S Z26 rfl ⟨rfl, trivial⟩ rfl fun g11 a w S => ?_)
     replace hw := CL.again hw S (.c2 (.c2 .n)) le
     refine h_back ⟨fun _ => hw, ?_⟩
     refine h_run' S rfl trivial (s_store S rfl rfl rfl (s' := [.w4 t6.1]) .h1 T26 rfl rfl fun w S => ?_)
     replace hw := CL.again hw S (.c2 (.c2 .n)) le
     refine h_back ⟨fun _ => hw, ?_⟩
     refine h_run' S rfl trivial (s_store S rfl rfl rfl (s' := [.w4 t6.2]) .h T26 rfl rfl fun w S => ?_)
     refine h_back ⟨fun h => (nomatch h), ?_⟩
     refine h_done ?_; clear CL hw le
     refine x_thenN ?_
     exact j1 _ g11 g10 g2 t6.2 t6.1 a w (S.sb rfl (.c0 (.c0 (.c0 .n)))) h3
    refine h_runO S rfl trivial ?_ ?_
    ·refine s_alloc S Z26 rfl ⟨rfl, trivial⟩ rfl fun g11 a w S => ?_
     replace hw := CL.again hw S (.c2 (.c2 .n)) le
     refine h_back ⟨fun _ => hw, ?_⟩
     refine h_run' S rfl trivial (s_callP S _ N72 rfl rfl (wide_Product.ok k x1 t5 t6 et6 _ _) fun ch6 m le1 a w S => ?_)
     replace le := le.trans le1
     replace hw := CL.again hw S (.c2 (.c2 .n)) le
     refine h_back ⟨fun _ => hw, ?_⟩
     replace CL := CL.add (t := 18) (d := (.tup [(true, [.w4 t6.1]), (true, [.w4 t6.2])])) S rfl rfl
     refine h_move S CL hw le (subR rfl) rfl rfl rfl trivial fun a S CL => h_extract S CL hw le (subR rfl) rfl rfl rfl rfl rfl trivial fun a S CL => h_extract S CL hw le (subR rfl) rfl rfl rfl rfl rfl trivial fun a S CL => h_run' S rfl trivial (s_store S rfl rfl rfl (s' := [.w4 t6.1]) .h1 T26 rfl rfl fun w S => ?_)
     replace hw := CL.again hw S (.c2 (.c2 .n)) le
     refine h_back ⟨fun _ => hw, ?_⟩
     refine h_run' S rfl trivial (s_store S rfl rfl rfl (s' := [.w4 t6.2]) .h T26 rfl rfl fun w S => ?_)
     refine h_back ⟨fun h => (nomatch h), ?_⟩
     refine h_done ?_; clear CL hw le
     refine x_thenN ?_
     exact j1 _ g11 g10 g2 t6.2 t6.1 a w (S.sb rfl (.c0 (.c0 (.c0 .n)))) h3
    exact h_nil
   refine h_runO S rfl trivial ?_ ?_
   ·refine s_alloc S Z26 rfl ⟨rfl, trivial⟩ rfl fun g10 a w S => ?_
    replace hw := CL.again hw S (.c1 (.c1 .n)) le
    refine h_back ⟨fun _ => hw, ?_⟩
    refine h_alts ?_
    refine h_runO S rfl trivial ?_ ?_
    ·refine s_callP S _ N72 rfl rfl (wide_Product.ok k x1 t5 t6 et6 _ _) fun ch6 m le1 a w S => ?_
     replace le := le.trans le1
     replace hw := CL.again hw S (.c1 (.c1 .n)) le
     refine h_back ⟨fun _ => hw, ?_⟩
     replace CL := CL.add (t := 18) (d := (.tup [(true, [.w4 t6.1]), (true, [.w4 t6.2])])) S rfl rfl
     refine h_move S CL hw le (subR rfl) rfl rfl rfl trivial fun a S CL => h_extract S CL hw le (subR rfl) rfl rfl rfl rfl rfl trivial fun a S CL => h_extract S CL hw le (subR rfl) rfl rfl rfl rfl rfl trivial fun a S CL => h_run' S rfl trivial (s_alloc S Z26 rfl ⟨rfl, trivial⟩ rfl fun g11 a w S => ?_)
     replace hw := CL.again hw S (.c2 (.c2 .n)) le
     refine h_back ⟨fun _ => hw, ?_⟩
     refine h_run' S rfl trivial (s_store S rfl rfl rfl (s' := [.w4 t6.1]) .h T26 rfl rfl fun w S => ?_)
     replace hw := CL.again hw S (.c2 (.c2 .n)) le
     refine h_back ⟨fun _ => hw, ?_⟩
     refine h_run' S rfl trivial (s_store S rfl rfl rfl (s' := [.w4 t6.2]) .h1 T26 rfl rfl fun w S => ?_)
     refine h_back ⟨fun h => (nomatch h), ?_⟩
     refine h_done ?_; clear CL hw le
     refine x_thenN ?_
     exact j1 _ g10 g11 g2 t6.2 t6.1 a w (S.sb rfl (.c1 (.c0 (.c0 .n)))) h3
    refine h_runO S rfl trivial ?_ ?_
    ·refine s_alloc S Z26 rfl ⟨rfl, trivial⟩ rfl fun g11 a w S => ?_
     replace hw := CL.again hw S (.c2 (.c2 .n)) le
     refine h_back ⟨fun _ => hw, ?_⟩
     refine h_run' S rfl trivial (s_callP S _ N72 rfl rfl (wide_Product.ok k x1 t5 t6 et6 _ _) fun ch6 m le1 a w S => ?_)
     replace le := le.trans le1
     replace hw := CL.again hw S (.c2 (.c2 .n)) le
     refine h_back ⟨fun _ => hw, ?_⟩
     replace CL := CL.add (t := 18) (d := (.tup [(true, [.w4 t6.1]), (true, [.w4 t6.2])])) S rfl rfl
     refine h_move S CL hw le (subR rfl) rfl rfl rfl trivial fun a S CL => h_extract S CL hw le (subR rfl) rfl rfl rfl rfl rfl trivial fun a S CL => h_extract S CL hw le (subR rfl) rfl rfl rfl rfl rfl trivial fun a S CL => h_run' S rfl trivial (s_store S rfl rfl rfl (s' := [.w4 t6.1]) .h T26 rfl rfl fun w S => ?_)
     replace hw := CL.again hw S (.c2 (.c2 .n)) le
     refine h_back ⟨fun _ => hw, ?_⟩
     refine h_run' S rfl trivial (s_store S rfl rfl rfl (s' := [.w4 t6.2]) .h1 T26 rfl rfl fun w S => ?_)
     refine h_back ⟨fun h => (nomatch h), ?_⟩
     refine h_done ?_; clear CL hw le
     refine x_thenN ?_
     exact j1 _ g10 g11 g2 t6.2 t6.1 a w (S.sb rfl (.c1 (.c0 (.c0 .n)))) h3
    exact h_nil
   exact h_nil
  refine h_runO S rfl trivial ?_ ?_
  ·refine s_alloc S Z26 rfl ⟨rfl, trivial⟩ rfl fun g10 a w S => ?_
   replace hw := CL.again hw S (.c1 (.c1 .n)) le
   refine h_back ⟨fun _ => hw, ?_⟩
   refine h_alts ?_
   refine h_runO S rfl trivial ?_ ?_
   ·refine s_callP S _ N43 rfl rfl (word_Of.ok x2 t5 et5 _ _) fun ch5 m le1 a w S => ?_
    replace le := le.trans le1
    replace hw := CL.again hw S (.c1 (.c1 .n)) le
    refine h_back ⟨fun _ => hw, ?_⟩
    refine h_alts ?_
    refine h_runO S rfl trivial ?_ ?_
    ·refine s_callP S _ N72 rfl rfl (wide_Product.ok k x1 t5 t6 et6 _ _) fun ch6 m le1 a w S => ?_
     replace le := le.trans le1
     replace hw := CL.again hw S (.c1 (.c1 .n)) le
     refine h_back ⟨fun _ => hw, ?_⟩
     replace CL := CL.add (t := 18) (d := (.tup [(true, [.w4 t6.1]), (true, [.w4 t6.2])])) S rfl rfl
     refine h_move S CL hw le (subR rfl) rfl rfl rfl trivial fun a S CL => h_extract S CL hw le (subR rfl) rfl rfl rfl rfl rfl trivial fun a S CL => h_extract S CL hw le (subR rfl) rfl rfl rfl rfl rfl trivial fun a S CL => h_run' S rfl trivial (s_alloc S Z26 rfl ⟨rfl, trivial⟩ rfl fun g11 a w S => ?_)
     replace hw := CL.again hw S (.c2 (.c2 .n)) le
     refine h_back ⟨fun _ => hw, ?_⟩
     refine h_run' S rfl trivial (s_store S rfl rfl rfl (s' := [.w4 t6.1]) .h1 T26 rfl rfl fun w S => ?_)
     replace hw := CL.again hw S (.c2 (.c2 .n)) le
     refine h_back ⟨fun _ => hw, ?_⟩
     refine h_run' S rfl trivial (s_store S rfl rfl rfl (s' := [.w4 t6.2]) .h T26 rfl rfl fun w S => ?_)
     refine h_back ⟨fun h => (nomatch h), ?_⟩
     refine h_done ?_; clear CL hw le
     refine x_thenN ?_
     exact j1 _ g11 g10 g2 t6.2 t6.1 a w (S.sb rfl (.c0 (.c0 (.c0 .n)))) h3
    refine h_runO S rfl trivial ?_ ?_
    ·refine s_alloc S Z26 rfl ⟨rfl, trivial⟩ rfl fun g11 a w S => ?_
     replace hw := CL.again hw S (.c2 (.c2 .n)) le
     refine h_back ⟨fun _ => hw, ?_⟩
     refine h_run' S rfl trivial (s_callP S _ N72 rfl rfl (wide_Product.ok k x1 t5 t6 et6 _ _) fun ch6 m le1 a w S => ?_)
     replace le := le.trans le1
     replace hw := CL.again hw S (.c2 (.c2 .n)) le
     refine h_back ⟨fun _ => hw, ?_⟩
     replace CL := CL.add (t := 18) (d := (.tup [(true, [.w4 t6.1]), (true, [.w4 t6.2])])) S rfl rfl
     refine h_move S CL hw le (subR rfl) rfl rfl rfl trivial fun a S CL => h_extract S CL hw le (subR rfl) rfl rfl rfl rfl rfl trivial fun a S CL => h_extract S CL hw le (subR rfl) rfl rfl rfl rfl rfl trivial fun a S CL => h_run' S rfl trivial (s_store S rfl rfl rfl (s' := [.w4 t6.1]) .h1 T26 rfl rfl fun w S => ?_)
     replace hw := CL.again hw S (.c2 (.c2 .n)) le
     refine h_back ⟨fun _ => hw, ?_⟩
     refine h_run' S rfl trivial (s_store S rfl rfl rfl (s' := [.w4 t6.2]) .h T26 rfl rfl fun w S => ?_)
     refine h_back ⟨fun h => (nomatch h), ?_⟩
     refine h_done ?_; clear CL hw le
     refine x_thenN ?_
     exact j1 _ g11 g10 g2 t6.2 t6.1 a w (S.sb rfl (.c0 (.c0 (.c0 .n)))) h3
    exact h_nil
   refine h_runO S rfl trivial ?_ ?_
   ·refine s_alloc S Z26 rfl ⟨rfl, trivial⟩ rfl fun g11 a w S => ?_
    replace hw := CL.again hw S (.c2 (.c2 .n)) le
    refine h_back ⟨fun _ => hw, ?_⟩
    refine h_run' S rfl trivial (s_callP S _ N43 rfl rfl (word_Of.ok x2 t5 et5 _ _) fun ch5 m le1 a w S => ?_)
    replace le := le.trans le1
    replace hw := CL.again hw S (.c2 (.c2 .n)) le
    refine h_back ⟨fun _ => hw, ?_⟩
    refine h_run' S rfl trivial (s_callP S _ N72 rfl rfl (wide_Product.ok k x1 t5 t6 et6 _ _) fun ch6 m le1 a w S => ?_)
    replace le := le.trans le1
    replace hw := CL.again hw S (.c2 (.c2 .n)) le
    refine h_back ⟨fun _ => hw, ?_⟩
    replace CL := CL.add (t := 18) (d := (.tup [(true, [.w4 t6.1]), (true, [.w4 t6.2])])) S rfl rfl
    refine h_move S CL hw le (subR rfl) rfl rfl rfl trivial fun a S CL => h_extract S CL hw le (subR rfl) rfl rfl rfl rfl rfl trivial fun a S CL => h_extract S CL hw le (subR rfl) rfl rfl rfl rfl rfl trivial fun a S CL => h_run' S rfl trivial (s_store S rfl rfl rfl (s' := [.w4 t6.1]) .h1 T26 rfl rfl fun w S => ?_)
    replace hw := CL.again hw S (.c2 (.c2 .n)) le
    refine h_back ⟨fun _ => hw, ?_⟩
    refine h_run' S rfl trivial (s_store S rfl rfl rfl (s' := [.w4 t6.2]) .h T26 rfl rfl fun w S => ?_)
    refine h_back ⟨fun h => (nomatch h), ?_⟩
    refine h_done ?_; clear CL hw le
    refine x_thenN ?_
    exact j1 _ g11 g10 g2 t6.2 t6.1 a w (S.sb rfl (.c0 (.c0 (.c0 .n)))) h3
   exact h_nil
  refine h_runO S rfl trivial ?_ ?_
  ·refine s_alloc S Z26 rfl ⟨rfl, trivial⟩ rfl fun g10 a w S => ?_
   replace hw := CL.again hw S (.c1 (.c1 .n)) le
   refine h_back ⟨fun _ => hw, ?_⟩
   refine h_alts ?_
   refine h_runO S rfl trivial ?_ ?_
   ·refine s_callP S _ N43 rfl rfl (word_Of.ok x2 t5 et5 _ _) fun ch5 m le1 a w S => ?_
    replace le := le.trans le1
    replace hw := CL.again hw S (.c1 (.c1 .n)) le
    refine h_back ⟨fun _ => hw, ?_⟩
    refine h_alts ?_
    refine h_runO S rfl trivial ?_ ?_
    ·refine s_callP S _ N72 rfl rfl (wide_Product.ok k x1 t5 t6 et6 _ _) fun ch6 m le1 a w S => ?_
     replace le := le.trans le1
     replace hw := CL.again hw S (.c1 (.c1 .n)) le
     refine h_back ⟨fun _ => hw, ?_⟩
     replace CL := CL.add (t := 18) (d := (.tup [(true, [.w4 t6.1]), (true, [.w4 t6.2])])) S rfl rfl
     refine h_move S CL hw le (subR rfl) rfl rfl rfl trivial fun a S CL => h_extract S CL hw le (subR rfl) rfl rfl rfl rfl rfl trivial fun a S CL => h_extract S CL hw le (subR rfl) rfl rfl rfl rfl rfl trivial fun a S CL => h_run' S rfl trivial (s_alloc S Z26 rfl ⟨rfl, trivial⟩ rfl fun g11 a w S => ?_)
     replace hw := CL.again hw S (.c2 (.c2 .n)) le
     refine h_back ⟨fun _ => hw, ?_⟩
     refine h_run' S rfl trivial (s_store S rfl rfl rfl (s' := [.w4 t6.1]) .h T26 rfl rfl fun w S => ?_)
     replace hw := CL.again hw S (.c2 (.c2 .n)) le
     refine h_back ⟨fun _ => hw, ?_⟩
     refine h_run' S rfl trivial (s_store S rfl rfl rfl (s' := [.w4 t6.2]) .h1 T26 rfl rfl fun w S => ?_)
     refine h_back ⟨fun h => (nomatch h), ?_⟩
     refine h_done ?_; clear CL hw le
     refine x_thenN ?_
     exact j1 _ g10 g11 g2 t6.2 t6.1 a w (S.sb rfl (.c1 (.c0 (.c0 .n)))) h3
    refine h_runO S rfl trivial ?_ ?_
    ·refine s_alloc S Z26 rfl ⟨rfl, trivial⟩ rfl fun g11 a w S => ?_
     replace hw := CL.again hw S (.c2 (.c2 .n)) le
     refine h_back ⟨fun _ => hw, ?_⟩
     refine h_run' S rfl trivial (s_callP S _ N72 rfl rfl (wide_Product.ok k x1 t5 t6 et6 _ _) fun ch6 m le1 a w S => ?_)
     replace le := le.trans le1
     replace hw := CL.again hw S (.c2 (.c2 .n)) le
     refine h_back ⟨fun _ => hw, ?_⟩
     replace CL := CL.add (t := 18) (d := (.tup [(true, [.w4 t6.1]), (true, [.w4 t6.2])])) S rfl rfl
     refine h_move S CL hw le (subR rfl) rfl rfl rfl trivial fun a S CL => h_extract S CL hw le (subR rfl) rfl rfl rfl rfl rfl trivial fun a S CL => h_extract S CL hw le (subR rfl) rfl rfl rfl rfl rfl trivial fun a S CL => h_run' S rfl trivial (s_store S rfl rfl rfl (s' := [.w4 t6.1]) .h T26 rfl rfl fun w S => ?_)
     replace hw := CL.again hw S (.c2 (.c2 .n)) le
     refine h_back ⟨fun _ => hw, ?_⟩
     refine h_run' S rfl trivial (s_store S rfl rfl rfl (s' := [.w4 t6.2]) .h1 T26 rfl rfl fun w S => ?_)
     refine h_back ⟨fun h => (nomatch h), ?_⟩
     refine h_done ?_; clear CL hw le
     refine x_thenN ?_
     exact j1 _ g10 g11 g2 t6.2 t6.1 a w (S.sb rfl (.c1 (.c0 (.c0 .n)))) h3
    exact h_nil
   refine h_runO S rfl trivial ?_ ?_
   ·refine s_alloc S Z26 rfl ⟨rfl, trivial⟩ rfl fun g11 a w S => ?_
    replace hw := CL.again hw S (.c2 (.c2 .n)) le
    refine h_back ⟨fun _ => hw, ?_⟩
    refine h_run' S rfl trivial (s_callP S _ N43 rfl rfl (word_Of.ok x2 t5 et5 _ _) fun ch5 m le1 a w S => ?_)
    replace le := le.trans le1
    replace hw := CL.again hw S (.c2 (.c2 .n)) le
    refine h_back ⟨fun _ => hw, ?_⟩
    refine h_run' S rfl trivial (s_callP S _ N72 rfl rfl (wide_Product.ok k x1 t5 t6 et6 _ _) fun ch6 m le1 a w S => ?_)
    replace le := le.trans le1
    replace hw := CL.again hw S (.c2 (.c2 .n)) le
    refine h_back ⟨fun _ => hw, ?_⟩
    replace CL := CL.add (t := 18) (d := (.tup [(true, [.w4 t6.1]), (true, [.w4 t6.2])])) S rfl rfl
    refine h_move S CL hw le (subR rfl) rfl rfl rfl trivial fun a S CL => h_extract S CL hw le (subR rfl) rfl rfl rfl rfl rfl trivial fun a S CL => h_extract S CL hw le (subR rfl) rfl rfl rfl rfl rfl trivial fun a S CL => h_run' S rfl trivial (s_store S rfl rfl rfl (s' := [.w4 t6.1]) .h T26 rfl rfl fun w S => ?_)
    replace hw := CL.again hw S (.c2 (.c2 .n)) le
    refine h_back ⟨fun _ => hw, ?_⟩
    refine h_run' S rfl trivial (s_store S rfl rfl rfl (s' := [.w4 t6.2]) .h1 T26 rfl rfl fun w S => ?_)
    refine h_back ⟨fun h => (nomatch h), ?_⟩
    refine h_done ?_; clear CL hw le
    refine x_thenN ?_
    exact j1 _ g10 g11 g2 t6.2 t6.1 a w (S.sb rfl (.c1 (.c0 (.c0 .n)))) h3
   exact h_nil
  exact h_nil
abbrev word_Add.Ty : Type := (List Int) → (List Int) → Option ((List Int))
def word_Add.Ctr (s : word_Add.Ty) : Prop := ∀ (x1 : List Int) (x2 : List Int) (r : (List Int)), Ct (C := Unit) Tryd.prog 55 (s x1 x2 = some r) [] [(.a4 x1), (.a4 x2)] (fun _ => (.a4 r)) fun _ => []
def word_Add.j1 (y1 : List Int) : Option ((List Int)) := some y1
def word_Add.b1 (x1 : List Int) (x2 : List Int) (rec1 : Int → Int → (List Int) → Option ((List Int))) (y5 : Int) (y6 : Int) (y7 : List Int) : Option ((List Int)) := if (decide (y5 < 4)) = true then (if (0 : Int) ≤ y5 ∧ y5 < 4 then (if (0 : Int) ≤ (rd x1 y5) ∧ (0 : Int) ≤ (rd x2 y5) ∧ (0 : Int) ≤ y6 ∧ (y6 : Int) ≤ 1 then (rec1 (wr .i64 (y5 + 1)) (((rd x1 y5) + (rd x2 y5) + y6) / 18446744073709551616) (y7.set (Int.toNat y5) (((rd x1 y5) + (rd x2 y5) + y6) % 18446744073709551616))) else none) else none) else (word_Add.j1 y7)
def word_Add.l1 (x1 : List Int) (x2 : List Int) : Nat → Int → Int → (List Int) → Option ((List Int))
  | 0, _, _, _ => none
  | q + 1, y5, y6, y7 => word_Add.b1 x1 x2 (word_Add.l1 x1 x2 q) y5 y6 y7
def word_Add.f (k : Nat) (x1 : List Int) (x2 : List Int) : Option ((List Int)) := word_Add.l1 x1 x2 k 0 0 [0, 0, 0, 0]
theorem word_Add.ok (k : Nat) : word_Add.Ctr (word_Add.f k) := by
 intro x1 x2 r h0 mi w0 ok hm
 delta word_Add.f at h0
 refine c_enterZ (n := 30) ok hm func55 rfl rfl rfl fun b0 hb a S => c_region (s_box S rfl rfl rfl fun g1 a w S => s_box S rfl rfl rfl fun g2 a w S => s_alloc S Z26 rfl ⟨rfl, trivial⟩ rfl fun g3 a w S => c_end (c_region (s_alloc S Z26 rfl ⟨rfl, trivial⟩ rfl fun g4 a w S => c_end (c_region (s_assign S rfl rfl fun a S => c_end (wp_seq_k fun K1 hK1 => ?_))))))
 have j1 : ∀ m g17 g18 y1 a w, St 30 m b0 [(5, (.p g17)), (4, (.p g18))] [Res.cells g17 26 [.w4 y1], Res.cells g18 26 [.w4 [0, 0, 0, 0]]] a w → word_Add.j1 y1 = some r → K1 a w := by
  intro m g17 g18 y1 a w S h0
  delta word_Add.j1 at h0
  refine hK1 a w (c_region (s_loada S rfl .h T26 (s' := [.w4 y1]) rfl rfl fun a S => s_store S rfl rfl rfl (s' := [.w4 y1]) .h1 T26 rfl rfl fun w S => c_end (wp_ret ?_)))
  obtain rfl := Option.some.inj h0
  exact b_ret1 (d := (.a4 y1)) S rfl (resD_cell rfl .h1 T26 rfl rfl) (S.rt hb)
 refine c_region (s_move S rfl rfl fun a S => c_end (wp_block ?_))
 refine c_loop (fun q1 a w => ∃ m y5 y6 g27 g28 g29 g30 y7, St 30 m b0 [(10, (.i y5)), (6, (.w y6)), (5, (.p g27)), (4, (.p g28)), (3, (.p g29)), (2, (.p g30))] [Res.cells g27 26 [.w4 y7], Res.cells g28 26 [.w4 [0, 0, 0, 0]], Res.cells g29 26 [.w4 x2], Res.cells g30 26 [.w4 x1]] a w ∧ word_Add.l1 x1 x2 q1 y5 y6 y7 = some r) ?_ ?_ (k := k) ⟨_, 0, 0, g4, g3, g2, g1, [0, 0, 0, 0], (S.sb rfl (.c0 (.c0 (.c0 (.c0 .n))))), h0⟩
 ·rintro a w ⟨m, y5, y6, g27, g28, g29, g30, y7, S, h0⟩
  exact (nomatch (show (none : Option ((List Int))) = some r from h0))
 ·clear S h0
  rintro q1 a w ⟨m, y5, y6, g27, g28, g29, g30, y7, S, h0⟩
  replace h0 : word_Add.b1 x1 x2 (word_Add.l1 x1 x2 q1) y5 y6 y7 = some r := h0
  delta word_Add.b1 at h0
  refine c_region (s_bin S rfl rfl rfl rfl fun a S => c_end (wp_seq ?_))
  rcases ite_of h0 with ⟨c1, h1⟩ | ⟨c1, h1⟩
  ·refine c_condT S rfl c1 (wp_skip (x_thenN (wp_seq (wp_block (c_region (s_move S rfl rfl fun a S => s_assign S rfl rfl fun a S => c_end ?_))))))
   refine wp_seq (c_heldS S (.take 0 (.take 1 (.take 2 (.take 3 (.take 4 (.take 5 (.take 6 (.alts (.run 7 true (.take 8 (.take 9 (.take 10 (.take 11 (.take 12 .done))))) .nil))))))))) 13 [Res.cells g27 26 [.w4 y7], Res.cells g28 26 [.w4 [0, 0, 0, 0]], Res.cells g29 26 [.w4 x2], Res.cells g30 26 [.w4 x1]] (.c0 (.c0 (.c0 (.c0 .n)))) ⟨Res.stay_cells, Res.stay_cells, Res.stay_cells, Res.stay_cells, trivial⟩ [(7, (.i y5)), (6, (.w y6)), (3, (.p g29)), (2, (.p g30))] (subR rfl) (by kernel_rfl) (by kernel_rfl) ?_); clear S; intro w S CL hw le
   refine h_move S CL hw le (subR rfl) rfl rfl rfl trivial fun a S CL => ?_
   obtain ⟨c2, h2⟩ := chk_of h1; clear h1
   refine h_iaddr S CL hw le (subR rfl) rfl rfl underlying26 T24 c2.1 c2.2 (mul1 _ _) rfl rfl trivial fun a S CL => h_loadi S CL hw le (subR rfl) (i := y5) rfl .h3 T24 .h rfl c2.1 c2.2 rfl rfl trivial fun a S CL => h_move S CL hw le (subR rfl) rfl rfl rfl trivial fun a S CL => h_iaddr S CL hw le (subR rfl) rfl rfl underlying26 T24 c2.1 c2.2 (mul1 _ _) rfl rfl trivial fun a S CL => h_loadi S CL hw le (subR rfl) (i := y5) rfl .h2 T24 .h rfl c2.1 c2.2 rfl rfl trivial fun a S CL => h_move S CL hw le (subR rfl) rfl rfl rfl trivial fun a S CL => h_run' S rfl trivial ?_
   obtain ⟨c3, h3⟩ := chk_of h2; clear h2
   refine s_extAdd S X75 rfl rfl rfl c3 rfl fun a S => ?_
   replace hw := CL.again hw S (.c0 (.c0 (.c0 (.c0 .n)))) le
   refine h_back ⟨fun _ => hw, ?_⟩
   replace CL := CL.add (t := 21) (d := (.tup [(false, [.w (((rd x1 y5) + (rd x2 y5) + y6) % 18446744073709551616)]), (false, [.w (((rd x1 y5) + (rd x2 y5) + y6) / 18446744073709551616)])])) S rfl rfl
   refine h_move S CL hw le (subR rfl) rfl rfl rfl trivial fun a S CL => h_extract S CL hw le (subR rfl) rfl rfl rfl rfl rfl trivial fun a S CL => h_extract S CL hw le (subR rfl) rfl rfl rfl rfl rfl trivial fun a S CL => h_assign S CL hw le (subR rfl) rfl rfl rfl trivial fun a S CL => h_assign S CL hw le (subR rfl) rfl rfl rfl trivial fun a S CL => ?_
   refine h_done ?_; clear CL hw le
   refine x_thenN (c_region (s_move S rfl rfl fun a S => s_move S rfl rfl fun a S => s_iaddr S rfl rfl underlying26 T24 c2.1 c2.2 (mul1 _ _) rfl fun a S => s_storei S (i := y5) rfl rfl .h T24 .h rfl c2.1 c2.2 fun w S => c_end (c_region' (s_move S rfl rfl fun a S => s_assign S rfl rfl fun a S => c_end' (x_blockN (x_thenN (c_region' (s_bin S rfl rfl rfl rfl fun a S => s_move S rfl rfl fun a S => c_end' (x_thenN ?_)))))))))
   exact ⟨_, (wr .i64 (y5 + 1)), (((rd x1 y5) + (rd x2 y5) + y6) / 18446744073709551616), g27, g28, g29, g30, (y7.set (Int.toNat y5) (((rd x1 y5) + (rd x2 y5) + y6) % 18446744073709551616)), (S.sb rfl (.c0 (.c0 (.c0 (.c0 .n))))), h3⟩
  ·refine c_condF S rfl c1 (wp_exit (x_thenX (x_thenX (x_blockX (x_thenN ?_)))))
   exact j1 _ g27 g28 y7 a w (S.sb rfl (.c0 (.c0 .n))) h1
abbrev fee_Next.Ty : Type := (List Int) → Int → Int → Option ((List Int))
def fee_Next.Ctr (s : fee_Next.Ty) : Prop := ∀ (x1 : List Int) (x2 : Int) (x3 : Int) (r : (List Int)), Ct (C := Unit) Tryd.prog 36 (s x1 x2 x3 = some r) [] [(.a4 x1), (.w x2), (.w x3)] (fun _ => (.a4 r)) fun _ => []
def fee_Next.j2 (k : Nat) (x1 : List Int) (y2 : List Int) : Option ((List Int)) := (word_Add.f k x1 y2).bind fun t6 => ((word_Compare.f k t6 x1).bind fun t7 => (if (decide (t7 < 0)) = true then ((fee_ones.f).bind fun t8 => (some t8)) else (some t6)))
def fee_Next.j1 (k : Nat) (x1 : List Int) (x2 : Int) (x3 : Int) (y1 : Bool) : Option ((List Int)) := if y1 = true then (some x1) else (if (decide (x2 < (wr .u64 (Int.tdiv x3 2)))) = true then ((fee_Step.f k x1 (wr .u64 ((wr .u64 (Int.tdiv x3 2)) - x2)) (wr .u64 (Int.tdiv x3 2))).bind fun t1 => ((word_Compare.f k t1 x1).bind fun t2 => (if (decide (0 < t2)) = true then (some [0, 0, 0, 0]) else ((word_Sub.f k x1 t1).bind fun t3 => (some t3))))) else ((fee_Step.f k x1 (wr .u64 (x2 - (wr .u64 (Int.tdiv x3 2)))) (wr .u64 (Int.tdiv x3 2))).bind fun t4 => (if (decide (t4 = [0, 0, 0, 0])) = true then ((word_Of.f 1).bind fun t9 => (fee_Next.j2 k x1 t9)) else (fee_Next.j2 k x1 t4))))
def fee_Next.f (k : Nat) (x1 : List Int) (x2 : Int) (x3 : Int) : Option ((List Int)) := if ((wr .u64 (Int.tdiv x3 2)) == 0) = true then (fee_Next.j1 k x1 x2 x3 true) else (fee_Next.j1 k x1 x2 x3 (x2 == (wr .u64 (Int.tdiv x3 2))))
theorem fee_Next.ok (k : Nat) : fee_Next.Ctr (fee_Next.f k) := by
 intro x1 x2 x3 r h0 mi w0 ok hm
 delta fee_Next.f at h0
 refine c_enterZ (n := 59) ok hm func36 rfl rfl rfl fun b0 hb a S => c_region (s_box S rfl rfl rfl fun g1 a w S => s_alloc S Z26 rfl ⟨rfl, trivial⟩ rfl fun g2 a w S => c_end (c_region (s_move S rfl rfl fun a S => s_quo S rfl rfl (by decide) rfl fun a S => s_assign S rfl rfl fun a S => c_end (wp_seq (wp_block (wp_seq_k fun K1 hK1 => ?_))))))
 have j1 : ∀ m y1 g3 g4 a w, St 59 m b0 [(13, (.b y1)), (7, (.w (wr .u64 (Int.tdiv x3 2)))), (6, (.p g3)), (3, (.p g4)), (1, (.w x2))] [Res.cells g3 26 [.w4 [0, 0, 0, 0]], Res.cells g4 26 [.w4 x1]] a w → fee_Next.j1 k x1 x2 x3 y1 = some r → K1 a w := by
  intro m y1 g3 g4 a w S h0
  delta fee_Next.j1 at h0
  refine hK1 a w ?_
  rcases ite_of h0 with ⟨c1, h1⟩ | ⟨c1, h1⟩
  ·refine c_condT S rfl c1 (c_region (s_loada S rfl .h1 T26 (s' := [.w4 x1]) rfl rfl fun a S => s_store S rfl rfl rfl (s' := [.w4 x1]) .h T26 rfl rfl fun w S => c_end (wp_ret (x_blockR (x_thenR ?_)))))
   obtain rfl := Option.some.inj h1
   exact b_ret1 (d := (.a4 x1)) S rfl (resD_cell rfl .h T26 rfl rfl) (S.rt hb)
  ·refine c_condF S rfl c1 (c_region (s_move S rfl rfl fun a S => s_move S rfl rfl fun a S => s_bin S rfl rfl rfl rfl fun a S => s_assign S rfl rfl fun a S => c_end ?_))
   rcases ite_of h1 with ⟨c2, h2⟩ | ⟨c2, h2⟩
   ·refine c_condT S rfl c2 (c_region (s_loada S rfl .h1 T26 (s' := [.w4 x1]) rfl rfl fun a S => s_move S rfl rfl fun a S => s_move S rfl rfl fun a S => s_bin S rfl rfl rfl rfl fun a S => s_move S rfl rfl fun a S => bindX h2 fun t1 et1 h3 => s_callP S _ N52 rfl rfl (fee_Step.ok k x1 (wr .u64 ((wr .u64 (Int.tdiv x3 2)) - x2)) (wr .u64 (Int.tdiv x3 2)) t1 et1 _ _) fun ch1 m le1 a w S => s_alloc S Z26 rfl ⟨rfl, trivial⟩ rfl fun g5 a w S => s_store S rfl rfl rfl (s' := [.w4 t1]) .h T26 rfl rfl fun w S => c_end (wp_seq (c_region (s_loada S rfl .h T26 (s' := [.w4 t1]) rfl rfl fun a S => s_loada S rfl .h2 T26 (s' := [.w4 x1]) rfl rfl fun a S => bindX h3 fun t2 et2 h4 => s_callP S _ N53 rfl rfl (word_Compare.ok k t1 x1 t2 et2 _ _) fun ch2 m le1 a w S => s_bin S rfl rfl rfl rfl fun a S => c_end ?_)))))
    rcases ite_of h4 with ⟨c3, h5⟩ | ⟨c3, h5⟩
    ·refine c_condT S rfl c3 (c_region (s_build S (ds := []) (dv := (.a4 [0, 0, 0, 0])) rfl (fun _ => by kernel_rfl) ⟨rfl, trivial⟩ rfl fun a S => s_store S rfl rfl rfl (s' := [.w4 [0, 0, 0, 0]]) .h1 T26 rfl rfl fun w S => c_end (wp_ret (x_thenR (x_blockR (x_thenR ?_))))))
     obtain rfl := Option.some.inj h5
     exact b_ret1 (d := (.a4 [0, 0, 0, 0])) S rfl (resD_cell rfl .h1 T26 rfl rfl) (S.rt hb)
    ·refine c_condF S rfl c3 (wp_skip (x_thenN (c_region (s_loada S rfl .h2 T26 (s' := [.w4 x1]) rfl rfl fun a S => s_loada S rfl .h T26 (s' := [.w4 t1]) rfl rfl fun a S => bindX h5 fun t3 et3 h6 => s_callP S _ N54 rfl rfl (word_Sub.ok k x1 t1 t3 et3 _ _) fun ch3 m le1 a w S => s_store S rfl rfl rfl (s' := [.w4 t3]) .h1 T26 rfl rfl fun w S => c_end (wp_ret (x_blockR (x_thenR ?_)))))))
     obtain rfl := Option.some.inj h6
     exact b_ret1 (d := (.a4 t3)) S rfl (resD_cell rfl .h1 T26 rfl rfl) (S.rt hb)
   ·refine c_condF S rfl c2 (wp_skip (x_blockN (x_thenN (c_region (s_loada S rfl .h1 T26 (s' := [.w4 x1]) rfl rfl fun a S => s_move S rfl rfl fun a S => s_move S rfl rfl fun a S => s_bin S rfl rfl rfl rfl fun a S => s_move S rfl rfl fun a S => bindX h2 fun t4 et4 h3 => s_callP S _ N52 rfl rfl (fee_Step.ok k x1 (wr .u64 (x2 - (wr .u64 (Int.tdiv x3 2)))) (wr .u64 (Int.tdiv x3 2)) t4 et4 _ _) fun ch4 m le1 a w S => s_alloc S Z26 rfl ⟨rfl, trivial⟩ rfl fun g6 a w S => s_store S rfl rfl rfl (s' := [.w4 t4]) .h T26 rfl rfl fun w S => c_end (wp_seq_k fun K2 hK2 => ?_))))))
    have j2 : ∀ m g7 g8 g9 y2 a w, St 59 m b0 [(9, (.p g7)), (6, (.p g8)), (3, (.p g9))] [Res.cells g7 26 [.w4 y2], Res.cells g8 26 [.w4 [0, 0, 0, 0]], Res.cells g9 26 [.w4 x1]] a w → fee_Next.j2 k x1 y2 = some r → K2 a w := by
     intro m g7 g8 g9 y2 a w S h0
     delta fee_Next.j2 at h0
     refine hK2 a w (c_region (s_loada S rfl .h2 T26 (s' := [.w4 x1]) rfl rfl fun a S => s_loada S rfl .h T26 (s' := [.w4 y2]) rfl rfl fun a S => bindX h0 fun t6 et6 h1 => s_callP S _ N55 rfl rfl (word_Add.ok k x1 y2 t6 et6 _ _) fun ch5 m le1 a w S => s_alloc S Z26 rfl ⟨rfl, trivial⟩ rfl fun g10 a w S => s_store S rfl rfl rfl (s' := [.w4 t6]) .h T26 rfl rfl fun w S => c_end (wp_seq (c_region (s_loada S rfl .h T26 (s' := [.w4 t6]) rfl rfl fun a S => s_loada S rfl .h3 T26 (s' := [.w4 x1]) rfl rfl fun a S => bindX h1 fun t7 et7 h2 => s_callP S _ N53 rfl rfl (word_Compare.ok k t6 x1 t7 et7 _ _) fun ch6 m le1 a w S => s_bin S rfl rfl rfl rfl fun a S => c_end ?_)))))
     rcases ite_of h2 with ⟨c4, h3⟩ | ⟨c4, h3⟩
     ·refine c_condT S rfl c4 (c_region (bindX h3 fun t8 et8 h4 => s_callP S _ N56 rfl rfl (fee_ones.ok t8 et8 _ _) fun ch7 m le1 a w S => s_store S rfl rfl rfl (s' := [.w4 t8]) .h2 T26 rfl rfl fun w S => c_end (wp_ret (x_thenR ?_))))
      obtain rfl := Option.some.inj h4
      exact b_ret1 (d := (.a4 t8)) S rfl (resD_cell rfl .h2 T26 rfl rfl) (S.rt hb)
     ·refine c_condF S rfl c4 (wp_skip (x_thenN (c_region (s_loada S rfl .h T26 (s' := [.w4 t6]) rfl rfl fun a S => s_store S rfl rfl rfl (s' := [.w4 t6]) .h2 T26 rfl rfl fun w S => c_end (wp_ret ?_)))))
      obtain rfl := Option.some.inj h3
      exact b_ret1 (d := (.a4 t6)) S rfl (resD_cell rfl .h2 T26 rfl rfl) (S.rt hb)
    refine c_region (s_loada S rfl .h T26 (s' := [.w4 t4]) rfl rfl fun a S => s_build S (ds := []) (dv := (.a4 [0, 0, 0, 0])) rfl (fun _ => by kernel_rfl) ⟨rfl, trivial⟩ rfl fun a S => s_eqa S rfl rfl underlying26 underlying24 T24 Q26 rfl fun a S => c_end ?_)
    rcases ite_of h3 with ⟨c5, h4⟩ | ⟨c5, h4⟩
    ·refine c_condT S rfl c5 (c_region' (bindX h4 fun t9 et9 h5 => s_callP S _ N43 rfl rfl (word_Of.ok 1 t9 et9 _ _) fun ch8 m le1 a w S => s_store S rfl rfl rfl (s' := [.w4 t9]) .h T26 rfl rfl fun w S => c_end' (x_thenN ?_)))
     exact j2 _ g6 g3 g4 t9 a w (S.sb rfl (.c0 (.c0 (.c0 .n)))) h5
    ·refine c_condF S rfl c5 (wp_skip (x_thenN ?_))
     exact j2 _ g6 g3 g4 t4 a w (S.sb rfl (.c0 (.c0 (.c0 .n)))) h4
 refine c_region' (s_move S rfl rfl fun a S => s_bin S rfl rfl rfl rfl fun a S => s_move S rfl rfl fun a S => ?_)
 rcases ite_of h0 with ⟨c6, h1⟩ | ⟨c6, h1⟩
 ·refine s_gF S (b := ((wr .u64 (Int.tdiv x3 2)) == 0)) rfl rfl c6 rfl fun a S => s_gF S (b := ((wr .u64 (Int.tdiv x3 2)) == 0)) rfl rfl c6 rfl fun a S => s_gF S (b := ((wr .u64 (Int.tdiv x3 2)) == 0)) rfl rfl c6 rfl fun a S => s_pick S (b := true) (hc_of rfl c6) rfl rfl fun a S => s_assign S rfl rfl fun a S => c_end' (x_thenN ?_)
  exact j1 _ true g2 g1 a w (S.sb rfl (.c0 (.c0 .n))) h1
 ·refine s_gT S (b := ((wr .u64 (Int.tdiv x3 2)) == 0)) rfl rfl c6 (s_move S rfl rfl fun a S => s_gT S (b := ((wr .u64 (Int.tdiv x3 2)) == 0)) rfl rfl c6 (s_move S rfl rfl fun a S => s_gT S (b := ((wr .u64 (Int.tdiv x3 2)) == 0)) rfl rfl c6 (s_bin S rfl rfl rfl rfl fun a S => s_pick S (b := false) (hc_of rfl c6) rfl rfl fun a S => s_assign S rfl rfl fun a S => c_end' (x_thenN ?_))))
  exact j1 _ (x2 == (wr .u64 (Int.tdiv x3 2))) g2 g1 a w (S.sb rfl (.c0 (.c0 .n))) h1
abbrev word_From.Ty : Type := (List Int) → Option ((List Int))
def word_From.Ctr (s : word_From.Ty) : Prop := ∀ (x1 : List Int) (ch_0_0 : Option Addr) (ch_0_1 : Nat) (r : (List Int)), Ct (C := Unit) Tryd.prog 57 (s x1 = some r) [] [(.q yb ch_0_0 ch_0_1 x1)] (fun _ => (.a4 r)) fun _ => []
def word_From.j2 (y16 : List Int) : Option ((List Int)) := some y16
def word_From.j3 (y29 : Int) (rec1 : Int → (List Int) → Option ((List Int))) (y35 : List Int) : Option ((List Int)) := rec1 (wr .i64 (y29 + 1)) y35
def word_From.b2 (y1 : List Int) (y29 : Int) (rec1 : Int → (List Int) → Option ((List Int))) (rec2 : Int → (List Int) → Option ((List Int))) (y38 : Int) (y39 : List Int) : Option ((List Int)) := if (decide (y38 < 8)) = true then (if (0 : Int) ≤ y29 ∧ y29 < 4 then (if (0 : Int) ≤ (wr .i64 ((wr .i64 (31 - (wr .i64 (8 * y29)))) - y38)) ∧ (wr .i64 ((wr .i64 (31 - (wr .i64 (8 * y29)))) - y38)) < 32 then (if (0 : Int) ≤ (wr .i64 (8 * y38)) then (rec2 (wr .i64 (y38 + 1)) (y39.set (Int.toNat y29) (bits .or .u64 (rd y39 y29) (shl .u64 (wr .u64 (rd (cpy [0, 0, 0, 0, 0, 0, 0, 0, 0, 0, 0, 0, 0, 0, 0, 0, 0, 0, 0, 0, 0, 0, 0, 0, 0, 0, 0, 0, 0, 0, 0, 0] (Int.toNat (wr .i64 (32 - ((y1).length : Int)))) y1 (min (y1).length (Int.toNat 32 - Int.toNat (wr .i64 (32 - ((y1).length : Int)))))) (wr .i64 ((wr .i64 (31 - (wr .i64 (8 * y29)))) - y38)))) (min (Int.toNat (wr .i64 (8 * y38))) 64))))) else none) else none) else none) else (word_From.j3 y29 rec1 y39)
def word_From.l2 (y1 : List Int) (y29 : Int) (rec1 : Int → (List Int) → Option ((List Int))) : Nat → Int → (List Int) → Option ((List Int))
  | 0, _, _ => none
  | q + 1, y38, y39 => word_From.b2 y1 y29 rec1 (word_From.l2 y1 y29 rec1 q) y38 y39
def word_From.b1 (k : Nat) (y1 : List Int) (rec1 : Int → (List Int) → Option ((List Int))) (y29 : Int) (y30 : List Int) : Option ((List Int)) := if (decide (y29 < 4)) = true then (word_From.l2 y1 y29 rec1 k 0 y30) else (word_From.j2 y30)
def word_From.l1 (k : Nat) (y1 : List Int) : Nat → Int → (List Int) → Option ((List Int))
  | 0, _, _ => none
  | q + 1, y29, y30 => word_From.b1 k y1 (word_From.l1 k y1 q) y29 y30
def word_From.j1 (k : Nat) (y1 : List Int) : Option ((List Int)) := if (0 : Int) ≤ (wr .i64 (32 - ((y1).length : Int))) ∧ ((wr .i64 (32 - ((y1).length : Int))) : Int) ≤ 32 ∧ 32 ≤ ((32 : Nat) : Int) then (word_From.l1 k y1 k 0 [0, 0, 0, 0]) else none
def word_From.f (k : Nat) (x1 : List Int) : Option ((List Int)) := if (decide (32 < ((x1).length : Int))) = true then (if (0 : Int) ≤ (wr .i64 (((x1).length : Int) - 32)) ∧ ((wr .i64 (((x1).length : Int) - 32)) : Int) ≤ ((x1).length : Int) ∧ ((x1).length : Int) ≤ ((x1).length : Int) then (word_From.j1 k (x1.drop (Int.toNat (wr .i64 (((x1).length : Int) - 32))))) else none) else (word_From.j1 k x1)
theorem word_From.ok (k : Nat) : word_From.Ctr (word_From.f k) := by
 intro x1 ch_0_0 ch_0_1 r h0 mi w0 ok hm
 delta word_From.f at h0
 refine c_enterZ (n := 46) ok hm func57 rfl rfl rfl fun b0 hb a S => c_region (s_alloc S Z26 rfl ⟨rfl, trivial⟩ rfl fun g1 a w S => c_end (c_region (s_alloc S Z22 rfl ⟨rfl, trivial⟩ rfl fun g2 a w S => c_end (wp_seq_k fun K1 hK1 => ?_))))
 have j1 : ∀ m A1 cp1 y1 g3 g4 a w, St 46 m b0 [(0, (.q yb A1 cp1 y1)), (3, (.p g3)), (2, (.p g4))] [Res.cells g3 22 [.b32 z32], Res.cells g4 26 [.w4 [0, 0, 0, 0]]] a w → word_From.j1 k y1 = some r → K1 a w := by
  intro m A1 cp1 y1 g3 g4 a w S h0
  delta word_From.j1 at h0
  refine hK1 a w (c_region (s_move S rfl rfl fun a S => s_lenS S rfl underlying37 rfl fun a S => s_bin S rfl rfl rfl rfl fun a S => ?_))
  obtain ⟨c1, h1⟩ := chk_of h0; clear h0
  refine s_sliceA S (i := (wr .i64 (32 - ((y1).length : Int)))) (j := 32) (o' := if 32 = Int.toNat (wr .i64 (32 - ((y1).length : Int))) then 0 else 0 + Int.toNat (wr .i64 (32 - ((y1).length : Int))) * 1) (len := Int.toNat 32 - Int.toNat (wr .i64 (32 - ((y1).length : Int)))) (cap := 32 - Int.toNat (wr .i64 (32 - ((y1).length : Int)))) rfl underlying22 T5 (.inr ⟨_, _, rfl, rfl⟩) (.inl ⟨rfl, rfl⟩) c1 rfl rfl rfl rfl fun a S => s_move S rfl rfl fun a S => s_copyA S (N := min (y1).length (Int.toNat 32 - Int.toNat (wr .i64 (32 - ((y1).length : Int))))) (lo := Int.toNat (wr .i64 (32 - ((y1).length : Int)))) rfl .h rfl rfl (RdS.srcI (S.get 19 (.q yb A1 cp1 y1) rfl).2.2.2.1 S.frz) rfl .h (ho_if c1) (hl_if c1) underlying37 T5 rfl fun a w S => c_end (c_region (s_alloc S Z26 rfl ⟨rfl, trivial⟩ rfl fun g5 a w S => c_end (wp_seq_k fun K2 hK2 => ?_)))
  have j2 : ∀ m g39 g40 y16 a w, St 46 m b0 [(4, (.p g39)), (2, (.p g40))] [Res.cells g39 26 [.w4 y16], Res.cells g40 26 [.w4 [0, 0, 0, 0]]] a w → word_From.j2 y16 = some r → K2 a w := by
   intro m g39 g40 y16 a w S h0
   delta word_From.j2 at h0
   refine hK2 a w (c_region (s_loada S rfl .h T26 (s' := [.w4 y16]) rfl rfl fun a S => s_store S rfl rfl rfl (s' := [.w4 y16]) .h1 T26 rfl rfl fun w S => c_end (wp_ret ?_)))
   obtain rfl := Option.some.inj h0
   exact b_ret1 (d := (.a4 y16)) S rfl (resD_cell rfl .h1 T26 rfl rfl) (S.rt hb)
  refine c_region (s_move S rfl rfl fun a S => c_end (wp_block ?_))
  refine c_loop (fun q1 a w => ∃ m y29 g71 g72 g73 y30, St 46 m b0 [(21, (.i y29)), (4, (.p g71)), (3, (.p g72)), (2, (.p g73))] [Res.cells g71 26 [.w4 y30], Res.cells g72 22 [.b32 (cpy z32 (Int.toNat (wr .i64 (32 - ((y1).length : Int)))) y1 (min (y1).length (Int.toNat 32 - Int.toNat (wr .i64 (32 - ((y1).length : Int))))))], Res.cells g73 26 [.w4 [0, 0, 0, 0]]] a w ∧ word_From.l1 k y1 q1 y29 y30 = some r) ?_ ?_ (k := k) ⟨_, 0, g5, g3, g4, [0, 0, 0, 0], (S.sb rfl (.c0 (.c0 (.c0 .n)))), h1⟩
  ·rintro a w ⟨m, y29, g71, g72, g73, y30, S, h0⟩
   exact (nomatch (show (none : Option ((List Int))) = some r from h0))
  ·clear S h1
   rintro q1 a w ⟨m, y29, g71, g72, g73, y30, S, h0⟩
   replace h0 : word_From.b1 k y1 (word_From.l1 k y1 q1) y29 y30 = some r := h0
   delta word_From.b1 at h0
   refine c_region (s_bin S rfl rfl rfl rfl fun a S => c_end (wp_seq ?_))
   rcases ite_of h0 with ⟨c2, h1⟩ | ⟨c2, h1⟩
   ·refine c_condT S rfl c2 (wp_skip (x_thenN (wp_seq_k fun K3 hK3 => ?_)))
    have j3 : ∀ m g83 g84 g85 y35 a w, St 46 m b0 [(21, (.i y29)), (4, (.p g83)), (3, (.p g84)), (2, (.p g85))] [Res.cells g83 26 [.w4 y35], Res.cells g84 22 [.b32 (cpy z32 (Int.toNat (wr .i64 (32 - ((y1).length : Int)))) y1 (min (y1).length (Int.toNat 32 - Int.toNat (wr .i64 (32 - ((y1).length : Int))))))], Res.cells g85 26 [.w4 [0, 0, 0, 0]]] a w → word_From.j3 y29 (word_From.l1 k y1 q1) y35 = some r → K3 a w := by
     intro m g83 g84 g85 y35 a w S h0
     delta word_From.j3 at h0
     refine hK3 a w (c_region' (s_bin S rfl rfl rfl rfl fun a S => s_move S rfl rfl fun a S => c_end' (x_thenN ?_)))
     exact ⟨_, (wr .i64 (y29 + 1)), g83, g84, g85, y35, (S.sb rfl (.c0 (.c0 (.c0 .n)))), h0⟩
    refine wp_block (c_region (s_move S rfl rfl fun a S => s_assign S rfl rfl fun a S => c_end (c_region (s_move S rfl rfl fun a S => c_end (wp_block ?_)))))
    refine c_loop (fun q2 a w => ∃ m y38 g92 g93 g94 y39, St 46 m b0 [(24, (.i y38)), (5, (.i y29)), (21, (.i y29)), (4, (.p g92)), (3, (.p g93)), (2, (.p g94))] [Res.cells g92 26 [.w4 y39], Res.cells g93 22 [.b32 (cpy z32 (Int.toNat (wr .i64 (32 - ((y1).length : Int)))) y1 (min (y1).length (Int.toNat 32 - Int.toNat (wr .i64 (32 - ((y1).length : Int))))))], Res.cells g94 26 [.w4 [0, 0, 0, 0]]] a w ∧ word_From.l2 y1 y29 (word_From.l1 k y1 q1) q2 y38 y39 = some r) ?_ ?_ (k := k) ⟨_, 0, g71, g72, g73, y30, (S.sb rfl (.c0 (.c0 (.c0 .n)))), h1⟩
    ·rintro a w ⟨m, y38, g92, g93, g94, y39, S, h0⟩
     exact (nomatch (show (none : Option ((List Int))) = some r from h0))
    ·clear S h1
     rintro q2 a w ⟨m, y38, g92, g93, g94, y39, S, h0⟩
     replace h0 : word_From.b2 y1 y29 (word_From.l1 k y1 q1) (word_From.l2 y1 y29 (word_From.l1 k y1 q1) q2) y38 y39 = some r := h0
     delta word_From.b2 at h0
     refine c_region (s_bin S rfl rfl rfl rfl fun a S => c_end (wp_seq ?_))
     rcases ite_of h0 with ⟨c3, h1⟩ | ⟨c3, h1⟩
     ·refine c_condT S rfl c3 (wp_skip (x_thenN (wp_seq (wp_block (c_region (s_move S rfl rfl fun a S => s_assign S rfl rfl fun a S => c_end (c_heldS S (.take 0 (.take 1 (.take 2 (.take 3 (.take 4 (.take 5 (.take 6 (.take 7 (.take 8 (.take 9 (.take 10 (.take 11 (.take 12 (.take 13 (.take 14 (.take 15 (.alts (.run 16 false .done .nil)))))))))))))))))) 16 [Res.cells g92 26 [.w4 y39], Res.cells g93 22 [.b32 (cpy z32 (Int.toNat (wr .i64 (32 - ((y1).length : Int)))) y1 (min (y1).length (Int.toNat 32 - Int.toNat (wr .i64 (32 - ((y1).length : Int))))))], Res.cells g94 26 [.w4 [0, 0, 0, 0]]] (.c0 (.c0 (.c0 .n))) ⟨Res.stay_cells, Res.stay_cells, Res.stay_cells, trivial⟩ [(6, (.i y38)), (5, (.i y29)), (4, (.p g92)), (3, (.p g93))] (subR rfl) (by kernel_rfl) (by kernel_rfl) fun w S CL hw le => ?_)))))))
      refine h_move S CL hw le (subR rfl) rfl rfl rfl trivial fun a S CL => ?_
      obtain ⟨c4, h2⟩ := chk_of h1; clear h1
      refine h_iaddr S CL hw le (subR rfl) rfl rfl underlying26 T24 c4.1 c4.2 (mul1 _ _) rfl rfl trivial fun a S CL => h_loadi S CL hw le (subR rfl) (i := y29) rfl .h T24 .h rfl c4.1 c4.2 rfl rfl trivial fun a S CL => h_move S CL hw le (subR rfl) rfl rfl rfl trivial fun a S CL => h_bin S CL hw le (subR rfl) rfl rfl rfl rfl rfl trivial fun a S CL => h_bin S CL hw le (subR rfl) rfl rfl rfl rfl rfl trivial fun a S CL => h_move S CL hw le (subR rfl) rfl rfl rfl trivial fun a S CL => h_bin S CL hw le (subR rfl) rfl rfl rfl rfl rfl trivial fun a S CL => ?_
      obtain ⟨c5, h3⟩ := chk_of h2; clear h2
      refine h_iaddr S CL hw le (subR rfl) rfl rfl underlying22 T5 c5.1 c5.2 (mul1 _ _) rfl rfl trivial fun a S CL => h_loadi S CL hw le (subR rfl) (i := (wr .i64 ((wr .i64 (31 - (wr .i64 (8 * y29)))) - y38))) rfl .h1 T5 .h rfl c5.1 c5.2 rfl rfl trivial fun a S CL => h_conv S CL hw le (subR rfl) rfl rfl underlying24 rfl rfl trivial fun a S CL => h_move S CL hw le (subR rfl) rfl rfl rfl trivial fun a S CL => h_bin S CL hw le (subR rfl) rfl rfl rfl rfl rfl trivial fun a S CL => ?_
      obtain ⟨c6, h4⟩ := chk_of h3; clear h3
      refine h_shl S CL hw le (subR rfl) (e := (min (Int.toNat (wr .i64 (8 * y38))) 64)) rfl rfl c6 rfl rfl rfl trivial fun a S CL => h_bin S CL hw le (subR rfl) rfl rfl rfl rfl rfl trivial fun a S CL => h_iaddr S CL hw le (subR rfl) rfl rfl underlying26 T24 c4.1 c4.2 (mul1 _ _) rfl rfl trivial fun a S CL => h_run' S rfl trivial (s_storei S (i := y29) rfl rfl .h T24 .h rfl c4.1 c4.2 fun w S => ?_)
      refine h_back ⟨fun h => (nomatch h), ?_⟩
      refine h_done ?_; clear CL hw le
      refine x_blockN (x_thenN (c_region' (s_bin S rfl rfl rfl rfl fun a S => s_move S rfl rfl fun a S => c_end' (x_thenN ?_))))
      exact ⟨_, (wr .i64 (y38 + 1)), g92, g93, g94, (y39.set (Int.toNat y29) (bits .or .u64 (rd y39 y29) (shl .u64 (wr .u64 (rd (cpy z32 (Int.toNat (wr .i64 (32 - ((y1).length : Int)))) y1 (min (y1).length (Int.toNat 32 - Int.toNat (wr .i64 (32 - ((y1).length : Int)))))) (wr .i64 ((wr .i64 (31 - (wr .i64 (8 * y29)))) - y38)))) (min (Int.toNat (wr .i64 (8 * y38))) 64)))), (S.sb rfl (.c0 (.c0 (.c0 .n)))), h4⟩
     ·refine c_condF S rfl c3 (wp_exit (x_thenX (x_thenX (x_blockX (x_blockN (x_thenN ?_))))))
      exact j3 _ g92 g93 g94 y39 a w (S.sb rfl (.c0 (.c0 (.c0 .n)))) h1
   ·refine c_condF S rfl c2 (wp_exit (x_thenX (x_thenX (x_blockX (x_thenN ?_)))))
    exact j2 _ g71 g73 y30 a w (S.sb rfl (.c0 (.c1 .n))) h1
 refine c_region (s_move S rfl rfl fun a S => s_lenS S rfl underlying37 rfl fun a S => s_bin S rfl rfl rfl rfl fun a S => c_end ?_)
 rcases ite_of h0 with ⟨c7, h1⟩ | ⟨c7, h1⟩
 ·refine c_condT S rfl c7 (c_region' (s_move S rfl rfl fun a S => s_move S rfl rfl fun a S => s_lenS S rfl underlying37 rfl fun a S => s_bin S rfl rfl rfl rfl fun a S => ?_))
  obtain ⟨c8, h2⟩ := chk_of h1; clear h1
  refine s_cutS S (i := (wr .i64 (((x1).length : Int) - 32))) (j := ((x1).length : Int)) (ys := x1.drop (Int.toNat (wr .i64 (((x1).length : Int) - 32)))) rfl rfl underlying37 T5 (.inr ⟨_, _, rfl, rfl⟩) (.inl ⟨rfl, rfl⟩) c8 rfl (cut_end rfl) fun A2 cp2 a S => s_assign S rfl rfl fun a S => c_end' (x_thenN ?_)
  exact j1 _ A2 cp2 (x1.drop (Int.toNat (wr .i64 (((x1).length : Int) - 32)))) g2 g1 a w (S.sb rfl (.c0 (.c0 .n))) h2
 ·refine c_condF S rfl c7 (wp_skip (x_thenN ?_))
  exact j1 _ ch_0_0 ch_0_1 x1 g2 g1 a w (S.sb rfl (.c0 (.c0 .n))) h1
abbrev keccak_Word.Ty : Type := (List Int) → Option ((List Int))
def keccak_Word.Ctr (s : keccak_Word.Ty) : Prop := ∀ (x1 : List Int) (ch_0_0 : Option Addr) (ch_0_1 : Nat) (r : (List Int)), CtG (C := Unit) Tryd.prog Glob 37 (s x1 = some r) [] [(.q yb ch_0_0 ch_0_1 x1)] (fun _ => (.a4 r)) fun _ => []
def keccak_Word.f (k : Nat) (x1 : List Int) : Option ((List Int)) := (keccak_Sum.f k x1).bind fun t1 => ((word_From.f k (((t1).drop 0).take 32)).bind fun t2 => (some t2))
theorem keccak_Word.ok (k : Nat) : keccak_Word.Ctr (keccak_Word.f k) := by
 intro x1 ch_0_0 ch_0_1 r h0 mi w0 G ok hm
 delta keccak_Word.f at h0
 refine c_enterZ (n := 8) ok hm func37 rfl rfl rfl fun b0 hb a S => c_region (s_alloc S Z26 rfl ⟨rfl, trivial⟩ rfl fun g1 a w S => c_end (c_region (s_move S rfl rfl fun a S => bindX h0 fun t1 et1 h1 => s_callP S _ N42 rfl rfl (keccak_Sum.ok k x1 ch_0_0 ch_0_1 t1 et1 _ _ (G.mono (S.leB hb))) fun ch1 m le1 a w S => s_alloc S Z23 rfl ⟨rfl, trivial⟩ rfl fun g2 a w S => s_store S rfl rfl rfl (s' := [.b32 t1]) .h T23 rfl rfl fun w S => c_end (c_region (s_sliceA S (i := 0) (j := 32) (o' := 0) (len := 32) (cap := 32) rfl underlying23 T5 (.inl ⟨rfl, rfl⟩) (.inl ⟨rfl, rfl⟩) (by decide) rfl rfl rfl rfl fun a S => ?_)))))
 replace S := S.freeze .h
 obtain ⟨m, le1, S⟩ := S
 replace S := (S.slup' (u := 6) (lo := 0) (c := 32) (ys := ((t1).drop 0).take 32) rfl (Pull.mem .h).1 .h (.inl rfl) (by decide) (by decide) rfl).2
 refine bindX h1 fun t2 et2 h2 => s_callP S _ N57 rfl rfl (word_From.ok k (((t1).drop 0).take 32) (ad g2) 32 t2 et2 _ _) fun ch2 m le1 a w S => s_store S rfl rfl rfl (s' := [.w4 t2]) .h1 T26 rfl rfl fun w S => c_end (wp_ret ?_)
 obtain rfl := Option.some.inj h2
 exact b_ret1 (d := (.a4 t2)) S rfl (resD_cell rfl .h1 T26 rfl rfl) (S.rt hb)
abbrev block_Root_1.Ty : Type := (List Int) → Option ((Bool × (List Int) × Int))
def block_Root_1.Ctr (s : block_Root_1.Ty) : Prop := ∀ (x1 : List Int) (r : (Bool × (List Int) × Int)), Ct (C := ((Option Addr) × Nat)) Tryd.prog 34 (s x1 = some r) [] [(.a32 x1)] (fun ch => (.agg [.b r.1, .q yb ch.1 ch.2 r.2.1, .i r.2.2])) fun _ => []
def block_Root_1.f (x1 : List Int) : Option ((Bool × (List Int) × Int)) := (block_item.f (((x1).drop 0).take 32)).bind fun t1 => (some (t1.1, t1.2.1, t1.2.2))
theorem block_Root_1.ok : block_Root_1.Ctr (block_Root_1.f) := by
 intro x1 r h0 mi w0 ok hm
 delta block_Root_1.f at h0
 refine c_enterZ (n := 5) ok hm func34 rfl rfl rfl fun b0 hb a S => c_region (s_box S rfl rfl rfl fun g1 a w S => s_alloc S Z54 rfl ⟨rfl, rfl, rfl, trivial⟩ rfl fun g2 a w S => c_end (c_region (s_sliceA S (i := 0) (j := 32) (o' := 0) (len := 32) (cap := 32) rfl underlying23 T5 (.inl ⟨rfl, rfl⟩) (.inl ⟨rfl, rfl⟩) (by decide) rfl rfl rfl rfl fun a S => ?_)))
 replace S := S.freeze .h1
 obtain ⟨m, le1, S⟩ := S
 replace S := (S.slup' (u := 3) (lo := 0) (c := 32) (ys := ((x1).drop 0).take 32) rfl (Pull.mem .h1).1 .h (.inl rfl) (by decide) (by decide) rfl).2
 refine bindX h0 fun t1 et1 h1 => s_callP S _ N23 rfl rfl (block_item.ok (((x1).drop 0).take 32) (ad g1) 32 t1 et1 _ _) fun ch1 m le1 a w S => s_store S rfl rfl rfl (s' := [.b t1.1, .q yb ch1.1 ch1.2 t1.2.1, .i t1.2.2]) .h T54 rfl rfl fun w S => c_end (wp_ret ?_)
 obtain rfl := Option.some.inj h1
 exact b_ret1 (d := (.agg [.b t1.1, .q yb ch1.1 ch1.2 t1.2.1, .i t1.2.2])) S rfl (resD_cell rfl .h T54 rfl rfl) fun ok => S.retX (Hx := []) hb _ _ ((ch1.1, ch1.2) : (Option Addr) × Nat) .nil ok
abbrev api_Hash_n33_1f34.Ty : Type := (List (List Int)) → Option ((List (Bool × (List Int) × Int)))
def api_Hash_n33_1f34.Ctr (s : api_Hash_n33_1f34.Ty) : Prop := ∀ (x1 : List (List Int)) (ch_0_0 : Option Addr) (ch_0_1 : Nat) (r : (List (Bool × (List Int) × Int))), Ct (C := ((Option Addr) × Nat × Nat)) Tryd.prog 33 (s x1 = some r) [] [(.q (Ty.arr .u8 32) ch_0_0 ch_0_1 x1), (.v (.func (.func 34) #[] #[]))] (fun ch => (.s ch.1 ch.2.1 ch.2.2)) fun ch => [Res.row Y54 54 ch.1 ch.2.1 ch.2.2 r]
def api_Hash_n33_1f34.j1 (y1 : List (Bool × (List Int) × Int)) : Option ((List (Bool × (List Int) × Int))) := some y1
def api_Hash_n33_1f34.b1 (x1 : List (List Int)) (rec1 : (List (Bool × (List Int) × Int)) → Int → Option ((List (Bool × (List Int) × Int)))) (y4 : List (Bool × (List Int) × Int)) (y5 : Int) : Option ((List (Bool × (List Int) × Int))) := if (decide (y5 < ((x1).length : Int))) = true then (if (0 : Int) ≤ y5 ∧ y5 < ((x1).length : Int) then ((block_Root_1.f (gt x1 y5)).bind fun t1 => (if ((y4).length + ([(t1.1, t1.2.1, t1.2.2)]).length) * 40 ≤ 140737488355328 then (rec1 (y4 ++ [(t1.1, t1.2.1, t1.2.2)]) (wr .i64 (y5 + 1))) else none)) else none) else (api_Hash_n33_1f34.j1 y4)
def api_Hash_n33_1f34.l1 (x1 : List (List Int)) : Nat → (List (Bool × (List Int) × Int)) → Int → Option ((List (Bool × (List Int) × Int)))
  | 0, _, _ => none
  | q + 1, y4, y5 => api_Hash_n33_1f34.b1 x1 (api_Hash_n33_1f34.l1 x1 q) y4 y5
def api_Hash_n33_1f34.f (k : Nat) (x1 : List (List Int)) : Option ((List (Bool × (List Int) × Int))) := api_Hash_n33_1f34.l1 x1 k ([] : List (Bool × (List Int) × Int)) 0
theorem api_Hash_n33_1f34.ok (k : Nat) : api_Hash_n33_1f34.Ctr (api_Hash_n33_1f34.f k) := by
 intro x1 ch_0_0 ch_0_1 r h0 mi w0 ok hm
 delta api_Hash_n33_1f34.f at h0
 refine c_enterZ (n := 22) ok hm func33 rfl rfl rfl fun b0 hb a S => c_region (s_assign S rfl rfl fun a S => c_end (c_region (s_assign S rfl rfl fun a S => c_end (wp_seq_k fun K1 hK1 => ?_))))
 have j1 : ∀ m A1 nn1 cp1 y1 a w, St 22 m b0 [(5, (.s A1 nn1 cp1))] [Res.row Y54 54 A1 nn1 cp1 y1] a w → api_Hash_n33_1f34.j1 y1 = some r → K1 a w := by
  intro m A1 nn1 cp1 y1 a w S h0
  delta api_Hash_n33_1f34.j1 at h0
  refine hK1 a w (c_region (s_move S rfl rfl fun a S => s_assign S rfl rfl fun a S => c_end (wp_ret ?_)))
  obtain rfl := Option.some.inj h0
  exact b_ret1 (d := (.s A1 nn1 cp1)) S rfl rfl fun ok => S.retX (Hx := []) hb _ _ ((A1, nn1, cp1) : (Option Addr) × Nat × Nat) (.c0 .n) ok
 refine c_region (s_move S rfl rfl fun a S => s_lenS S rfl underlying31 rfl fun a S => s_move S rfl rfl fun a S => c_end (wp_block ?_))
 replace S := S.nilrow Y54 54
 refine c_loop (fun q1 a w => ∃ m A2 nn3 cp5 y4 y5, St 22 m b0 [(5, (.s A2 nn3 cp5)), (10, (.i y5)), (9, (.i ((x1).length : Int))), (8, (.q (Ty.arr .u8 32) ch_0_0 ch_0_1 x1)), (1, (.v (.func (.func 34) #[] #[])))] [Res.row Y54 54 A2 nn3 cp5 y4] a w ∧ api_Hash_n33_1f34.l1 x1 q1 y4 y5 = some r) ?_ ?_ (k := k) ⟨_, none, 0, 0, ([] : List (Bool × (List Int) × Int)), 0, (S.sb rfl (.c0 .n)), h0⟩
 ·rintro a w ⟨m, A2, nn3, cp5, y4, y5, S, h0⟩
  exact (nomatch (show (none : Option ((List (Bool × (List Int) × Int)))) = some r from h0))
 ·clear S h0
  rintro q1 a w ⟨m, A2, nn3, cp5, y4, y5, S, h0⟩
  replace h0 : api_Hash_n33_1f34.b1 x1 (api_Hash_n33_1f34.l1 x1 q1) y4 y5 = some r := h0
  delta api_Hash_n33_1f34.b1 at h0
  refine c_region (s_bin S rfl rfl rfl rfl fun a S => c_end (wp_seq ?_))
  rcases ite_of h0 with ⟨c1, h1⟩ | ⟨c1, h1⟩
  ·refine c_condT S rfl c1 (wp_skip (x_thenN (wp_seq (wp_block (c_region ?_)))))
   obtain ⟨c2, h2⟩ := chk_of h1; clear h1
   refine s_iaddrS S rfl rfl rfl underlying31 T23 c2.1 c2.2 rfl fun p1 a S => s_ldA S (fun (c : Unit) => [.b32 (gt x1 y5)]) rfl T23 (fun _ => rfl) rfl fun ch1 a S => s_alloc S Z23 rfl ⟨rfl, trivial⟩ rfl fun g1 a w S => s_store S rfl rfl rfl (s' := [.b32 (gt x1 y5)]) .h T23 rfl rfl fun w S => c_end (c_region' (s_move S rfl rfl fun a S => s_move S rfl rfl fun a S => s_loada S rfl .h T23 (s' := [.b32 (gt x1 y5)]) rfl rfl fun a S => bindX h2 fun t1 et1 h3 => s_callP S _ N34 rfl rfl (block_Root_1.ok (gt x1 y5) t1 et1 _ _) fun ch2 m le1 a w S => s_bldSl S (ty' := Y54) (ds := [(0, (.agg [.b t1.1, .q yb ch2.1 ch2.2 t1.2.1, .i t1.2.2]))]) (z := (false, ([] : List Int), 0)) (c0 := ((), (none, 0), ())) (ys := [(t1.1, t1.2.1, t1.2.2)]) (cs := [((), (ch2.1, ch2.2), ())]) rfl underlying51 J54 Z54 rfl ⟨rfl, ⟨Nat.le_refl _, Nat.zero_le _, RdS.nil _ _ _, RdS.mono _ _ _⟩, rfl, trivial⟩ rfl rfl rfl rfl rfl rfl fun g2 a w S => ?_))
   obtain ⟨c3, h4⟩ := chk_of h3; clear h3
   refine s_app S (k2 := 1) (ys := [(t1.1, t1.2.1, t1.2.2)]) rfl (fun _ _ => .h2) rfl rfl (S.holds _ (Pull.mem .h).1).1 (Res.row.src (S.holds _ (Pull.mem .h).1)) underlying51 J54 c3 rfl fun A3 cp6 a w S => s_assign S rfl rfl fun a S => c_end' (x_blockN (x_thenN (c_region' (s_bin S rfl rfl rfl rfl fun a S => s_move S rfl rfl fun a S => c_end' (x_thenN ?_)))))
   exact ⟨_, A3, (nn3 + 1), cp6, (y4 ++ [(t1.1, t1.2.1, t1.2.2)]), (wr .i64 (y5 + 1)), (S.sb rfl (.c2 .n)), h4⟩
  ·refine c_condF S rfl c1 (wp_exit (x_thenX (x_thenX (x_blockX (x_thenN ?_)))))
   exact j1 _ A2 nn3 cp5 y4 a w (S.sub ⟨rfl, trivial⟩ (.c0 .n)) h1
abbrev block_Root.Ty : Type := (List (List Int)) → Option ((List Int))
def block_Root.Ctr (s : block_Root.Ty) : Prop := ∀ (x1 : List (List Int)) (ch_0_0 : Option Addr) (ch_0_1 : Nat) (r : (List Int)), CtG (C := Unit) Tryd.prog Glob 9 (s x1 = some r) [] [(.q (Ty.arr .u8 32) ch_0_0 ch_0_1 x1)] (fun _ => (.a32 r)) fun _ => []
def block_Root.f (k : Nat) (x1 : List (List Int)) : Option ((List Int)) := (api_Hash_n33_1f34.f k x1).bind fun t1 => ((block_list.f k [t1]).bind fun t2 => ((block_hash.f k t2).bind fun t3 => (some t3)))
theorem block_Root.ok (k : Nat) : block_Root.Ctr (block_Root.f k) := by
 intro x1 ch_0_0 ch_0_1 r h0 mi w0 G ok hm
 delta block_Root.f at h0
 refine c_enterZ (n := 8) ok hm func9 rfl rfl rfl fun b0 hb a S => c_region (s_alloc S Z23 rfl ⟨rfl, trivial⟩ rfl fun g1 a w S => c_end (c_region (s_move S rfl rfl fun a S => bindX h0 fun t1 et1 h1 => s_callR S (fun (ch : (Option Addr) × Nat × Nat) => ((.s ch.1 ch.2.1 ch.2.2) : D)) (fun (ch : (Option Addr) × Nat × Nat) => Res.row Y54 54 ch.1 ch.2.1 ch.2.2 t1) N33 rfl rfl (api_Hash_n33_1f34.ok k x1 ch_0_0 ch_0_1 t1 et1 _ _) fun ch1 m le1 a w S => ?_)))
 replace S := S.rowfro .h
 obtain ⟨m, le1, S, hro⟩ := S
 replace S := S.slotro (u := 4) rfl hro
 refine s_bldSl S (ty' := (Ty.slice Y54)) (ds := [(0, (.q Y54 ch1.1 ch1.2.2 t1))]) (z := ([] : List (Bool × (List Int) × Int))) (c0 := (none, 0)) (ys := [t1]) (cs := [(ch1.1, ch1.2.2)]) rfl underlying76 J51 Z51 rfl ⟨⟨Nat.le_refl _, Nat.zero_le _, RdS.nil _ _ _, RdS.mono _ _ _⟩, trivial⟩ rfl rfl rfl rfl rfl rfl fun g2 a w S => ?_
 replace S := S.rowfro .h
 obtain ⟨m, le1, S, hro⟩ := S
 replace S := S.slotro (u := 5) rfl hro
 refine bindX h1 fun t2 et2 h2 => s_callR S (fun (ch : (Option Addr) × Nat × Nat) => ((.s ch.1 ch.2.1 ch.2.2) : D)) (fun (ch : (Option Addr) × Nat × Nat) => Res.row Y54 54 ch.1 ch.2.1 ch.2.2 t2) N22 rfl rfl (block_list.ok k [t1] (ad g2) 1 t2 et2 _ _) fun ch2 m le1 a w S => ?_
 replace S := S.rowfro .h
 obtain ⟨m, le1, S, hro⟩ := S
 replace S := S.slotro (u := 6) rfl hro
 refine bindX h2 fun t3 et3 h3 => s_callP S _ N21 rfl rfl (block_hash.ok k t2 ch2.1 ch2.2.2 t3 et3 _ _ (G.mono (S.leB hb))) fun ch3 m le1 a w S => s_store S rfl rfl rfl (s' := [.b32 t3]) .h T23 rfl rfl fun w S => c_end (wp_ret ?_)
 obtain rfl := Option.some.inj h3
 exact b_ret1 (d := (.a32 t3)) S rfl (resD_cell rfl .h T23 rfl rfl) (S.rt hb)
abbrev block_Next.Ty : Type := L30 → Int → Int → Option L30
def block_Next.Ctr (s : block_Next.Ty) : Prop := ∀ (x1 : L30) (x2 : Int) (x3 : Int) (r : L30), CtG (C := Unit) Tryd.prog Glob 14 (s x1 x2 x3 = some r) [] [(.agg [.b32 x1.1, .w x1.2.1, .w x1.2.2.1, .w x1.2.2.2.1, .w x1.2.2.2.2.1, .w4 x1.2.2.2.2.2.1, .b20 x1.2.2.2.2.2.2.1, .w4 x1.2.2.2.2.2.2.2.1, .b32 x1.2.2.2.2.2.2.2.2.1, .b32 x1.2.2.2.2.2.2.2.2.2]), (.w x2), (.w x3)] (fun _ => (.agg [.b32 r.1, .w r.2.1, .w r.2.2.1, .w r.2.2.2.1, .w r.2.2.2.2.1, .w4 r.2.2.2.2.2.1, .b20 r.2.2.2.2.2.2.1, .w4 r.2.2.2.2.2.2.2.1, .b32 r.2.2.2.2.2.2.2.2.1, .b32 r.2.2.2.2.2.2.2.2.2])) fun _ => []
def block_Next.f (k : Nat) (x1 : L30) (x2 : Int) (x3 : Int) : Option L30 := (block_Hash.f k (x1.1, x1.2.1, x1.2.2.1, x1.2.2.2.1, x1.2.2.2.2.1, x1.2.2.2.2.2.1, x1.2.2.2.2.2.2.1, x1.2.2.2.2.2.2.2.1, x1.2.2.2.2.2.2.2.2.1, x1.2.2.2.2.2.2.2.2.2)).bind fun t1 => ((fee_Next.f k x1.2.2.2.2.2.1 x1.2.2.2.2.1 x1.2.2.2.1).bind fun t2 => ((keccak_Word.f k (((t1).drop 0).take 32)).bind fun t3 => ((block_Root.f k ([] : List (List Int))).bind fun t4 => ((block_Root.f k ([] : List (List Int))).bind fun t5 => (some (t1, wr .u64 (x1.2.1 + 1), x2, x3, 0, t2, x1.2.2.2.2.2.2.1, t3, t4, t5))))))
theorem block_Next.ok (k : Nat) : block_Next.Ctr (block_Next.f k) := by
 intro x1 x2 x3 r h0 mi w0 G ok hm
 delta block_Next.f at h0
 refine c_enterZ (n := 30) ok hm func14 rfl rfl rfl fun b0 hb a S => c_region (s_box S rfl rfl rfl fun g1 a w S => s_alloc S Z30 rfl ⟨rfl, rfl, rfl, rfl, rfl, rfl, rfl, rfl, rfl, rfl, trivial⟩ rfl fun g2 a w S => c_end (c_region (s_loada S rfl .h1 T30 (s' := [.b32 x1.1, .w x1.2.1, .w x1.2.2.1, .w x1.2.2.2.1, .w x1.2.2.2.2.1, .w4 x1.2.2.2.2.2.1, .b20 x1.2.2.2.2.2.2.1, .w4 x1.2.2.2.2.2.2.2.1, .b32 x1.2.2.2.2.2.2.2.2.1, .b32 x1.2.2.2.2.2.2.2.2.2]) rfl rfl fun a S => bindX h0 fun t1 et1 h1 => s_callP S _ N7 rfl rfl (block_Hash.ok k (x1.1, x1.2.1, x1.2.2.1, x1.2.2.2.1, x1.2.2.2.2.1, x1.2.2.2.2.2.1, x1.2.2.2.2.2.2.1, x1.2.2.2.2.2.2.2.1, x1.2.2.2.2.2.2.2.2.1, x1.2.2.2.2.2.2.2.2.2) t1 et1 _ _ (G.mono (S.leB hb))) fun ch1 m le1 a w S => s_alloc S Z23 rfl ⟨rfl, trivial⟩ rfl fun g3 a w S => s_store S rfl rfl rfl (s' := [.b32 t1]) .h T23 rfl rfl fun w S => c_end ?_)))
 replace S := S.freeze .h
 obtain ⟨m, le1, S⟩ := S
 refine wp_seq (c_heldS S (.take 0 (.take 1 (.take 2 (.take 3 (.take 4 (.take 5 (.take 6 (.take 7 (.take 8 (.take 9 (.take 10 (.take 11 (.take 13 (.take 14 (.take 15 (.alts (.run 12 true (.alts (.run 16 true (.alts (.run 17 true (.alts (.run 18 true (.take 19 (.alts (.run 20 false .done .nil))) .nil)) .nil)) .nil)) .nil))))))))))))))))) 20 [Res.fro g3 23 [.b32 t1], Res.cells g2 30 [.b32 z32, .w 0, .w 0, .w 0, .w 0, .w4 [0, 0, 0, 0], .b20 z20, .w4 [0, 0, 0, 0], .b32 z32, .b32 z32], Res.cells g1 30 [.b32 x1.1, .w x1.2.1, .w x1.2.2.1, .w x1.2.2.2.1, .w x1.2.2.2.2.1, .w4 x1.2.2.2.2.2.1, .b20 x1.2.2.2.2.2.2.1, .w4 x1.2.2.2.2.2.2.2.1, .b32 x1.2.2.2.2.2.2.2.2.1, .b32 x1.2.2.2.2.2.2.2.2.2]] (.c0 (.c0 (.c0 .n))) ⟨Res.stay_fro, Res.stay_cells, Res.stay_cells, trivial⟩ [(7, (.p g3)), (3, (.p g1)), (1, (.w x2)), (2, (.w x3))] (subR rfl) (by kernel_rfl) (by kernel_rfl) ?_); clear S; intro w S CL hw le
 refine h_loadaF S CL hw le (subR rfl) rfl .h T23 (s' := [.b32 t1]) rfl rfl rfl trivial fun a S CL => h_fieldAddr S CL hw le (subR rfl) rfl I30_1 T24 (by decide) rfl rfl rfl trivial fun a S CL => h_load1 S CL hw le (subR rfl) rfl .h2 T24 (v := (.int .u64 x1.2.1)) rfl rfl rfl trivial fun a S CL => h_bin S CL hw le (subR rfl) rfl rfl rfl rfl rfl trivial fun a S CL => h_move S CL hw le (subR rfl) rfl rfl rfl trivial fun a S CL => h_move S CL hw le (subR rfl) rfl rfl rfl trivial fun a S CL => h_fieldAddr S CL hw le (subR rfl) rfl I30_5 T26 (by decide) rfl rfl rfl trivial fun a S CL => h_loada S CL hw le (subR rfl) rfl .h2 T26 (s' := [.w4 x1.2.2.2.2.2.1]) rfl rfl rfl trivial fun a S CL => h_fieldAddr S CL hw le (subR rfl) rfl I30_4 T24 (by decide) rfl rfl rfl trivial fun a S CL => h_load1 S CL hw le (subR rfl) rfl .h2 T24 (v := (.int .u64 x1.2.2.2.2.1)) rfl rfl rfl trivial fun a S CL => h_fieldAddr S CL hw le (subR rfl) rfl I30_3 T24 (by decide) rfl rfl rfl trivial fun a S CL => h_load1 S CL hw le (subR rfl) rfl .h2 T24 (v := (.int .u64 x1.2.2.2.1)) rfl rfl rfl trivial fun a S CL => h_fieldAddr S CL hw le (subR rfl) rfl I30_6 T28 (by decide) rfl rfl rfl trivial fun a S CL => h_loada S CL hw le (subR rfl) rfl .h2 T28 (s' := [.b20 x1.2.2.2.2.2.2.1]) rfl rfl rfl trivial fun a S CL => h_sliceA S CL hw le (subR rfl) (i := 0) (j := 32) (o' := 0) (len := 32) (cap := 32) rfl underlying23 T5 (.inl ⟨rfl, rfl⟩) (.inl ⟨rfl, rfl⟩) (by decide) rfl rfl rfl rfl rfl trivial fun a S CL => h_run' S rfl trivial (bindX h1 fun t2 et2 h2 => s_callP S _ N36 rfl rfl (fee_Next.ok k x1.2.2.2.2.2.1 x1.2.2.2.2.1 x1.2.2.2.1 t2 et2 _ _) fun ch2 m le1 a w S => ?_)
 replace le := le.trans le1
 replace hw := CL.again hw S (.c0 (.c0 (.c0 .n))) le
 refine h_back ⟨fun _ => hw, ?_⟩
 replace CL := CL.add (t := 22) (d := (.a4 t2)) S rfl rfl
 refine h_run' S rfl trivial ?_
 replace S := (S.slup' (u := 25) (lo := 0) (c := 32) (ys := ((t1).drop 0).take 32) rfl (Pull.mem .h).1 .h (.inl rfl) (by decide) (by decide) rfl).2
 replace CL := CL.drop (lq' := [(22, (.a4 t2)), (24, (.agg [.b20 x1.2.2.2.2.2.2.1])), (23, (.o g1 40)), (21, (.w x1.2.2.2.1)), (20, (.o g1 34)), (19, (.w x1.2.2.2.2.1)), (18, (.o g1 35)), (17, (.a4 x1.2.2.2.2.2.1)), (16, (.o g1 36)), (15, (.w x3)), (14, (.w x2)), (13, (.w (wr .u64 (x1.2.1 + 1)))), (12, (.w x1.2.1)), (11, (.o g1 32)), (10, (.a32 t1)), (7, (.p g3)), (3, (.p g1)), (1, (.w x2)), (2, (.w x3))]) (subR rfl)
 refine bindX h2 fun t3 et3 h3 => s_callP S _ N37 rfl rfl (keccak_Word.ok k (((t1).drop 0).take 32) (ad g3) 32 t3 et3 _ _ (G.mono (S.leB hb))) fun ch3 m le1 a w S => ?_
 replace le := le.trans le1
 replace hw := CL.again hw S (.c0 (.c0 (.c0 .n))) le
 refine h_back ⟨fun _ => hw, ?_⟩
 replace CL := CL.add (t := 26) (d := (.a4 t3)) S rfl rfl
 refine h_run' S rfl trivial (bindX h3 fun t4 et4 h4 => s_callX S (ds' := [(.s none 0 0)]) (ds := [(.q (Ty.arr .u8 32) none 0 ([] : List (List Int)))]) [] [Res.fro g3 23 [.b32 t1], Res.cells g2 30 [.b32 z32, .w 0, .w 0, .w 0, .w 0, .w4 [0, 0, 0, 0], .b20 z20, .w4 [0, 0, 0, 0], .b32 z32, .b32 z32], Res.cells g1 30 [.b32 x1.1, .w x1.2.1, .w x1.2.2.1, .w x1.2.2.2.1, .w x1.2.2.2.2.1, .w4 x1.2.2.2.2.2.1, .b20 x1.2.2.2.2.2.2.1, .w4 x1.2.2.2.2.2.2.2.1, .b32 x1.2.2.2.2.2.2.2.2.1, .b32 x1.2.2.2.2.2.2.2.2.2]] (fun (ch : Unit) => ((.a32 t4) : D)) (fun (ch : Unit) => []) (fun (ch : Unit) => [Res.fro g3 23 [.b32 t1], Res.cells g2 30 [.b32 z32, .w 0, .w 0, .w 0, .w 0, .w4 [0, 0, 0, 0], .b20 z20, .w4 [0, 0, 0, 0], .b32 z32, .b32 z32], Res.cells g1 30 [.b32 x1.1, .w x1.2.1, .w x1.2.2.1, .w x1.2.2.2.1, .w x1.2.2.2.2.1, .w4 x1.2.2.2.2.2.1, .b20 x1.2.2.2.2.2.2.1, .w4 x1.2.2.2.2.2.2.2.1, .b32 x1.2.2.2.2.2.2.2.2.1, .b32 x1.2.2.2.2.2.2.2.2.2]]) (fun _ => rfl) N9 rfl rfl (fun ok => ⟨ok_nil, trivial⟩) (.c0 (.c0 (.c0 .n))) rfl (block_Root.ok k ([] : List (List Int)) none 0 t4 et4 _ _ (G.mono (S.leB hb))) fun ch4 m le1 a w S => ?_)
 replace le := le.trans le1
 replace hw := CL.again hw S (.c0 (.c0 (.c0 .n))) le
 refine h_back ⟨fun _ => hw, ?_⟩
 replace CL := CL.add (t := 27) (d := (.a32 t4)) S rfl rfl
 refine h_run' S rfl trivial (bindX h4 fun t5 et5 h5 => s_callX S (ds' := [(.s none 0 0)]) (ds := [(.q (Ty.arr .u8 32) none 0 ([] : List (List Int)))]) [] [Res.fro g3 23 [.b32 t1], Res.cells g2 30 [.b32 z32, .w 0, .w 0, .w 0, .w 0, .w4 [0, 0, 0, 0], .b20 z20, .w4 [0, 0, 0, 0], .b32 z32, .b32 z32], Res.cells g1 30 [.b32 x1.1, .w x1.2.1, .w x1.2.2.1, .w x1.2.2.2.1, .w x1.2.2.2.2.1, .w4 x1.2.2.2.2.2.1, .b20 x1.2.2.2.2.2.2.1, .w4 x1.2.2.2.2.2.2.2.1, .b32 x1.2.2.2.2.2.2.2.2.1, .b32 x1.2.2.2.2.2.2.2.2.2]] (fun (ch : Unit) => ((.a32 t5) : D)) (fun (ch : Unit) => []) (fun (ch : Unit) => [Res.fro g3 23 [.b32 t1], Res.cells g2 30 [.b32 z32, .w 0, .w 0, .w 0, .w 0, .w4 [0, 0, 0, 0], .b20 z20, .w4 [0, 0, 0, 0], .b32 z32, .b32 z32], Res.cells g1 30 [.b32 x1.1, .w x1.2.1, .w x1.2.2.1, .w x1.2.2.2.1, .w x1.2.2.2.2.1, .w4 x1.2.2.2.2.2.1, .b20 x1.2.2.2.2.2.2.1, .w4 x1.2.2.2.2.2.2.2.1, .b32 x1.2.2.2.2.2.2.2.2.1, .b32 x1.2.2.2.2.2.2.2.2.2]]) (fun _ => rfl) N9 rfl rfl (fun ok => ⟨ok_nil, trivial⟩) (.c0 (.c0 (.c0 .n))) rfl (block_Root.ok k ([] : List (List Int)) none 0 t5 et5 _ _ (G.mono (S.leB hb))) fun ch5 m le1 a w S => ?_)
 replace le := le.trans le1
 replace hw := CL.again hw S (.c0 (.c0 (.c0 .n))) le
 refine h_back ⟨fun _ => hw, ?_⟩
 replace CL := CL.add (t := 28) (d := (.a32 t5)) S rfl rfl
 refine h_bldS S CL hw le (subR rfl) (ds := [(0, (.a32 t1)), (1, (.w (wr .u64 (x1.2.1 + 1)))), (2, (.w x2)), (3, (.w x3)), (5, (.a4 t2)), (6, (.agg [.b20 x1.2.2.2.2.2.2.1])), (7, (.a4 t3)), (8, (.a32 t4)), (9, (.a32 t5))]) (zs := [.b32 z32, .w 0, .w 0, .w 0, .w 0, .w4 [0, 0, 0, 0], .b20 z20, .w4 [0, 0, 0, 0], .b32 z32, .b32 z32]) (s' := [.b32 t1, .w (wr .u64 (x1.2.1 + 1)), .w x2, .w x3, .w 0, .w4 t2, .b20 x1.2.2.2.2.2.2.1, .w4 t3, .b32 t4, .b32 t5]) rfl underlying30 P30 Z30 ⟨rfl, rfl, rfl, rfl, rfl, rfl, rfl, rfl, rfl, rfl, trivial⟩ rfl rfl rfl trivial fun a S CL => h_run' S rfl trivial (s_store S rfl rfl rfl (s' := [.b32 t1, .w (wr .u64 (x1.2.1 + 1)), .w x2, .w x3, .w 0, .w4 t2, .b20 x1.2.2.2.2.2.2.1, .w4 t3, .b32 t4, .b32 t5]) .h1 T30 rfl rfl fun w S => ?_)
 refine h_back ⟨fun h => (nomatch h), ?_⟩
 refine h_done ?_; clear CL hw le
 refine x_thenN (wp_ret ?_)
 obtain rfl := Option.some.inj h5
 exact b_ret1 (d := (.agg [.b32 t1, .w (wr .u64 (x1.2.1 + 1)), .w x2, .w x3, .w 0, .w4 t2, .b20 x1.2.2.2.2.2.2.1, .w4 t3, .b32 t4, .b32 t5])) S rfl (resD_cell rfl .h1 T30 rfl rfl) (S.rt hb)
abbrev smithylaw23_fixed.Ty : Type := Option Bool
def smithylaw23_fixed.Ctr (s : smithylaw23_fixed.Ty) : Prop := ∀ (r : Bool), CtG (C := Unit) Tryd.prog Glob 6 (s = some r) [] [] (fun _ => (.b r)) fun _ => []
def smithylaw23_fixed.f (k : Nat) : Option Bool := (block_Next.f k ([0, 0, 0, 0, 0, 0, 0, 0, 0, 0, 0, 0, 0, 0, 0, 0, 0, 0, 0, 0, 0, 0, 0, 0, 0, 0, 0, 0, 0, 0, 0, 0], 0, 0, 30000000, 30000000, [1000000000, 0, 0, 0], [0, 0, 0, 0, 0, 0, 0, 0, 0, 0, 0, 0, 0, 0, 0, 0, 0, 0, 0, 0], [0, 0, 0, 0], [0, 0, 0, 0, 0, 0, 0, 0, 0, 0, 0, 0, 0, 0, 0, 0, 0, 0, 0, 0, 0, 0, 0, 0, 0, 0, 0, 0, 0, 0, 0, 0], [0, 0, 0, 0, 0, 0, 0, 0, 0, 0, 0, 0, 0, 0, 0, 0, 0, 0, 0, 0, 0, 0, 0, 0, 0, 0, 0, 0, 0, 0, 0, 0]) 5 7).bind fun t1 => (some (decide (t1.2.2.2.2.2.1 = [1125000000, 0, 0, 0])))
theorem smithylaw23_fixed.ok (k : Nat) : smithylaw23_fixed.Ctr (smithylaw23_fixed.f k) := by
 intro r h0 mi w0 G ok hm
 delta smithylaw23_fixed.f at h0
 refine c_enterZ (n := 9) ok hm func6 rfl rfl rfl fun b0 hb a S => c_region (s_assign S rfl rfl fun a S => c_end (c_region (s_build S (ds := [(0, (.w 1000000000))]) (dv := (.a4 [1000000000, 0, 0, 0])) rfl (fun _ => by kernel_rfl) ⟨rfl, trivial⟩ rfl fun a S => s_bldS S (ds := [(4, (.w 30000000)), (3, (.w 30000000)), (5, (.a4 [1000000000, 0, 0, 0]))]) (zs := [.b32 z32, .w 0, .w 0, .w 0, .w 0, .w4 [0, 0, 0, 0], .b20 z20, .w4 [0, 0, 0, 0], .b32 z32, .b32 z32]) (s' := [.b32 z32, .w 0, .w 0, .w 30000000, .w 30000000, .w4 [1000000000, 0, 0, 0], .b20 z20, .w4 [0, 0, 0, 0], .b32 z32, .b32 z32]) rfl underlying30 P30 Z30 ⟨rfl, rfl, rfl, rfl, rfl, rfl, rfl, rfl, rfl, rfl, trivial⟩ rfl rfl fun a S => s_alloc S Z30 rfl ⟨rfl, rfl, rfl, rfl, rfl, rfl, rfl, rfl, rfl, rfl, trivial⟩ rfl fun g1 a w S => s_store S rfl rfl rfl (s' := [.b32 z32, .w 0, .w 0, .w 30000000, .w 30000000, .w4 [1000000000, 0, 0, 0], .b20 z20, .w4 [0, 0, 0, 0], .b32 z32, .b32 z32]) .h T30 rfl rfl fun w S => c_end (c_region (s_loada S rfl .h T30 (s' := [.b32 z32, .w 0, .w 0, .w 30000000, .w 30000000, .w4 [1000000000, 0, 0, 0], .b20 z20, .w4 [0, 0, 0, 0], .b32 z32, .b32 z32]) rfl rfl fun a S => bindX h0 fun t1 et1 h1 => s_callP S _ N14 rfl rfl (block_Next.ok k (z32, 0, 0, 30000000, 30000000, [1000000000, 0, 0, 0], z20, [0, 0, 0, 0], z32, z32) 5 7 t1 et1 _ _ (G.mono (S.leB hb))) fun ch1 m le1 a w S => s_fielda S rfl I30_5 T26 (s' := [.w4 t1.2.2.2.2.2.1]) rfl rfl fun a S => s_build S (ds := [(0, (.w 1125000000))]) (dv := (.a4 [1125000000, 0, 0, 0])) rfl (fun _ => by kernel_rfl) ⟨rfl, trivial⟩ rfl fun a S => s_eqa S rfl rfl underlying26 underlying24 T24 Q26 rfl fun a S => s_assign S rfl rfl fun a S => c_end (wp_ret ?_))))))
 obtain rfl := Option.some.inj h1
 exact b_ret1 (d := (.b (decide (t1.2.2.2.2.2.1 = [1125000000, 0, 0, 0])))) S rfl rfl (S.rt hb)
abbrev smithyref23_Great.Ty : Type := ((List Int) × Int × Bool × Int × (List Int) × (List Int) × (List L68) × (List Int)) → Option Bool
def smithyref23_Great.Ctr (s : smithyref23_Great.Ty) : Prop := ∀ (x1 : (List Int) × Int × Bool × Int × (List Int) × (List Int) × (List L68) × (List Int)) (ch_0_0 : Option Addr) (ch_0_1 : Nat) (ch_0_2 : Option Addr) (ch_0_3 : Nat) (r : Bool), Ct (C := Unit) Tryd.prog 11 (s x1 = some r) [] [(.agg [.b20 x1.1, .w x1.2.1, .b x1.2.2.1, .w x1.2.2.2.1, .w4 x1.2.2.2.2.1, .b20 x1.2.2.2.2.2.1, .q Y68 ch_0_0 ch_0_1 x1.2.2.2.2.2.2.1, .q yb ch_0_2 ch_0_3 x1.2.2.2.2.2.2.2])] (fun _ => (.b r)) fun _ => []
def smithyref23_Great.j2 : Option Bool := some false
def smithyref23_Great.j3 (y9 : Int) (rec1 : Int → Option Bool) (y10 : Bool) : Option Bool := if y10 = true then (some true) else (rec1 (wr .i64 (y9 + 1)))
def smithyref23_Great.b1 (x1 : (List Int) × Int × Bool × Int × (List Int) × (List Int) × (List L68) × (List Int)) (rec1 : Int → Option Bool) (y9 : Int) : Option Bool := if (decide (y9 < ((x1.2.2.2.2.2.2.1).length : Int))) = true then (if (0 : Int) ≤ y9 ∧ y9 < ((x1.2.2.2.2.2.2.1).length : Int) then (if (decide (30 < (((gt x1.2.2.2.2.2.2.1 y9).2.1).length : Int))) = true then (smithyref23_Great.j3 y9 rec1 true) else (smithyref23_Great.j3 y9 rec1 (decide (3000 < (((gt x1.2.2.2.2.2.2.1 y9).2.2).length : Int))))) else none) else smithyref23_Great.j2
def smithyref23_Great.l1 (x1 : (List Int) × Int × Bool × Int × (List Int) × (List Int) × (List L68) × (List Int)) : Nat → Int → Option Bool
  | 0, _ => none
  | q + 1, y9 => smithyref23_Great.b1 x1 (smithyref23_Great.l1 x1 q) y9
def smithyref23_Great.j1 (k : Nat) (x1 : (List Int) × Int × Bool × Int × (List Int) × (List Int) × (List L68) × (List Int)) (y1 : Bool) : Option Bool := if y1 = true then (some true) else (smithyref23_Great.l1 x1 k 0)
def smithyref23_Great.f (k : Nat) (x1 : (List Int) × Int × Bool × Int × (List Int) × (List Int) × (List L68) × (List Int)) : Option Bool := if (decide (3000 < ((x1.2.2.2.2.2.2.2).length : Int))) = true then (smithyref23_Great.j1 k x1 true) else (smithyref23_Great.j1 k x1 (decide (30 < ((x1.2.2.2.2.2.2.1).length : Int))))
theorem smithyref23_Great.ok (k : Nat) : smithyref23_Great.Ctr (smithyref23_Great.f k) := by
 intro x1 ch_0_0 ch_0_1 ch_0_2 ch_0_3 r h0 mi w0 ok hm
 delta smithyref23_Great.f at h0
 refine c_enterZ (n := 39) ok hm func11 rfl rfl rfl fun b0 hb a S => c_region (s_box S rfl rfl rfl fun g1 a w S => s_assign S rfl rfl fun a S => c_end (wp_seq (wp_seq_k fun K1 hK1 => ?_)))
 have j1 : ∀ m y1 g2 a w, St 39 m b0 [(13, (.b y1)), (1, (.p g2))] [Res.cells g2 39 [.b20 x1.1, .w x1.2.1, .b x1.2.2.1, .w x1.2.2.2.1, .w4 x1.2.2.2.2.1, .b20 x1.2.2.2.2.2.1, .q Y68 ch_0_0 ch_0_1 x1.2.2.2.2.2.2.1, .q yb ch_0_2 ch_0_3 x1.2.2.2.2.2.2.2]] a w → smithyref23_Great.j1 k x1 y1 = some r → K1 a w := by
  intro m y1 g2 a w S h0
  delta smithyref23_Great.j1 at h0
  refine hK1 a w ?_
  rcases ite_of h0 with ⟨c1, h1⟩ | ⟨c1, h1⟩
  ·refine c_condT S rfl c1 (c_region (s_assign S rfl rfl fun a S => c_end (wp_ret (x_thenR ?_))))
   obtain rfl := Option.some.inj h1
   exact b_ret1 (d := (.b true)) S rfl rfl (S.rt hb)
  ·refine c_condF S rfl c1 (wp_skip (x_thenN (wp_seq_k fun K2 hK2 => ?_)))
   have j2 : ∀ m a w, St 39 m b0 [] [] a w → smithyref23_Great.j2 = some r → K2 a w := by
    intro m a w S h0
    delta smithyref23_Great.j2 at h0
    refine hK2 a w (c_region (s_assign S rfl rfl fun a S => c_end (wp_ret ?_)))
    obtain rfl := Option.some.inj h0
    exact b_ret1 (d := (.b false)) S rfl rfl (S.rt hb)
   refine c_region (s_fieldAddr S rfl I39_6 T36 (by decide) rfl rfl fun a S => s_loadSl S rfl .h T36 (A := ch_0_0) (len := (x1.2.2.2.2.2.2.1).length) (cap := ch_0_1) rfl rfl fun a S => s_lenS S rfl underlying36 rfl fun a S => s_move S rfl rfl fun a S => c_end (wp_block ?_))
   refine c_loop (fun q1 a w => ∃ m y9 g12, St 39 m b0 [(17, (.i y9)), (16, (.i ((x1.2.2.2.2.2.2.1).length : Int))), (1, (.p g12))] [Res.cells g12 39 [.b20 x1.1, .w x1.2.1, .b x1.2.2.1, .w x1.2.2.2.1, .w4 x1.2.2.2.2.1, .b20 x1.2.2.2.2.2.1, .q Y68 ch_0_0 ch_0_1 x1.2.2.2.2.2.2.1, .q yb ch_0_2 ch_0_3 x1.2.2.2.2.2.2.2]] a w ∧ smithyref23_Great.l1 x1 q1 y9 = some r) ?_ ?_ (k := k) ⟨_, 0, g2, (S.sb rfl (.c0 .n)), h1⟩
   ·rintro a w ⟨m, y9, g12, S, h0⟩
    exact (nomatch (show (none : Option Bool) = some r from h0))
   ·clear S h1
    rintro q1 a w ⟨m, y9, g12, S, h0⟩
    replace h0 : smithyref23_Great.b1 x1 (smithyref23_Great.l1 x1 q1) y9 = some r := h0
    delta smithyref23_Great.b1 at h0
    refine c_region (s_bin S rfl rfl rfl rfl fun a S => c_end (wp_seq ?_))
    rcases ite_of h0 with ⟨c2, h1⟩ | ⟨c2, h1⟩
    ·refine c_condT S rfl c2 (wp_skip (x_thenN (wp_seq (wp_block (c_region (s_move S rfl rfl fun a S => s_assign S rfl rfl fun a S => c_end (wp_seq_k fun K3 hK3 => ?_)))))))
     have j3 : ∀ m y10 g13 a w, St 39 m b0 [(37, (.b y10)), (17, (.i y9)), (16, (.i ((x1.2.2.2.2.2.2.1).length : Int))), (1, (.p g13))] [Res.cells g13 39 [.b20 x1.1, .w x1.2.1, .b x1.2.2.1, .w x1.2.2.2.1, .w4 x1.2.2.2.2.1, .b20 x1.2.2.2.2.2.1, .q Y68 ch_0_0 ch_0_1 x1.2.2.2.2.2.2.1, .q yb ch_0_2 ch_0_3 x1.2.2.2.2.2.2.2]] a w → smithyref23_Great.j3 y9 (smithyref23_Great.l1 x1 q1) y10 = some r → K3 a w := by
      intro m y10 g13 a w S h0
      delta smithyref23_Great.j3 at h0
      refine hK3 a w ?_
      rcases ite_of h0 with ⟨c3, h1⟩ | ⟨c3, h1⟩
      ·refine c_condT S rfl c3 (c_region (s_assign S rfl rfl fun a S => c_end (wp_ret (x_blockR (x_thenR (x_thenR (x_blockR (x_thenR ?_))))))))
       obtain rfl := Option.some.inj h1
       exact b_ret1 (d := (.b true)) S rfl rfl (S.rt hb)
      ·refine c_condF S rfl c3 (wp_skip (x_blockN (x_thenN (c_region' (s_bin S rfl rfl rfl rfl fun a S => s_move S rfl rfl fun a S => c_end' (x_thenN ?_))))))
       exact ⟨_, (wr .i64 (y9 + 1)), g13, (S.sb rfl (.c0 .n)), h1⟩
     refine c_region' (s_fieldAddr S rfl I39_6 T36 (by decide) rfl rfl fun a S => s_loadSl S rfl .h T36 (A := ch_0_0) (len := (x1.2.2.2.2.2.2.1).length) (cap := ch_0_1) rfl rfl fun a S => s_move S rfl rfl fun a S => ?_)
     obtain ⟨c4, h2⟩ := chk_of h1; clear h1
     refine s_iaddrS S rfl rfl rfl underlying36 T68 c4.1 c4.2 rfl fun p1 a S => s_faddrP S (tF := (Ty.slice (Ty.arr .u64 4))) (y := (gt x1.2.2.2.2.2.2.1 y9).2.1) rfl I68_1 T66 (by decide) (fun m h => (at_fst (at_snd (at_0 h)))) rfl fun a S => s_ldS S (fun c => c) rfl T66 (fun _ => rfl) rfl fun A1 cp1 a S => s_lenS S rfl underlying66 rfl fun a S => s_bin S rfl rfl rfl rfl fun a S => s_move S rfl rfl fun a S => ?_
     rcases ite_of h2 with ⟨c5, h3⟩ | ⟨c5, h3⟩
     ·refine s_gF S (b := (decide (30 < (((gt x1.2.2.2.2.2.2.1 y9).2.1).length : Int)))) rfl rfl c5 rfl fun a S => s_gF S (b := (decide (30 < (((gt x1.2.2.2.2.2.2.1 y9).2.1).length : Int)))) rfl rfl c5 rfl fun a S => s_gF S (b := (decide (30 < (((gt x1.2.2.2.2.2.2.1 y9).2.1).length : Int)))) rfl rfl c5 rfl fun a S => s_gF S (b := (decide (30 < (((gt x1.2.2.2.2.2.2.1 y9).2.1).length : Int)))) rfl rfl c5 rfl fun a S => s_gF S (b := (decide (30 < (((gt x1.2.2.2.2.2.2.1 y9).2.1).length : Int)))) rfl rfl c5 rfl fun a S => s_gF S (b := (decide (30 < (((gt x1.2.2.2.2.2.2.1 y9).2.1).length : Int)))) rfl rfl c5 rfl fun a S => s_gF S (b := (decide (30 < (((gt x1.2.2.2.2.2.2.1 y9).2.1).length : Int)))) rfl rfl c5 rfl fun a S => s_gF S (b := (decide (30 < (((gt x1.2.2.2.2.2.2.1 y9).2.1).length : Int)))) rfl rfl c5 rfl fun a S => s_pick S (b := true) (hc_of rfl c5) rfl rfl fun a S => c_end' (x_thenN ?_)
      exact j3 _ true g12 a w (S.sb rfl (.c0 .n)) h3
     ·refine s_gT S (b := (decide (30 < (((gt x1.2.2.2.2.2.2.1 y9).2.1).length : Int)))) rfl rfl c5 (s_fieldAddr S rfl I39_6 T36 (by decide) rfl rfl fun a S => s_gT S (b := (decide (30 < (((gt x1.2.2.2.2.2.2.1 y9).2.1).length : Int)))) rfl rfl c5 (s_loadSl S rfl .h T36 (A := ch_0_0) (len := (x1.2.2.2.2.2.2.1).length) (cap := ch_0_1) rfl rfl fun a S => s_gT S (b := (decide (30 < (((gt x1.2.2.2.2.2.2.1 y9).2.1).length : Int)))) rfl rfl c5 (s_move S rfl rfl fun a S => s_gT S (b := (decide (30 < (((gt x1.2.2.2.2.2.2.1 y9).2.1).length : Int)))) rfl rfl c5 (s_iaddrS S rfl rfl rfl underlying36 T68 c4.1 c4.2 rfl fun p2 a S => s_gT S (b := (decide (30 < (((gt x1.2.2.2.2.2.2.1 y9).2.1).length : Int)))) rfl rfl c5 (s_faddrP S (tF := (Ty.slice yb)) (y := (gt x1.2.2.2.2.2.2.1 y9).2.2) rfl I68_2 T37 (by decide) (fun m h => (at_snd (at_snd (at_0 h)))) rfl fun a S => s_gT S (b := (decide (30 < (((gt x1.2.2.2.2.2.2.1 y9).2.1).length : Int)))) rfl rfl c5 (s_ldS S (fun c => c) rfl T37 (fun _ => rfl) rfl fun A2 cp2 a S => s_gT S (b := (decide (30 < (((gt x1.2.2.2.2.2.2.1 y9).2.1).length : Int)))) rfl rfl c5 (s_lenS S rfl underlying37 rfl fun a S => s_gT S (b := (decide (30 < (((gt x1.2.2.2.2.2.2.1 y9).2.1).length : Int)))) rfl rfl c5 (s_bin S rfl rfl rfl rfl fun a S => s_pick S (b := false) (hc_of rfl c5) rfl rfl fun a S => c_end' (x_thenN ?_)))))))))
      exact j3 _ (decide (3000 < (((gt x1.2.2.2.2.2.2.1 y9).2.2).length : Int))) g12 a w (S.sb rfl (.c0 .n)) h3
    ·refine c_condF S rfl c2 (wp_exit (x_thenX (x_thenX (x_blockX (x_thenN ?_)))))
     exact j2 _ a w (S.sub trivial .nil) h1
 refine c_region' (s_fieldAddr S rfl I39_7 T37 (by decide) rfl rfl fun a S => s_loadSl S rfl .h T37 (A := ch_0_2) (len := (x1.2.2.2.2.2.2.2).length) (cap := ch_0_3) rfl rfl fun a S => s_lenS S rfl underlying37 rfl fun a S => s_bin S rfl rfl rfl rfl fun a S => s_move S rfl rfl fun a S => ?_)
 rcases ite_of h0 with ⟨c6, h1⟩ | ⟨c6, h1⟩
 ·refine s_gF S (b := (decide (3000 < ((x1.2.2.2.2.2.2.2).length : Int)))) rfl rfl c6 rfl fun a S => s_gF S (b := (decide (3000 < ((x1.2.2.2.2.2.2.2).length : Int)))) rfl rfl c6 rfl fun a S => s_gF S (b := (decide (3000 < ((x1.2.2.2.2.2.2.2).length : Int)))) rfl rfl c6 rfl fun a S => s_gF S (b := (decide (3000 < ((x1.2.2.2.2.2.2.2).length : Int)))) rfl rfl c6 rfl fun a S => s_pick S (b := true) (hc_of rfl c6) rfl rfl fun a S => c_end' (x_thenN ?_)
  exact j1 _ true g1 a w (S.sb rfl (.c0 .n)) h1
 ·refine s_gT S (b := (decide (3000 < ((x1.2.2.2.2.2.2.2).length : Int)))) rfl rfl c6 (s_fieldAddr S rfl I39_6 T36 (by decide) rfl rfl fun a S => s_gT S (b := (decide (3000 < ((x1.2.2.2.2.2.2.2).length : Int)))) rfl rfl c6 (s_loadSl S rfl .h T36 (A := ch_0_0) (len := (x1.2.2.2.2.2.2.1).length) (cap := ch_0_1) rfl rfl fun a S => s_gT S (b := (decide (3000 < ((x1.2.2.2.2.2.2.2).length : Int)))) rfl rfl c6 (s_lenS S rfl underlying36 rfl fun a S => s_gT S (b := (decide (3000 < ((x1.2.2.2.2.2.2.2).length : Int)))) rfl rfl c6 (s_bin S rfl rfl rfl rfl fun a S => s_pick S (b := false) (hc_of rfl c6) rfl rfl fun a S => c_end' (x_thenN ?_)))))
  exact j1 _ (decide (30 < ((x1.2.2.2.2.2.2.1).length : Int))) g1 a w (S.sb rfl (.c0 .n)) h1
abbrev api_Hash_n38.Ty : Type := (List (List Int)) → Option ((List (List Int)))
def api_Hash_n38.Ctr (s : api_Hash_n38.Ty) : Prop := ∀ (x1 : List (List Int)) (ch_0_0 : Option Addr) (ch_0_1 : Nat) (r : (List (List Int))), Ct (C := ((Option Addr) × Nat × Nat)) Tryd.prog 38 (s x1 = some r) [] [(.q (Ty.arr .u8 32) ch_0_0 ch_0_1 x1)] (fun ch => (.s ch.1 ch.2.1 ch.2.2)) fun ch => [Res.row (Ty.arr .u8 32) 23 ch.1 ch.2.1 ch.2.2 r]
def api_Hash_n38.f (x1 : List (List Int)) : Option ((List (List Int))) := if ((([] : List (List Int))).length + (x1).length) * 32 ≤ 140737488355328 then (some (([] : List (List Int)) ++ x1)) else none
theorem api_Hash_n38.ok : api_Hash_n38.Ctr (api_Hash_n38.f) := by
 intro x1 ch_0_0 ch_0_1 r h0 mi w0 ok hm
 delta api_Hash_n38.f at h0
 refine c_enterZ (n := 8) ok hm func38 rfl rfl rfl fun b0 hb a S => c_region (s_assign S rfl rfl fun a S => c_end (wp_seq (c_region (s_move S rfl rfl fun a S => s_eqnil S (b := (ch_0_0).isNone) (d := (.q (Ty.arr .u8 32) ch_0_0 ch_0_1 x1)) rfl rfl underlying31 rfl rfl rfl fun a S => c_end ?_))))
 cases hc : (ch_0_0).isNone
 ·refine c_condF S rfl hc (wp_skip (x_thenN (c_region (s_bldSl S (ty' := (Ty.arr .u8 32)) (ds := []) (z := z32) (c0 := ()) (ys := ([] : List (List Int))) (cs := []) rfl underlying31 J23 Z23 rfl ⟨rfl, trivial⟩ rfl rfl rfl rfl rfl rfl fun g1 a w S => s_move S rfl rfl fun a S => ?_))))
  obtain ⟨c1, h1⟩ := chk_of h0; clear h0
  refine s_app S (k2 := ((x1).length)) (ys := x1) rfl (fun _ _ => .h) rfl rfl rfl (RdS.src (S.get 6 (.q (Ty.arr .u8 32) ch_0_0 ch_0_1 x1) rfl).2.2.2.1 (by decide) S.frz) underlying31 J23 c1 rfl fun A1 cp1 a w S => s_assign S rfl rfl fun a S => c_end (wp_ret ?_)
  obtain rfl := Option.some.inj h1
  exact b_ret1 (d := (.s A1 (0 + ((x1).length)) cp1)) S rfl rfl fun ok => S.retX (Hx := []) hb _ _ ((A1, 0 + ((x1).length), cp1) : (Option Addr) × Nat × Nat) (.c0 .n) ok
 ·have hxs : x1 = [] := rd_nil hc (S.get 3 (.q (Ty.arr .u8 32) ch_0_0 ch_0_1 x1) rfl).2.2.2.1
  have h1 : (some ([] : List (List Int))) = some r := by simpa [hxs] using h0
  clear h0
  refine c_condT S rfl hc (c_region (s_assign S rfl rfl fun a S => c_end (wp_ret (x_thenR ?_))))
  replace S := S.nilrow (Ty.arr .u8 32) 23
  replace S := S.slot (u := 2) (d' := (.s none 0 0)) rfl rfl (S.get 2 (.s none 0 0) rfl).2
  obtain rfl := Option.some.inj h1
  exact b_ret1 (d := (.s none 0 0)) S rfl rfl fun ok => S.retX (Hx := []) hb _ _ ((none, 0, 0) : (Option Addr) × Nat × Nat) (.c0 .n) ok
abbrev block_Env.Ty : Type := L30 → Int → (List (List Int)) → Option ((Int × Int × Int × (List Int) × (List Int) × (List Int) × Int × (List (List Int))))
def block_Env.Ctr (s : block_Env.Ty) : Prop := ∀ (x1 : L30) (x2 : Int) (x3 : List (List Int)) (ch_2_0 : Option Addr) (ch_2_1 : Nat) (r : (Int × Int × Int × (List Int) × (List Int) × (List Int) × Int × (List (List Int)))), Ct (C := ((Option Addr) × Nat × Nat)) Tryd.prog 15 (s x1 x2 x3 = some r) [] [(.agg [.b32 x1.1, .w x1.2.1, .w x1.2.2.1, .w x1.2.2.2.1, .w x1.2.2.2.2.1, .w4 x1.2.2.2.2.2.1, .b20 x1.2.2.2.2.2.2.1, .w4 x1.2.2.2.2.2.2.2.1, .b32 x1.2.2.2.2.2.2.2.2.1, .b32 x1.2.2.2.2.2.2.2.2.2]), (.w x2), (.q (Ty.arr .u8 32) ch_2_0 ch_2_1 x3)] (fun ch => (.agg [.w r.1, .w r.2.1, .w r.2.2.1, .b20 r.2.2.2.1, .w4 r.2.2.2.2.1, .w4 r.2.2.2.2.2.1, .w r.2.2.2.2.2.2.1, .s ch.1 ch.2.1 ch.2.2])) fun ch => [Res.row (Ty.arr .u8 32) 23 ch.1 ch.2.1 ch.2.2 r.2.2.2.2.2.2.2]
def block_Env.f (x1 : L30) (x2 : Int) (x3 : List (List Int)) : Option ((Int × Int × Int × (List Int) × (List Int) × (List Int) × Int × (List (List Int)))) := (api_Hash_n38.f x3).bind fun t1 => (some (x1.2.1, x1.2.2.1, x1.2.2.2.1, x1.2.2.2.2.2.2.1, x1.2.2.2.2.2.1, x1.2.2.2.2.2.2.2.1, x2, t1))
theorem block_Env.ok : block_Env.Ctr (block_Env.f) := by
 intro x1 x2 x3 ch_2_0 ch_2_1 r h0 mi w0 ok hm
 delta block_Env.f at h0
 refine c_enterZ (n := 23) ok hm func15 rfl rfl rfl fun b0 hb a S => c_region (s_box S rfl rfl rfl fun g1 a w S => s_alloc S Z45 rfl ⟨rfl, rfl, rfl, rfl, rfl, rfl, rfl, rfl, trivial⟩ rfl fun g2 a w S => c_end ?_)
 refine wp_seq (c_heldS S (.take 0 (.take 1 (.take 2 (.take 3 (.take 4 (.take 5 (.take 6 (.take 7 (.take 8 (.take 9 (.take 10 (.take 11 (.take 12 (.take 13 (.alts (.run 14 true (.take 15 (.alts (.run 16 false .done .nil))) .nil)))))))))))))))) 16 [Res.cells g2 45 [.w 0, .w 0, .w 0, .b20 z20, .w4 [0, 0, 0, 0], .w4 [0, 0, 0, 0], .w 0, .s none 0 0], Res.cells g1 30 [.b32 x1.1, .w x1.2.1, .w x1.2.2.1, .w x1.2.2.2.1, .w x1.2.2.2.2.1, .w4 x1.2.2.2.2.2.1, .b20 x1.2.2.2.2.2.2.1, .w4 x1.2.2.2.2.2.2.2.1, .b32 x1.2.2.2.2.2.2.2.2.1, .b32 x1.2.2.2.2.2.2.2.2.2]] (.c0 (.c0 .n)) ⟨Res.stay_cells, Res.stay_cells, trivial⟩ [(3, (.p g1)), (1, (.w x2)), (2, (.q (Ty.arr .u8 32) ch_2_0 ch_2_1 x3))] (subR rfl) (by kernel_rfl) (by kernel_rfl) ?_); clear S; intro w S CL hw le
 refine h_fieldAddr S CL hw le (subR rfl) rfl I30_1 T24 (by decide) rfl rfl rfl trivial fun a S CL => h_load1 S CL hw le (subR rfl) rfl .h1 T24 (v := (.int .u64 x1.2.1)) rfl rfl rfl trivial fun a S CL => h_fieldAddr S CL hw le (subR rfl) rfl I30_2 T24 (by decide) rfl rfl rfl trivial fun a S CL => h_load1 S CL hw le (subR rfl) rfl .h1 T24 (v := (.int .u64 x1.2.2.1)) rfl rfl rfl trivial fun a S CL => h_fieldAddr S CL hw le (subR rfl) rfl I30_3 T24 (by decide) rfl rfl rfl trivial fun a S CL => h_load1 S CL hw le (subR rfl) rfl .h1 T24 (v := (.int .u64 x1.2.2.2.1)) rfl rfl rfl trivial fun a S CL => h_fieldAddr S CL hw le (subR rfl) rfl I30_6 T28 (by decide) rfl rfl rfl trivial fun a S CL => h_loada S CL hw le (subR rfl) rfl .h1 T28 (s' := [.b20 x1.2.2.2.2.2.2.1]) rfl rfl rfl trivial fun a S CL => h_fieldAddr S CL hw le (subR rfl) rfl I30_5 T26 (by decide) rfl rfl rfl trivial fun a S CL => h_loada S CL hw le (subR rfl) rfl .h1 T26 (s' := [.w4 x1.2.2.2.2.2.1]) rfl rfl rfl trivial fun a S CL => h_fieldAddr S CL hw le (subR rfl) rfl I30_7 T26 (by decide) rfl rfl rfl trivial fun a S CL => h_loada S CL hw le (subR rfl) rfl .h1 T26 (s' := [.w4 x1.2.2.2.2.2.2.2.1]) rfl rfl rfl trivial fun a S CL => h_move S CL hw le (subR rfl) rfl rfl rfl trivial fun a S CL => h_move S CL hw le (subR rfl) rfl rfl rfl trivial fun a S CL => h_run' S rfl trivial (bindX h0 fun t1 et1 h1 => s_callR S (fun (ch : (Option Addr) × Nat × Nat) => ((.s ch.1 ch.2.1 ch.2.2) : D)) (fun (ch : (Option Addr) × Nat × Nat) => Res.row (Ty.arr .u8 32) 23 ch.1 ch.2.1 ch.2.2 t1) N38 rfl rfl (api_Hash_n38.ok x3 ch_2_0 ch_2_1 t1 et1 _ _) fun ch1 m le1 a w S => ?_)
 replace le := le.trans le1
 replace hw := CL.again hw S (.c1 (.c1 .n)) le
 refine h_back ⟨fun _ => hw, ?_⟩
 replace CL := CL.add (t := 21) (d := (.s ch1.1 ch1.2.1 ch1.2.2)) S rfl rfl
 refine h_bldS S CL hw le (subR rfl) (ds := [(0, (.w x1.2.1)), (1, (.w x1.2.2.1)), (2, (.w x1.2.2.2.1)), (3, (.agg [.b20 x1.2.2.2.2.2.2.1])), (4, (.a4 x1.2.2.2.2.2.1)), (5, (.a4 x1.2.2.2.2.2.2.2.1)), (6, (.w x2)), (7, (.s ch1.1 ch1.2.1 ch1.2.2))]) (zs := [.w 0, .w 0, .w 0, .b20 z20, .w4 [0, 0, 0, 0], .w4 [0, 0, 0, 0], .w 0, .s none 0 0]) (s' := [.w x1.2.1, .w x1.2.2.1, .w x1.2.2.2.1, .b20 x1.2.2.2.2.2.2.1, .w4 x1.2.2.2.2.2.1, .w4 x1.2.2.2.2.2.2.2.1, .w x2, .s ch1.1 ch1.2.1 ch1.2.2]) rfl underlying45 P45 Z45 ⟨rfl, rfl, rfl, rfl, rfl, rfl, rfl, rfl, trivial⟩ rfl rfl rfl trivial fun a S CL => h_run' S rfl trivial (s_store S rfl rfl rfl (s' := [.w x1.2.1, .w x1.2.2.1, .w x1.2.2.2.1, .b20 x1.2.2.2.2.2.2.1, .w4 x1.2.2.2.2.2.1, .w4 x1.2.2.2.2.2.2.2.1, .w x2, .s ch1.1 ch1.2.1 ch1.2.2]) .h1 T45 rfl rfl fun w S => ?_)
 refine h_back ⟨fun h => (nomatch h), ?_⟩
 refine h_done ?_; clear CL hw le
 refine x_thenN (wp_ret ?_)
 obtain rfl := Option.some.inj h1
 exact b_ret1 (d := (.agg [.w x1.2.1, .w x1.2.2.1, .w x1.2.2.2.1, .b20 x1.2.2.2.2.2.2.1, .w4 x1.2.2.2.2.2.1, .w4 x1.2.2.2.2.2.2.2.1, .w x2, .s ch1.1 ch1.2.1 ch1.2.2])) S rfl (resD_cell rfl .h1 T45 rfl rfl) fun ok => S.retX (Hx := []) hb _ _ ((ch1.1, ch1.2.1, ch1.2.2) : (Option Addr) × Nat × Nat) (.c0 .n) ok
abbrev smithyref01_Of.Ty : Type := (List Int) → Option ((List Int))
def smithyref01_Of.Ctr (s : smithyref01_Of.Ty) : Prop := ∀ (x1 : List Int) (r : (List Int)), Ct (C := Unit) Tryd.prog 49 (s x1 = some r) [] [(.a4 x1)] (fun _ => (.agg [.ints .i64 r 32])) fun _ => []
def smithyref01_Of.j1 (y1 : List Int) : Option ((List Int)) := some y1
def smithyref01_Of.b1 (x1 : List Int) (rec1 : Int → (List Int) → Option ((List Int))) (y4 : Int) (y5 : List Int) : Option ((List Int)) := if (decide (y4 < 32)) = true then (if (0 : Int) ≤ (wr .i64 (Int.tdiv y4 8)) ∧ (wr .i64 (Int.tdiv y4 8)) < 4 then (if (0 : Int) ≤ (wr .i64 (8 * (Int.tmod y4 8))) then (if (0 : Int) ≤ y4 ∧ y4 < 32 then (rec1 (wr .i64 (y4 + 1)) (y5.set (Int.toNat y4) (wr .i64 (Int.tmod (shr (rd x1 (wr .i64 (Int.tdiv y4 8))) (min (Int.toNat (wr .i64 (8 * (Int.tmod y4 8)))) 64)) 256)))) else none) else none) else none) else (smithyref01_Of.j1 y5)
def smithyref01_Of.l1 (x1 : List Int) : Nat → Int → (List Int) → Option ((List Int))
  | 0, _, _ => none
  | q + 1, y4, y5 => smithyref01_Of.b1 x1 (smithyref01_Of.l1 x1 q) y4 y5
def smithyref01_Of.f (k : Nat) (x1 : List Int) : Option ((List Int)) := smithyref01_Of.l1 x1 k 0 [0, 0, 0, 0, 0, 0, 0, 0, 0, 0, 0, 0, 0, 0, 0, 0, 0, 0, 0, 0, 0, 0, 0, 0, 0, 0, 0, 0, 0, 0, 0, 0]
theorem smithyref01_Of.ok (k : Nat) : smithyref01_Of.Ctr (smithyref01_Of.f k) := by
 intro x1 r h0 mi w0 ok hm
 delta smithyref01_Of.f at h0
 refine c_enterZ (n := 23) ok hm func49 rfl rfl rfl fun b0 hb a S => c_region (s_box S rfl rfl rfl fun g1 a w S => s_alloc S Z81 rfl ⟨rfl, trivial⟩ rfl fun g2 a w S => c_end (c_region (s_build S (ds := []) (dv := (.agg [.ints .i64 z32 32])) rfl (fun _ => by kernel_rfl) ⟨rfl, trivial⟩ rfl fun a S => s_alloc S Z81 rfl ⟨rfl, trivial⟩ rfl fun g3 a w S => s_store S rfl rfl rfl (s' := [.ints .i64 z32 32]) .h T81 rfl rfl fun w S => c_end (wp_seq_k fun K1 hK1 => ?_))))
 have j1 : ∀ m g13 g14 y1 a w, St 23 m b0 [(3, (.p g13)), (2, (.p g14))] [Res.cells g13 81 [.ints .i64 y1 32], Res.cells g14 81 [.ints .i64 z32 32]] a w → smithyref01_Of.j1 y1 = some r → K1 a w := by
  intro m g13 g14 y1 a w S h0
  delta smithyref01_Of.j1 at h0
  refine hK1 a w (c_region (s_loada S rfl .h T81 (s' := [.ints .i64 y1 32]) rfl rfl fun a S => s_store S rfl rfl rfl (s' := [.ints .i64 y1 32]) .h1 T81 rfl rfl fun w S => c_end (wp_ret ?_)))
  obtain rfl := Option.some.inj h0
  exact b_ret1 (d := (.agg [.ints .i64 y1 32])) S rfl (resD_cell rfl .h1 T81 rfl rfl) (S.rt hb)
 refine c_region (s_assign S rfl rfl fun a S => c_end (wp_block ?_))
 refine c_loop (fun q1 a w => ∃ m y4 g21 g22 g23 y5, St 23 m b0 [(4, (.i y4)), (3, (.p g21)), (2, (.p g22)), (1, (.p g23))] [Res.cells g21 81 [.ints .i64 y5 32], Res.cells g22 81 [.ints .i64 z32 32], Res.cells g23 26 [.w4 x1]] a w ∧ smithyref01_Of.l1 x1 q1 y4 y5 = some r) ?_ ?_ (k := k) ⟨_, 0, g3, g2, g1, z32, (S.sb rfl (.c0 (.c0 (.c0 .n)))), h0⟩
 ·rintro a w ⟨m, y4, g21, g22, g23, y5, S, h0⟩
  exact (nomatch (show (none : Option ((List Int))) = some r from h0))
 ·clear S h0
  rintro q1 a w ⟨m, y4, g21, g22, g23, y5, S, h0⟩
  replace h0 : smithyref01_Of.b1 x1 (smithyref01_Of.l1 x1 q1) y4 y5 = some r := h0
  delta smithyref01_Of.b1 at h0
  refine wp_seq (c_region (s_move S rfl rfl fun a S => s_bin S rfl rfl rfl rfl fun a S => c_end ?_))
  rcases ite_of h0 with ⟨c1, h1⟩ | ⟨c1, h1⟩
  ·refine c_condT S rfl c1 (wp_skip (x_thenN (wp_seq (wp_block (c_region' (s_move S rfl rfl fun a S => s_move S rfl rfl fun a S => s_quo S rfl rfl (by decide) rfl fun a S => ?_))))))
   obtain ⟨c2, h2⟩ := chk_of h1; clear h1
   refine s_iaddr S rfl rfl underlying26 T24 c2.1 c2.2 (mul1 _ _) rfl fun a S => s_loadi S (i := (wr .i64 (Int.tdiv y4 8))) rfl .h2 T24 .h rfl c2.1 c2.2 rfl fun a S => s_move S rfl rfl fun a S => s_rem S rfl rfl (by decide) rfl fun a S => s_bin S rfl rfl rfl rfl fun a S => ?_
   obtain ⟨c3, h3⟩ := chk_of h2; clear h2
   refine s_shr S (e := (min (Int.toNat (wr .i64 (8 * (Int.tmod y4 8)))) 64)) rfl rfl c3 rfl rfl fun a S => s_rem S rfl rfl (by decide) rfl fun a S => s_conv S rfl rfl underlying3 rfl fun a S => ?_
   obtain ⟨c4, h4⟩ := chk_of h3; clear h3
   refine s_iaddr S rfl rfl underlying81 T3 c4.1 c4.2 (mul1 _ _) rfl fun a S => s_storei S (i := y4) rfl rfl .h T3 .h rfl c4.1 c4.2 fun w S => c_end' (x_blockN (x_thenN (c_region' (s_move S rfl rfl fun a S => s_bin S rfl rfl rfl rfl fun a S => s_assign S rfl rfl fun a S => c_end' (x_thenN ?_)))))
   exact ⟨_, (wr .i64 (y4 + 1)), g21, g22, g23, (y5.set (Int.toNat y4) (wr .i64 (Int.tmod (shr (rd x1 (wr .i64 (Int.tdiv y4 8))) (min (Int.toNat (wr .i64 (8 * (Int.tmod y4 8)))) 64)) 256))), (S.sb rfl (.c0 (.c0 (.c0 .n)))), h4⟩
  ·refine c_condF S rfl c1 (wp_exit (x_thenX (x_thenX (x_blockX (x_thenN ?_)))))
   exact j1 _ g21 g22 y5 a w (S.sb rfl (.c0 (.c0 .n))) h1
abbrev smithyref01_D_Bytes.Ty : Type := (List Int) → Option ((List Int))
def smithyref01_D_Bytes.Ctr (s : smithyref01_D_Bytes.Ty) : Prop := ∀ (x1 : List Int) (r : (List Int)), Ct (C := Unit) Tryd.prog 50 (s x1 = some r) [] [(.agg [.ints .i64 x1 32])] (fun _ => (.a32 r)) fun _ => []
def smithyref01_D_Bytes.j1 (y1 : List Int) : Option ((List Int)) := some y1
def smithyref01_D_Bytes.b1 (x1 : List Int) (rec1 : Int → (List Int) → Option ((List Int))) (y4 : Int) (y5 : List Int) : Option ((List Int)) := if (decide (y4 < 32)) = true then (if (0 : Int) ≤ y4 ∧ y4 < 32 then (if (0 : Int) ≤ (wr .i64 (31 - y4)) ∧ (wr .i64 (31 - y4)) < 32 then (rec1 (wr .i64 (y4 + 1)) (y5.set (Int.toNat (wr .i64 (31 - y4))) (wr .u8 (rd x1 y4)))) else none) else none) else (smithyref01_D_Bytes.j1 y5)
def smithyref01_D_Bytes.l1 (x1 : List Int) : Nat → Int → (List Int) → Option ((List Int))
  | 0, _, _ => none
  | q + 1, y4, y5 => smithyref01_D_Bytes.b1 x1 (smithyref01_D_Bytes.l1 x1 q) y4 y5
def smithyref01_D_Bytes.f (k : Nat) (x1 : List Int) : Option ((List Int)) := smithyref01_D_Bytes.l1 x1 k 0 [0, 0, 0, 0, 0, 0, 0, 0, 0, 0, 0, 0, 0, 0, 0, 0, 0, 0, 0, 0, 0, 0, 0, 0, 0, 0, 0, 0, 0, 0, 0, 0]
theorem smithyref01_D_Bytes.ok (k : Nat) : smithyref01_D_Bytes.Ctr (smithyref01_D_Bytes.f k) := by
 intro x1 r h0 mi w0 ok hm
 delta smithyref01_D_Bytes.f at h0
 refine c_enterZ (n := 18) ok hm func50 rfl rfl rfl fun b0 hb a S => c_region (s_box S rfl rfl rfl fun g1 a w S => s_alloc S Z22 rfl ⟨rfl, trivial⟩ rfl fun g2 a w S => c_end (c_region (s_build S (ds := []) (dv := (.a32 z32)) rfl (fun _ => by kernel_rfl) ⟨rfl, trivial⟩ rfl fun a S => s_alloc S Z22 rfl ⟨rfl, trivial⟩ rfl fun g3 a w S => s_store S rfl rfl rfl (s' := [.b32 z32]) .h T22 rfl rfl fun w S => c_end (wp_seq_k fun K1 hK1 => ?_))))
 have j1 : ∀ m g13 g14 y1 a w, St 18 m b0 [(3, (.p g13)), (2, (.p g14))] [Res.cells g13 22 [.b32 y1], Res.cells g14 22 [.b32 z32]] a w → smithyref01_D_Bytes.j1 y1 = some r → K1 a w := by
  intro m g13 g14 y1 a w S h0
  delta smithyref01_D_Bytes.j1 at h0
  refine hK1 a w (c_region (s_loada S rfl .h T22 (s' := [.b32 y1]) rfl rfl fun a S => s_store S rfl rfl rfl (s' := [.b32 y1]) .h1 T22 rfl rfl fun w S => c_end (wp_ret ?_)))
  obtain rfl := Option.some.inj h0
  exact b_ret1 (d := (.a32 y1)) S rfl (resD_cell rfl .h1 T22 rfl rfl) (S.rt hb)
 refine c_region (s_assign S rfl rfl fun a S => c_end (wp_block ?_))
 refine c_loop (fun q1 a w => ∃ m y4 g21 g22 g23 y5, St 18 m b0 [(4, (.i y4)), (3, (.p g21)), (2, (.p g22)), (1, (.p g23))] [Res.cells g21 22 [.b32 y5], Res.cells g22 22 [.b32 z32], Res.cells g23 81 [.ints .i64 x1 32]] a w ∧ smithyref01_D_Bytes.l1 x1 q1 y4 y5 = some r) ?_ ?_ (k := k) ⟨_, 0, g3, g2, g1, z32, (S.sb rfl (.c0 (.c0 (.c0 .n)))), h0⟩
 ·rintro a w ⟨m, y4, g21, g22, g23, y5, S, h0⟩
  exact (nomatch (show (none : Option ((List Int))) = some r from h0))
 ·clear S h0
  rintro q1 a w ⟨m, y4, g21, g22, g23, y5, S, h0⟩
  replace h0 : smithyref01_D_Bytes.b1 x1 (smithyref01_D_Bytes.l1 x1 q1) y4 y5 = some r := h0
  delta smithyref01_D_Bytes.b1 at h0
  refine wp_seq (c_region (s_move S rfl rfl fun a S => s_bin S rfl rfl rfl rfl fun a S => c_end ?_))
  rcases ite_of h0 with ⟨c1, h1⟩ | ⟨c1, h1⟩
  ·refine c_condT S rfl c1 (wp_skip (x_thenN (wp_seq (wp_block (c_region' (s_move S rfl rfl fun a S => s_bin S rfl rfl rfl rfl fun a S => s_move S rfl rfl fun a S => ?_))))))
   obtain ⟨c2, h2⟩ := chk_of h1; clear h1
   refine s_iaddr S rfl rfl underlying81 T3 c2.1 c2.2 (mul1 _ _) rfl fun a S => s_loadi S (i := y4) rfl .h2 T3 .h rfl c2.1 c2.2 rfl fun a S => s_conv S rfl rfl underlying5 rfl fun a S => ?_
   obtain ⟨c3, h3⟩ := chk_of h2; clear h2
   refine s_iaddr S rfl rfl underlying22 T5 c3.1 c3.2 (mul1 _ _) rfl fun a S => s_storei S (i := (wr .i64 (31 - y4))) rfl rfl .h T5 .h rfl c3.1 c3.2 fun w S => c_end' (x_blockN (x_thenN (c_region' (s_move S rfl rfl fun a S => s_bin S rfl rfl rfl rfl fun a S => s_assign S rfl rfl fun a S => c_end' (x_thenN ?_)))))
   exact ⟨_, (wr .i64 (y4 + 1)), g21, g22, g23, (y5.set (Int.toNat (wr .i64 (31 - y4))) (wr .u8 (rd x1 y4))), (S.sb rfl (.c0 (.c0 (.c0 .n)))), h3⟩
  ·refine c_condF S rfl c1 (wp_exit (x_thenX (x_thenX (x_blockX (x_thenN ?_)))))
   exact j1 _ g21 g22 y5 a w (S.sb rfl (.c0 (.c0 .n))) h1
abbrev smithyref07_Number.Ty : Type := (List Int) → Option ((List Int))
def smithyref07_Number.Ctr (s : smithyref07_Number.Ty) : Prop := ∀ (x1 : List Int) (r : (List Int)), Ct (C := ((Option Addr) × Nat × Nat)) Tryd.prog 48 (s x1 = some r) [] [(.a4 x1)] (fun ch => (.s ch.1 ch.2.1 ch.2.2)) fun ch => [Res.row yb 5 ch.1 ch.2.1 ch.2.2 r]
def smithyref07_Number.j1 (t2 : (List Int)) (y1 : Int) : Option ((List Int)) := if (0 : Int) ≤ y1 ∧ (y1 : Int) ≤ 32 ∧ 32 ≤ ((32 : Nat) : Int) then (if ((([] : List Int)).length + (((t2).drop (Int.toNat y1)).take (Int.toNat 32 - Int.toNat y1)).length) * 1 ≤ 140737488355328 then (some (([] : List Int) ++ (((t2).drop (Int.toNat y1)).take (Int.toNat 32 - Int.toNat y1)))) else none) else none
def smithyref07_Number.j2 (t2 : (List Int)) (y4 : Int) (rec1 : Int → Option ((List Int))) (y5 : Bool) : Option ((List Int)) := if y5 = true then (rec1 (wr .i64 (y4 + 1))) else (smithyref07_Number.j1 t2 y4)
def smithyref07_Number.b1 (t2 : (List Int)) (rec1 : Int → Option ((List Int))) (y4 : Int) : Option ((List Int)) := if (decide (y4 < 32)) = true then (if (0 : Int) ≤ y4 ∧ y4 < 32 then (smithyref07_Number.j2 t2 y4 rec1 ((rd t2 y4) == 0)) else none) else (smithyref07_Number.j2 t2 y4 rec1 false)
def smithyref07_Number.l1 (t2 : (List Int)) : Nat → Int → Option ((List Int))
  | 0, _ => none
  | q + 1, y4 => smithyref07_Number.b1 t2 (smithyref07_Number.l1 t2 q) y4
def smithyref07_Number.f (k : Nat) (x1 : List Int) : Option ((List Int)) := (smithyref01_Of.f k x1).bind fun t1 => ((smithyref01_D_Bytes.f k t1).bind fun t2 => (smithyref07_Number.l1 t2 k 0))
theorem smithyref07_Number.ok (k : Nat) : smithyref07_Number.Ctr (smithyref07_Number.f k) := by
 intro x1 r h0 mi w0 ok hm
 delta smithyref07_Number.f at h0
 refine c_enterZ (n := 25) ok hm func48 rfl rfl rfl fun b0 hb a S => c_region (s_box S rfl rfl rfl fun g1 a w S => s_assign S rfl rfl fun a S => c_end (c_region (s_loada S rfl .h T26 (s' := [.w4 x1]) rfl rfl fun a S => bindX h0 fun t1 et1 h1 => s_callP S _ N49 rfl rfl (smithyref01_Of.ok k x1 t1 et1 _ _) fun ch1 m le1 a w S => bindX h1 fun t2 et2 h2 => s_callP S _ N50 rfl rfl (smithyref01_D_Bytes.ok k t1 t2 et2 _ _) fun ch2 m le1 a w S => s_alloc S Z22 rfl ⟨rfl, trivial⟩ rfl fun g2 a w S => s_store S rfl rfl rfl (s' := [.b32 t2]) .h T22 rfl rfl fun w S => c_end (c_region (s_assign S rfl rfl fun a S => c_end (wp_seq_k fun K1 hK1 => ?_))))))
 have j1 : ∀ m y1 g8 a w, St 25 m b0 [(4, (.i y1)), (3, (.p g8))] [Res.cells g8 22 [.b32 t2]] a w → smithyref07_Number.j1 t2 y1 = some r → K1 a w := by
  intro m y1 g8 a w S h0
  delta smithyref07_Number.j1 at h0
  refine hK1 a w (c_region (s_bldSl S (ty' := yb) (ds := []) (z := 0) (c0 := ()) (ys := ([] : List Int)) (cs := []) rfl underlying37 J5 Z5 rfl ⟨rfl, trivial⟩ rfl rfl rfl rfl rfl rfl fun g9 a w S => s_assign S rfl rfl fun a S => c_end (c_region (s_move S rfl rfl fun a S => s_move S rfl rfl fun a S => ?_))))
  obtain ⟨c1, h1⟩ := chk_of h0; clear h0
  refine s_sliceA S (i := y1) (j := 32) (o' := if 32 = Int.toNat y1 then 0 else 0 + Int.toNat y1 * 1) (len := Int.toNat 32 - Int.toNat y1) (cap := 32 - Int.toNat y1) rfl underlying22 T5 (.inr ⟨_, _, rfl, rfl⟩) (.inl ⟨rfl, rfl⟩) c1 rfl rfl rfl rfl fun a S => ?_
  replace S := S.freeze .h1
  obtain ⟨m, le1, S⟩ := S
  replace S := (S.slup' (u := 22) (lo := Int.toNat y1) (c := 32) (ys := ((t2).drop (Int.toNat y1)).take (Int.toNat 32 - Int.toNat y1)) rfl (Pull.mem .h1).1 .h (ho_if c1) (hl_if c1) (hcap_if c1 rfl) rfl).2
  obtain ⟨c2, h2⟩ := chk_of h1; clear h1
  refine s_app S (k2 := ((((t2).drop (Int.toNat y1)).take (Int.toNat 32 - Int.toNat y1)).length)) (ys := (((t2).drop (Int.toNat y1)).take (Int.toNat 32 - Int.toNat y1))) rfl (fun _ _ => .h) rfl rfl rfl (RdS.src (S.get 22 (.q yb (some ⟨g8, if 32 = Int.toNat y1 then 0 else 0 + Int.toNat y1 * 1, none⟩) (32 - Int.toNat y1) (((t2).drop (Int.toNat y1)).take (Int.toNat 32 - Int.toNat y1))) rfl).2.2.2.1 (by decide) S.frz) underlying37 J5 c2 rfl fun A1 cp1 a w S => s_assign S rfl rfl fun a S => c_end (c_region (s_move S rfl rfl fun a S => s_assign S rfl rfl fun a S => c_end (wp_ret ?_)))
  obtain rfl := Option.some.inj h2
  exact b_ret1 (d := (.s A1 (0 + ((((t2).drop (Int.toNat y1)).take (Int.toNat 32 - Int.toNat y1)).length)) cp1)) S rfl rfl fun ok => S.retX (Hx := []) hb _ _ ((A1, 0 + ((((t2).drop (Int.toNat y1)).take (Int.toNat 32 - Int.toNat y1)).length), cp1) : (Option Addr) × Nat × Nat) (.c0 .n) ok
 refine wp_block ?_
 refine c_loop (fun q1 a w => ∃ m y4 g13, St 25 m b0 [(4, (.i y4)), (3, (.p g13))] [Res.cells g13 22 [.b32 t2]] a w ∧ smithyref07_Number.l1 t2 q1 y4 = some r) ?_ ?_ (k := k) ⟨_, 0, g2, (S.sb rfl (.c0 .n)), h2⟩
 ·rintro a w ⟨m, y4, g13, S, h0⟩
  exact (nomatch (show (none : Option ((List Int))) = some r from h0))
 ·clear S h2
  rintro q1 a w ⟨m, y4, g13, S, h0⟩
  replace h0 : smithyref07_Number.b1 t2 (smithyref07_Number.l1 t2 q1) y4 = some r := h0
  delta smithyref07_Number.b1 at h0
  refine wp_seq (wp_seq_k fun K2 hK2 => ?_)
  have j2 : ∀ m y5 g14 a w, St 25 m b0 [(16, (.b y5)), (4, (.i y4)), (3, (.p g14))] [Res.cells g14 22 [.b32 t2]] a w → smithyref07_Number.j2 t2 y4 (smithyref07_Number.l1 t2 q1) y5 = some r → K2 a w := by
   intro m y5 g14 a w S h0
   delta smithyref07_Number.j2 at h0
   refine hK2 a w ?_
   rcases ite_of h0 with ⟨c3, h1⟩ | ⟨c3, h1⟩
   ·refine c_condT S rfl c3 (wp_skip (x_thenN (wp_block (c_region' (s_move S rfl rfl fun a S => s_bin S rfl rfl rfl rfl fun a S => s_assign S rfl rfl fun a S => c_end' (x_blockN (x_thenN ?_)))))))
    exact ⟨_, (wr .i64 (y4 + 1)), g14, (S.sb rfl (.c0 .n)), h1⟩
   ·refine c_condF S rfl c3 (wp_exit (x_thenX (x_thenX (x_blockX (x_thenN ?_)))))
    exact j1 _ y4 g14 a w (S.sb rfl (.c0 .n)) h1
  refine c_region' (s_move S rfl rfl fun a S => s_bin S rfl rfl rfl rfl fun a S => s_move S rfl rfl fun a S => ?_)
  rcases ite_of h0 with ⟨c4, h1⟩ | ⟨c4, h1⟩
  ·refine s_gT S (b := (decide (y4 < 32))) rfl rfl c4 (s_move S rfl rfl fun a S => s_gT S (b := (decide (y4 < 32))) rfl rfl c4 ?_)
   obtain ⟨c5, h2⟩ := chk_of h1; clear h1
   refine s_iaddr S rfl rfl underlying22 T5 c5.1 c5.2 (mul1 _ _) rfl fun a S => s_gT S (b := (decide (y4 < 32))) rfl rfl c4 (s_loadi S (i := y4) rfl .h T5 .h rfl c5.1 c5.2 rfl fun a S => s_gT S (b := (decide (y4 < 32))) rfl rfl c4 (s_bin S rfl rfl rfl rfl fun a S => s_pick S (b := true) (hc_of rfl c4) rfl rfl fun a S => c_end' (x_thenN ?_)))
   exact j2 _ ((rd t2 y4) == 0) g13 a w (S.sb rfl (.c0 .n)) h2
  ·refine s_gF S (b := (decide (y4 < 32))) rfl rfl c4 rfl fun a S => s_gF S (b := (decide (y4 < 32))) rfl rfl c4 rfl fun a S => s_gF S (b := (decide (y4 < 32))) rfl rfl c4 rfl fun a S => s_gF S (b := (decide (y4 < 32))) rfl rfl c4 rfl fun a S => s_pick S (b := false) (hc_of rfl c4) rfl rfl fun a S => c_end' (x_thenN ?_)
   exact j2 _ false g13 a w (S.sb rfl (.c0 .n)) h1
abbrev smithyref07_Head.Ty : Type := Int → Int → Option ((List Int))
def smithyref07_Head.Ctr (s : smithyref07_Head.Ty) : Prop := ∀ (x1 : Int) (x2 : Int) (r : (List Int)), Ct (C := ((Option Addr) × Nat × Nat)) Tryd.prog 47 (s x1 x2 = some r) [] [(.i x1), (.i x2)] (fun ch => (.s ch.1 ch.2.1 ch.2.2)) fun ch => [Res.row yb 5 ch.1 ch.2.1 ch.2.2 r]
def smithyref07_Head.f (k : Nat) (x1 : Int) (x2 : Int) : Option ((List Int)) := if (decide (x1 ≤ 55)) = true then (some [wr .u8 (wr .i64 ((wr .i64 (128 + x2)) + x1))]) else ((smithyref07_Number.f k [wr .u64 x1, 0, 0, 0]).bind fun t1 => (if (([wr .u8 (wr .i64 ((wr .i64 (183 + x2)) + ((t1).length : Int)))]).length + (t1).length) * 1 ≤ 140737488355328 then (some ([wr .u8 (wr .i64 ((wr .i64 (183 + x2)) + ((t1).length : Int)))] ++ t1)) else none))
theorem smithyref07_Head.ok (k : Nat) : smithyref07_Head.Ctr (smithyref07_Head.f k) := by
 intro x1 x2 r h0 mi w0 ok hm
 delta smithyref07_Head.f at h0
 refine c_enterZ (n := 30) ok hm func47 rfl rfl rfl fun b0 hb a S => c_region (s_assign S rfl rfl fun a S => c_end (wp_seq (c_region (s_move S rfl rfl fun a S => s_bin S rfl rfl rfl rfl fun a S => c_end ?_))))
 rcases ite_of h0 with ⟨c1, h1⟩ | ⟨c1, h1⟩
 ·refine c_condT S rfl c1 (c_region (s_move S rfl rfl fun a S => s_bin S rfl rfl rfl rfl fun a S => s_move S rfl rfl fun a S => s_bin S rfl rfl rfl rfl fun a S => s_conv S rfl rfl underlying5 rfl fun a S => s_bldSl S (ty' := yb) (ds := [(0, (.v (.int .u8 (wr .u8 (wr .i64 ((wr .i64 (128 + x2)) + x1))))))]) (z := 0) (c0 := ()) (ys := [wr .u8 (wr .i64 ((wr .i64 (128 + x2)) + x1))]) (cs := [()]) rfl underlying37 J5 Z5 rfl ⟨rfl, trivial⟩ rfl rfl rfl rfl rfl rfl fun g1 a w S => s_assign S rfl rfl fun a S => c_end (wp_ret (x_thenR ?_))))
  obtain rfl := Option.some.inj h1
  exact b_ret1 (d := (.s (ad g1) 1 1)) S rfl rfl fun ok => S.retX (Hx := []) hb _ _ (((ad g1), 1, 1) : (Option Addr) × Nat × Nat) (.c0 .n) ok
 ·refine c_condF S rfl c1 (wp_skip (x_thenN (c_region (s_move S rfl rfl fun a S => s_conv S rfl rfl underlying24 rfl fun a S => s_build S (ds := [(0, (.w (wr .u64 x1)))]) (dv := (.a4 [wr .u64 x1, 0, 0, 0])) rfl (fun _ => by kernel_rfl) ⟨rfl, trivial⟩ rfl fun a S => bindX h1 fun t1 et1 h2 => s_callR S (fun (ch : (Option Addr) × Nat × Nat) => ((.s ch.1 ch.2.1 ch.2.2) : D)) (fun (ch : (Option Addr) × Nat × Nat) => Res.row yb 5 ch.1 ch.2.1 ch.2.2 t1) N48 rfl rfl (smithyref07_Number.ok k [wr .u64 x1, 0, 0, 0] t1 et1 _ _) fun ch1 m le1 a w S => s_assign S rfl rfl fun a S => c_end (c_region (s_move S rfl rfl fun a S => s_bin S rfl rfl rfl rfl fun a S => s_move S rfl rfl fun a S => s_lenO S rfl .h underlying37 rfl fun a S => s_bin S rfl rfl rfl rfl fun a S => s_conv S rfl rfl underlying5 rfl fun a S => s_bldSl S (ty' := yb) (ds := [(0, (.v (.int .u8 (wr .u8 (wr .i64 ((wr .i64 (183 + x2)) + ((t1).length : Int)))))))]) (z := 0) (c0 := ()) (ys := [wr .u8 (wr .i64 ((wr .i64 (183 + x2)) + ((t1).length : Int)))]) (cs := [()]) rfl underlying37 J5 Z5 rfl ⟨rfl, trivial⟩ rfl rfl rfl rfl rfl rfl fun g2 a w S => s_assign S rfl rfl fun a S => c_end (c_region (s_move S rfl rfl fun a S => s_move S rfl rfl fun a S => ?_))))))))
  obtain ⟨c2, h3⟩ := chk_of h2; clear h2
  refine s_app S (k2 := ch1.2.1) (ys := t1) rfl (fun _ _ => .h) rfl rfl (S.holds _ (Pull.mem .h1).1).1 (Res.row.src (S.holds _ (Pull.mem .h1).1)) underlying37 J5 c2 rfl fun A1 cp1 a w S => s_assign S rfl rfl fun a S => c_end (c_region (s_move S rfl rfl fun a S => s_assign S rfl rfl fun a S => c_end (wp_ret ?_)))
  obtain rfl := Option.some.inj h3
  exact b_ret1 (d := (.s A1 (1 + ch1.2.1) cp1)) S rfl rfl fun ok => S.retX (Hx := []) hb _ _ ((A1, 1 + ch1.2.1, cp1) : (Option Addr) × Nat × Nat) (.c0 .n) ok
abbrev smithyref23_bytes.Ty : Type := (List Int) → Option ((List Int))
def smithyref23_bytes.Ctr (s : smithyref23_bytes.Ty) : Prop := ∀ (x1 : List Int) (ch_0_0 : Option Addr) (ch_0_1 : Nat) (r : (List Int)), Ct (C := ((Option Addr) × Nat)) Tryd.prog 29 (s x1 = some r) [] [(.q yb ch_0_0 ch_0_1 x1)] (fun ch => (.q yb ch.1 ch.2 r)) fun _ => []
def smithyref23_bytes.j1 (k : Nat) (x1 : List Int) (y1 : Bool) : Option ((List Int)) := if y1 = true then (some x1) else ((smithyref07_Head.f k ((x1).length : Int) 0).bind fun t1 => (if ((t1).length + (x1).length) * 1 ≤ 140737488355328 then (some (t1 ++ x1)) else none))
def smithyref23_bytes.f (k : Nat) (x1 : List Int) : Option ((List Int)) := if (((x1).length : Int) == 1) = true then (if (0 : Int) ≤ 0 ∧ 0 < ((x1).length : Int) then (smithyref23_bytes.j1 k x1 (decide ((rd x1 0) < 128))) else none) else (smithyref23_bytes.j1 k x1 false)
theorem smithyref23_bytes.ok (k : Nat) : smithyref23_bytes.Ctr (smithyref23_bytes.f k) := by
 intro x1 ch_0_0 ch_0_1 r h0 mi w0 ok hm
 delta smithyref23_bytes.f at h0
 refine c_enterZ (n := 21) ok hm func29 rfl rfl rfl fun b0 hb a S => c_region (s_assign S rfl rfl fun a S => c_end (wp_seq (wp_seq_k fun K1 hK1 => ?_)))
 have j1 : ∀ m y1 a w, St 21 m b0 [(12, (.b y1)), (0, (.q yb ch_0_0 ch_0_1 x1))] [] a w → smithyref23_bytes.j1 k x1 y1 = some r → K1 a w := by
  intro m y1 a w S h0
  delta smithyref23_bytes.j1 at h0
  refine hK1 a w ?_
  rcases ite_of h0 with ⟨c1, h1⟩ | ⟨c1, h1⟩
  ·refine c_condT S rfl c1 (c_region (s_move S rfl rfl fun a S => s_assign S rfl rfl fun a S => c_end (wp_ret (x_thenR ?_))))
   obtain rfl := Option.some.inj h1
   exact b_ret1 (d := (.q yb ch_0_0 ch_0_1 x1)) S rfl rfl fun ok => S.retX (Hx := []) hb _ _ ((ch_0_0, ch_0_1) : (Option Addr) × Nat) .nil ok
  ·refine c_condF S rfl c1 (wp_skip (x_thenN (c_region (s_move S rfl rfl fun a S => s_lenS S rfl underlying37 rfl fun a S => bindX h1 fun t1 et1 h2 => s_callR S (fun (ch : (Option Addr) × Nat × Nat) => ((.s ch.1 ch.2.1 ch.2.2) : D)) (fun (ch : (Option Addr) × Nat × Nat) => Res.row yb 5 ch.1 ch.2.1 ch.2.2 t1) N47 rfl rfl (smithyref07_Head.ok k ((x1).length : Int) 0 t1 et1 _ _) fun ch1 m le1 a w S => s_assign S rfl rfl fun a S => c_end (c_region (s_move S rfl rfl fun a S => s_move S rfl rfl fun a S => ?_))))))
   obtain ⟨c2, h3⟩ := chk_of h2; clear h2
   refine s_app S (k2 := ((x1).length)) (ys := x1) rfl (fun _ _ => .h) rfl rfl rfl (RdS.src (S.get 18 (.q yb ch_0_0 ch_0_1 x1) rfl).2.2.2.1 (by decide) S.frz) underlying37 J5 c2 rfl fun A1 cp1 a w S => s_assign S rfl rfl fun a S => c_end (c_region (s_move S rfl rfl fun a S => s_assign S rfl rfl fun a S => c_end (wp_ret ?_)))
   replace S := S.rowfro .h
   obtain ⟨m, le1, S, hro⟩ := S
   replace S := S.slotro (u := 2) rfl hro
   replace S := S.slotro (u := 20) rfl hro
   replace S := S.slotro (u := 3) rfl hro
   replace S := S.slotro (u := 19) rfl hro
   obtain rfl := Option.some.inj h3
   exact b_ret1 (d := (.q yb A1 cp1 (t1 ++ x1))) S rfl rfl fun ok => S.retX (Hx := []) hb _ _ ((A1, cp1) : (Option Addr) × Nat) .nil ok
 refine c_region' (s_move S rfl rfl fun a S => s_lenS S rfl underlying37 rfl fun a S => s_bin S rfl rfl rfl rfl fun a S => s_move S rfl rfl fun a S => ?_)
 rcases ite_of h0 with ⟨c3, h1⟩ | ⟨c3, h1⟩
 ·refine s_gT S (b := (((x1).length : Int) == 1)) rfl rfl c3 (s_move S rfl rfl fun a S => s_gT S (b := (((x1).length : Int) == 1)) rfl rfl c3 ?_)
  obtain ⟨c4, h2⟩ := chk_of h1; clear h1
  refine s_iaddrS S rfl rfl rfl underlying37 T5 c4.1 c4.2 rfl fun p1 a S => s_gT S (b := (((x1).length : Int) == 1)) rfl rfl c3 (s_ld1 S (v := (.int .u8 (rd x1 0))) rfl T5 (fun _ => rfl) rfl fun a S => s_gT S (b := (((x1).length : Int) == 1)) rfl rfl c3 (s_bin S rfl rfl rfl rfl fun a S => s_pick S (b := true) (hc_of rfl c3) rfl rfl fun a S => c_end' (x_thenN ?_)))
  exact j1 _ (decide ((rd x1 0) < 128)) a w0 (S.sb rfl .nil) h2
 ·refine s_gF S (b := (((x1).length : Int) == 1)) rfl rfl c3 rfl fun a S => s_gF S (b := (((x1).length : Int) == 1)) rfl rfl c3 rfl fun a S => s_gF S (b := (((x1).length : Int) == 1)) rfl rfl c3 rfl fun a S => s_gF S (b := (((x1).length : Int) == 1)) rfl rfl c3 rfl fun a S => s_pick S (b := false) (hc_of rfl c3) rfl rfl fun a S => c_end' (x_thenN ?_)
  exact j1 _ false a w0 (S.sb rfl .nil) h1
abbrev smithyref23_list.Ty : Type := (List (List Int)) → Option ((List Int))
def smithyref23_list.Ctr (s : smithyref23_list.Ty) : Prop := ∀ (x1 : List (List Int)) (ch_0_0 : Option Addr) (ch_0_1 : Nat) (r : (List Int)), Ct (C := ((Option Addr) × Nat × Nat)) Tryd.prog 28 (s x1 = some r) [] [(.q (Ty.slice yb) ch_0_0 ch_0_1 x1)] (fun ch => (.s ch.1 ch.2.1 ch.2.2)) fun ch => [Res.row yb 5 ch.1 ch.2.1 ch.2.2 r]
def smithyref23_list.j1 (k : Nat) (y1 : List Int) : Option ((List Int)) := (smithyref07_Head.f k ((y1).length : Int) 64).bind fun t1 => (if ((t1).length + (y1).length) * 1 ≤ 140737488355328 then (some (t1 ++ y1)) else none)
def smithyref23_list.b1 (k : Nat) (x1 : List (List Int)) (rec1 : Int → (List Int) → Option ((List Int))) (y4 : Int) (y5 : List Int) : Option ((List Int)) := if (decide (y4 < ((x1).length : Int))) = true then (if (0 : Int) ≤ y4 ∧ y4 < ((x1).length : Int) then (if ((y5).length + (gt x1 y4).length) * 1 ≤ 140737488355328 then (rec1 (wr .i64 (y4 + 1)) (y5 ++ (gt x1 y4))) else none) else none) else (smithyref23_list.j1 k y5)
def smithyref23_list.l1 (k : Nat) (x1 : List (List Int)) : Nat → Int → (List Int) → Option ((List Int))
  | 0, _, _ => none
  | q + 1, y4, y5 => smithyref23_list.b1 k x1 (smithyref23_list.l1 k x1 q) y4 y5
def smithyref23_list.f (k : Nat) (x1 : List (List Int)) : Option ((List Int)) := smithyref23_list.l1 k x1 k 0 ([] : List Int)
theorem smithyref23_list.ok (k : Nat) : smithyref23_list.Ctr (smithyref23_list.f k) := by
 intro x1 ch_0_0 ch_0_1 r h0 mi w0 ok hm
 delta smithyref23_list.f at h0
 refine c_enterZ (n := 26) ok hm func28 rfl rfl rfl fun b0 hb a S => c_region (s_assign S rfl rfl fun a S => c_end (c_region (s_bldSl S (ty' := yb) (ds := []) (z := 0) (c0 := ()) (ys := ([] : List Int)) (cs := []) rfl underlying37 J5 Z5 rfl ⟨rfl, trivial⟩ rfl rfl rfl rfl rfl rfl fun g1 a w S => s_assign S rfl rfl fun a S => c_end (wp_seq_k fun K1 hK1 => ?_))))
 have j1 : ∀ m A1 nn1 cp1 y1 a w, St 26 m b0 [(3, (.s A1 nn1 cp1))] [Res.row yb 5 A1 nn1 cp1 y1] a w → smithyref23_list.j1 k y1 = some r → K1 a w := by
  intro m A1 nn1 cp1 y1 a w S h0
  delta smithyref23_list.j1 at h0
  refine hK1 a w (c_region (s_move S rfl rfl fun a S => s_lenO S rfl .h underlying37 rfl fun a S => bindX h0 fun t1 et1 h1 => s_callR S (fun (ch : (Option Addr) × Nat × Nat) => ((.s ch.1 ch.2.1 ch.2.2) : D)) (fun (ch : (Option Addr) × Nat × Nat) => Res.row yb 5 ch.1 ch.2.1 ch.2.2 t1) N47 rfl rfl (smithyref07_Head.ok k ((y1).length : Int) 64 t1 et1 _ _) fun ch1 m le1 a w S => s_assign S rfl rfl fun a S => c_end (c_region (s_move S rfl rfl fun a S => s_move S rfl rfl fun a S => ?_))))
  obtain ⟨c1, h2⟩ := chk_of h1; clear h1
  refine s_app S (k2 := nn1) (ys := y1) rfl (fun _ _ => .h) rfl rfl (S.holds _ (Pull.mem .h1).1).1 (Res.row.src (S.holds _ (Pull.mem .h1).1)) underlying37 J5 c1 rfl fun A2 cp2 a w S => s_assign S rfl rfl fun a S => c_end (c_region (s_move S rfl rfl fun a S => s_assign S rfl rfl fun a S => c_end (wp_ret ?_)))
  obtain rfl := Option.some.inj h2
  exact b_ret1 (d := (.s A2 (ch1.2.1 + nn1) cp2)) S rfl rfl fun ok => S.retX (Hx := []) hb _ _ ((A2, ch1.2.1 + nn1, cp2) : (Option Addr) × Nat × Nat) (.c0 .n) ok
 refine c_region (s_move S rfl rfl fun a S => s_lenS S rfl underlying63 rfl fun a S => s_move S rfl rfl fun a S => c_end (wp_block ?_))
 refine c_loop (fun q1 a w => ∃ m y4 A3 nn3 cp8 y5, St 26 m b0 [(9, (.i y4)), (8, (.i ((x1).length : Int))), (3, (.s A3 nn3 cp8)), (0, (.q (Ty.slice yb) ch_0_0 ch_0_1 x1))] [Res.row yb 5 A3 nn3 cp8 y5] a w ∧ smithyref23_list.l1 k x1 q1 y4 y5 = some r) ?_ ?_ (k := k) ⟨_, 0, (ad g1), 0, 0, ([] : List Int), (S.sb rfl (.c0 .n)), h0⟩
 ·rintro a w ⟨m, y4, A3, nn3, cp8, y5, S, h0⟩
  exact (nomatch (show (none : Option ((List Int))) = some r from h0))
 ·clear S h0
  rintro q1 a w ⟨m, y4, A3, nn3, cp8, y5, S, h0⟩
  replace h0 : smithyref23_list.b1 k x1 (smithyref23_list.l1 k x1 q1) y4 y5 = some r := h0
  delta smithyref23_list.b1 at h0
  refine c_region (s_bin S rfl rfl rfl rfl fun a S => c_end (wp_seq ?_))
  rcases ite_of h0 with ⟨c2, h1⟩ | ⟨c2, h1⟩
  ·refine c_condT S rfl c2 (wp_skip (x_thenN (wp_seq (wp_block (c_region (s_move S rfl rfl fun a S => s_assign S rfl rfl fun a S => c_end (c_region' (s_move S rfl rfl fun a S => s_move S rfl rfl fun a S => s_move S rfl rfl fun a S => ?_))))))))
   obtain ⟨c3, h2⟩ := chk_of h1; clear h1
   refine s_iaddrS S rfl rfl rfl underlying63 T37 c3.1 c3.2 rfl fun p1 a S => s_ldS S (fun c => c) rfl T37 (fun _ => rfl) rfl fun A4 cp9 a S => ?_
   obtain ⟨c4, h3⟩ := chk_of h2; clear h2
   refine s_app S (k2 := ((gt x1 y4).length)) (ys := (gt x1 y4)) rfl (fun _ _ => .h) rfl rfl rfl (RdS.src (S.get 16 (.q yb A4 cp9 (gt x1 y4)) rfl).2.2.2.1 (by decide) S.frz) underlying37 J5 c4 rfl fun A5 cp10 a w S => s_assign S rfl rfl fun a S => c_end' (x_blockN (x_thenN (c_region' (s_bin S rfl rfl rfl rfl fun a S => s_move S rfl rfl fun a S => c_end' (x_thenN ?_)))))
   exact ⟨_, (wr .i64 (y4 + 1)), A5, (nn3 + ((gt x1 y4).length)), cp10, (y5 ++ (gt x1 y4)), (S.sb rfl (.c0 .n)), h3⟩
  ·refine c_condF S rfl c2 (wp_exit (x_thenX (x_thenX (x_blockX (x_thenN ?_)))))
   exact j1 _ A3 nn3 cp8 y5 a w (S.sub ⟨rfl, trivial⟩ (.c0 .n)) h1
abbrev smithyref05_Constants.Ty : Type := Option ((List Int))
def smithyref05_Constants.Ctr (s : smithyref05_Constants.Ty) : Prop := ∀ (r : (List Int)), Ct (C := Unit) Tryd.prog 87 (s = some r) [] [] (fun _ => (.agg [.ints .u64 r 24])) fun _ => []
def smithyref05_Constants.j1 (y1 : List Int) : Option ((List Int)) := some y1
def smithyref05_Constants.j2 (y31 : Int) (rec1 : Int → Int → (List Int) → Option ((List Int))) (y46 : Int) (y47 : List Int) : Option ((List Int)) := rec1 (wr .i64 (y31 + 1)) y46 y47
def smithyref05_Constants.j3 (y57 : Int) (rec2 : Int → Int → (List Int) → Option ((List Int))) (y61 : Int) (y62 : List Int) : Option ((List Int)) := rec2 (wr .i64 (y57 + 1)) y61 y62
def smithyref05_Constants.j4 (y57 : Int) (y58 : Int) (rec2 : Int → Int → (List Int) → Option ((List Int))) (y63 : List Int) : Option ((List Int)) := if (decide (256 ≤ (wr .i64 (y58 * 2)))) = true then (smithyref05_Constants.j3 y57 rec2 (bits .xor .i64 (wr .i64 (y58 * 2)) 369) y63) else (smithyref05_Constants.j3 y57 rec2 (wr .i64 (y58 * 2)) y63)
def smithyref05_Constants.b2 (y31 : Int) (rec1 : Int → Int → (List Int) → Option ((List Int))) (rec2 : Int → Int → (List Int) → Option ((List Int))) (y57 : Int) (y58 : Int) (y59 : List Int) : Option ((List Int)) := if (decide (y57 < 7)) = true then (if ((Int.tmod y58 2) == 1) = true then (if (0 : Int) ≤ y31 ∧ y31 < 24 then (if (0 : Int) ≤ y57 then (if (0 : Int) ≤ (wr .u64 ((shl .u64 1 (min (Int.toNat y57) 64)) - 1)) then (smithyref05_Constants.j4 y57 y58 rec2 (y59.set (Int.toNat y31) (bits .or .u64 (rd y59 y31) (shl .u64 1 (min (Int.toNat (wr .u64 ((shl .u64 1 (min (Int.toNat y57) 64)) - 1))) 64))))) else none) else none) else none) else (smithyref05_Constants.j4 y57 y58 rec2 y59)) else (smithyref05_Constants.j2 y31 rec1 y58 y59)
def smithyref05_Constants.l2 (y31 : Int) (rec1 : Int → Int → (List Int) → Option ((List Int))) : Nat → Int → Int → (List Int) → Option ((List Int))
  | 0, _, _, _ => none
  | q + 1, y57, y58, y59 => smithyref05_Constants.b2 y31 rec1 (smithyref05_Constants.l2 y31 rec1 q) y57 y58 y59
def smithyref05_Constants.b1 (k : Nat) (rec1 : Int → Int → (List Int) → Option ((List Int))) (y31 : Int) (y32 : Int) (y33 : List Int) : Option ((List Int)) := if (decide (y31 < 24)) = true then (smithyref05_Constants.l2 y31 rec1 k 0 y32 y33) else (smithyref05_Constants.j1 y33)
def smithyref05_Constants.l1 (k : Nat) : Nat → Int → Int → (List Int) → Option ((List Int))
  | 0, _, _, _ => none
  | q + 1, y31, y32, y33 => smithyref05_Constants.b1 k (smithyref05_Constants.l1 k q) y31 y32 y33
def smithyref05_Constants.f (k : Nat) : Option ((List Int)) := smithyref05_Constants.l1 k k 0 1 [0, 0, 0, 0, 0, 0, 0, 0, 0, 0, 0, 0, 0, 0, 0, 0, 0, 0, 0, 0, 0, 0, 0, 0]
theorem smithyref05_Constants.ok (k : Nat) : smithyref05_Constants.Ctr (smithyref05_Constants.f k) := by
 intro r h0 mi w0 ok hm
 delta smithyref05_Constants.f at h0
 refine c_enterZ (n := 34) ok hm func87 rfl rfl rfl fun b0 hb a S => c_region (s_alloc S Z118 rfl ⟨rfl, trivial⟩ rfl fun g1 a w S => c_end (c_region (s_build S (ds := []) (dv := (.agg [.ints .u64 z24 24])) rfl (fun _ => by kernel_rfl) ⟨rfl, trivial⟩ rfl fun a S => s_alloc S Z118 rfl ⟨rfl, trivial⟩ rfl fun g2 a w S => s_store S rfl rfl rfl (s' := [.ints .u64 z24 24]) .h T118 rfl rfl fun w S => c_end (c_region (s_assign S rfl rfl fun a S => c_end (wp_seq_k fun K1 hK1 => ?_))))))
 have j1 : ∀ m g39 g40 y1 a w, St 34 m b0 [(1, (.p g39)), (0, (.p g40))] [Res.cells g39 118 [.ints .u64 y1 24], Res.cells g40 118 [.ints .u64 z24 24]] a w → smithyref05_Constants.j1 y1 = some r → K1 a w := by
  intro m g39 g40 y1 a w S h0
  delta smithyref05_Constants.j1 at h0
  refine hK1 a w (c_region (s_loada S rfl .h T118 (s' := [.ints .u64 y1 24]) rfl rfl fun a S => s_store S rfl rfl rfl (s' := [.ints .u64 y1 24]) .h1 T118 rfl rfl fun w S => c_end (wp_ret ?_)))
  obtain rfl := Option.some.inj h0
  exact b_ret1 (d := (.agg [.ints .u64 y1 24])) S rfl (resD_cell rfl .h1 T118 rfl rfl) (S.rt hb)
 refine c_region (s_assign S rfl rfl fun a S => c_end (wp_block ?_))
 refine c_loop (fun q1 a w => ∃ m y31 y32 g75 g76 y33, St 34 m b0 [(3, (.i y31)), (2, (.i y32)), (1, (.p g75)), (0, (.p g76))] [Res.cells g75 118 [.ints .u64 y33 24], Res.cells g76 118 [.ints .u64 z24 24]] a w ∧ smithyref05_Constants.l1 k q1 y31 y32 y33 = some r) ?_ ?_ (k := k) ⟨_, 0, 1, g2, g1, z24, (S.sb rfl (.c0 (.c0 .n))), h0⟩
 ·rintro a w ⟨m, y31, y32, g75, g76, y33, S, h0⟩
  exact (nomatch (show (none : Option ((List Int))) = some r from h0))
 ·clear S h0
  rintro q1 a w ⟨m, y31, y32, g75, g76, y33, S, h0⟩
  replace h0 : smithyref05_Constants.b1 k (smithyref05_Constants.l1 k q1) y31 y32 y33 = some r := h0
  delta smithyref05_Constants.b1 at h0
  refine wp_seq (c_region (s_move S rfl rfl fun a S => s_bin S rfl rfl rfl rfl fun a S => c_end ?_))
  rcases ite_of h0 with ⟨c1, h1⟩ | ⟨c1, h1⟩
  ·refine c_condT S rfl c1 (wp_skip (x_thenN (wp_seq_k fun K2 hK2 => ?_)))
   have j2 : ∀ m y46 g91 g92 y47 a w, St 34 m b0 [(3, (.i y31)), (2, (.i y46)), (1, (.p g91)), (0, (.p g92))] [Res.cells g91 118 [.ints .u64 y47 24], Res.cells g92 118 [.ints .u64 z24 24]] a w → smithyref05_Constants.j2 y31 (smithyref05_Constants.l1 k q1) y46 y47 = some r → K2 a w := by
    intro m y46 g91 g92 y47 a w S h0
    delta smithyref05_Constants.j2 at h0
    refine hK2 a w (c_region' (s_move S rfl rfl fun a S => s_bin S rfl rfl rfl rfl fun a S => s_assign S rfl rfl fun a S => c_end' (x_thenN ?_)))
    exact ⟨_, (wr .i64 (y31 + 1)), y46, g91, g92, y47, (S.sb rfl (.c0 (.c0 .n))), h0⟩
   refine wp_block (c_region (s_assign S rfl rfl fun a S => c_end (wp_block ?_)))
   refine c_loop (fun q2 a w => ∃ m y57 y58 g105 g106 y59, St 34 m b0 [(4, (.i y57)), (3, (.i y31)), (2, (.i y58)), (1, (.p g105)), (0, (.p g106))] [Res.cells g105 118 [.ints .u64 y59 24], Res.cells g106 118 [.ints .u64 z24 24]] a w ∧ smithyref05_Constants.l2 y31 (smithyref05_Constants.l1 k q1) q2 y57 y58 y59 = some r) ?_ ?_ (k := k) ⟨_, 0, y32, g75, g76, y33, (S.sb rfl (.c0 (.c0 .n))), h1⟩
   ·rintro a w ⟨m, y57, y58, g105, g106, y59, S, h0⟩
    exact (nomatch (show (none : Option ((List Int))) = some r from h0))
   ·clear S h1
    rintro q2 a w ⟨m, y57, y58, g105, g106, y59, S, h0⟩
    replace h0 : smithyref05_Constants.b2 y31 (smithyref05_Constants.l1 k q1) (smithyref05_Constants.l2 y31 (smithyref05_Constants.l1 k q1) q2) y57 y58 y59 = some r := h0
    delta smithyref05_Constants.b2 at h0
    refine wp_seq (c_region (s_move S rfl rfl fun a S => s_bin S rfl rfl rfl rfl fun a S => c_end ?_))
    rcases ite_of h0 with ⟨c2, h1⟩ | ⟨c2, h1⟩
    ·refine c_condT S rfl c2 (wp_skip (x_thenN (wp_seq_k fun K3 hK3 => ?_)))
     have j3 : ∀ m y61 g109 g110 y62 a w, St 34 m b0 [(2, (.i y61)), (4, (.i y57)), (3, (.i y31)), (1, (.p g109)), (0, (.p g110))] [Res.cells g109 118 [.ints .u64 y62 24], Res.cells g110 118 [.ints .u64 z24 24]] a w → smithyref05_Constants.j3 y57 (smithyref05_Constants.l2 y31 (smithyref05_Constants.l1 k q1) q2) y61 y62 = some r → K3 a w := by
      intro m y61 g109 g110 y62 a w S h0
      delta smithyref05_Constants.j3 at h0
      refine hK3 a w (c_region' (s_move S rfl rfl fun a S => s_bin S rfl rfl rfl rfl fun a S => s_assign S rfl rfl fun a S => c_end' (x_thenN ?_)))
      exact ⟨_, (wr .i64 (y57 + 1)), y61, g109, g110, y62, (S.sb rfl (.c0 (.c0 .n))), h0⟩
     refine wp_block (wp_seq_k fun K4 hK4 => ?_)
     have j4 : ∀ m g111 g112 y63 a w, St 34 m b0 [(4, (.i y57)), (3, (.i y31)), (2, (.i y58)), (1, (.p g111)), (0, (.p g112))] [Res.cells g111 118 [.ints .u64 y63 24], Res.cells g112 118 [.ints .u64 z24 24]] a w → smithyref05_Constants.j4 y57 y58 (smithyref05_Constants.l2 y31 (smithyref05_Constants.l1 k q1) q2) y63 = some r → K4 a w := by
      intro m g111 g112 y63 a w S h0
      delta smithyref05_Constants.j4 at h0
      refine hK4 a w (c_region (s_move S rfl rfl fun a S => s_bin S rfl rfl rfl rfl fun a S => s_assign S rfl rfl fun a S => c_end (c_region (s_move S rfl rfl fun a S => s_bin S rfl rfl rfl rfl fun a S => c_end ?_))))
      rcases ite_of h0 with ⟨c3, h1⟩ | ⟨c3, h1⟩
      ·refine c_condT S rfl c3 (c_region' (s_move S rfl rfl fun a S => s_bin S rfl rfl rfl rfl fun a S => s_assign S rfl rfl fun a S => c_end' (x_blockN (x_thenN ?_))))
       exact j3 _ (bits .xor .i64 (wr .i64 (y58 * 2)) 369) g111 g112 y63 a w (S.sb rfl (.c0 (.c0 .n))) h1
      ·refine c_condF S rfl c3 (wp_skip (x_blockN (x_thenN ?_)))
       exact j3 _ (wr .i64 (y58 * 2)) g111 g112 y63 a w (S.sb rfl (.c0 (.c0 .n))) h1
     refine c_region (s_move S rfl rfl fun a S => s_rem S rfl rfl (by decide) rfl fun a S => s_bin S rfl rfl rfl rfl fun a S => c_end ?_)
     rcases ite_of h1 with ⟨c4, h2⟩ | ⟨c4, h2⟩
     ·refine c_condT S rfl c4 (c_heldS S (.take 0 (.take 1 (.take 2 (.take 3 (.take 4 (.take 5 (.take 6 (.take 7 (.take 8 (.take 9 (.alts (.run 10 false .done .nil)))))))))))) 10 [Res.cells g105 118 [.ints .u64 y59 24], Res.cells g106 118 [.ints .u64 z24 24]] (.c0 (.c0 .n)) ⟨Res.stay_cells, Res.stay_cells, trivial⟩ [(4, (.i y57)), (3, (.i y31)), (1, (.p g105))] (subR rfl) (by kernel_rfl) (by kernel_rfl) fun w S CL hw le => ?_)
      refine h_move S CL hw le (subR rfl) rfl rfl rfl trivial fun a S CL => h_move S CL hw le (subR rfl) rfl rfl rfl trivial fun a S CL => ?_
      obtain ⟨c5, h3⟩ := chk_of h2; clear h2
      refine h_iaddr S CL hw le (subR rfl) rfl rfl underlying118 T24 c5.1 c5.2 (mul1 _ _) rfl rfl trivial fun a S CL => h_loadi S CL hw le (subR rfl) (i := y31) rfl .h T24 .h rfl c5.1 c5.2 rfl rfl trivial fun a S CL => h_move S CL hw le (subR rfl) rfl rfl rfl trivial fun a S CL => ?_
      obtain ⟨c6, h4⟩ := chk_of h3; clear h3
      refine h_shl S CL hw le (subR rfl) (e := (min (Int.toNat y57) 64)) rfl rfl c6 rfl rfl rfl trivial fun a S CL => h_bin S CL hw le (subR rfl) rfl rfl rfl rfl rfl trivial fun a S CL => ?_
      obtain ⟨c7, h5⟩ := chk_of h4; clear h4
      refine h_shl S CL hw le (subR rfl) (e := (min (Int.toNat (wr .u64 ((shl .u64 1 (min (Int.toNat y57) 64)) - 1))) 64)) rfl rfl c7 rfl rfl rfl trivial fun a S CL => h_bin S CL hw le (subR rfl) rfl rfl rfl rfl rfl trivial fun a S CL => h_iaddr S CL hw le (subR rfl) rfl rfl underlying118 T24 c5.1 c5.2 (mul1 _ _) rfl rfl trivial fun a S CL => h_run' S rfl trivial (s_storei S (i := y31) rfl rfl .h T24 .h rfl c5.1 c5.2 fun w S => ?_)
      refine h_back ⟨fun h => (nomatch h), ?_⟩
      refine h_done ?_; clear CL hw le
      refine x_thenN ?_
      exact j4 _ g105 g106 (y59.set (Int.toNat y31) (bits .or .u64 (rd y59 y31) (shl .u64 1 (min (Int.toNat (wr .u64 ((shl .u64 1 (min (Int.toNat y57) 64)) - 1))) 64)))) a w (S.sb rfl (.c0 (.c0 .n))) h5
     ·refine c_condF S rfl c4 (wp_skip (x_thenN ?_))
      exact j4 _ g105 g106 y59 a w (S.sb rfl (.c0 (.c0 .n))) h2
    ·refine c_condF S rfl c2 (wp_exit (x_thenX (x_thenX (x_blockX (x_blockN (x_thenN ?_))))))
     exact j2 _ y58 g105 g106 y59 a w (S.sb rfl (.c0 (.c0 .n))) h1
  ·refine c_condF S rfl c1 (wp_exit (x_thenX (x_thenX (x_blockX (x_thenN ?_)))))
   exact j1 _ g75 g76 y33 a w (S.sb rfl (.c0 (.c0 .n))) h1
abbrev smithyref05_up.Ty : Type := Int → Int → Option Int
def smithyref05_up.Ctr (s : smithyref05_up.Ty) : Prop := ∀ (x1 : Int) (x2 : Int) (r : Int), Ct (C := Unit) Tryd.prog 94 (s x1 x2 = some r) [] [(.w x1), (.i x2)] (fun _ => (.w r)) fun _ => []
def smithyref05_up.f (x1 : Int) (x2 : Int) : Option Int := if ((Int.tmod x2 64) == 0) = true then (some x1) else (if (0 : Int) ≤ (Int.tmod x2 64) then (if (0 : Int) ≤ (wr .i64 (64 - (Int.tmod x2 64))) then (some (bits .or .u64 (shl .u64 x1 (min (Int.toNat (Int.tmod x2 64)) 64)) (shr x1 (min (Int.toNat (wr .i64 (64 - (Int.tmod x2 64)))) 64)))) else none) else none)
theorem smithyref05_up.ok : smithyref05_up.Ctr (smithyref05_up.f) := by
 intro x1 x2 r h0 mi w0 ok hm
 delta smithyref05_up.f at h0
 refine c_enterZ (n := 18) ok hm func94 rfl rfl rfl fun b0 hb a S => c_region (s_assign S rfl rfl fun a S => c_end (c_region (s_move S rfl rfl fun a S => s_rem S rfl rfl (by decide) rfl fun a S => s_assign S rfl rfl fun a S => c_end (wp_seq (c_region (s_move S rfl rfl fun a S => s_bin S rfl rfl rfl rfl fun a S => c_end ?_))))))
 rcases ite_of h0 with ⟨c1, h1⟩ | ⟨c1, h1⟩
 ·refine c_condT S rfl c1 (c_region (s_move S rfl rfl fun a S => s_assign S rfl rfl fun a S => c_end (wp_ret (x_thenR ?_))))
  obtain rfl := Option.some.inj h1
  exact b_ret1 (d := (.w x1)) S rfl rfl (S.rt hb)
 ·refine c_condF S rfl c1 (wp_skip (x_thenN ?_))
  refine wp_seq (c_heldS S (.take 0 (.take 1 (.take 2 (.take 3 (.take 4 (.take 5 (.take 6 (.take 7 (.take 8 .done))))))))) 9 [] .nil trivial [(1, (.i (Int.tmod x2 64))), (0, (.w x1))] (subR rfl) (by kernel_rfl) (by kernel_rfl) ?_); clear S; intro w S CL hw le
  refine h_move S CL hw le (subR rfl) rfl rfl rfl trivial fun a S CL => h_move S CL hw le (subR rfl) rfl rfl rfl trivial fun a S CL => ?_
  obtain ⟨c2, h2⟩ := chk_of h1; clear h1
  refine h_shl S CL hw le (subR rfl) (e := (min (Int.toNat (Int.tmod x2 64)) 64)) rfl rfl c2 rfl rfl rfl trivial fun a S CL => h_move S CL hw le (subR rfl) rfl rfl rfl trivial fun a S CL => h_move S CL hw le (subR rfl) rfl rfl rfl trivial fun a S CL => h_bin S CL hw le (subR rfl) rfl rfl rfl rfl rfl trivial fun a S CL => ?_
  obtain ⟨c3, h3⟩ := chk_of h2; clear h2
  refine h_shr S CL hw le (subR rfl) (e := (min (Int.toNat (wr .i64 (64 - (Int.tmod x2 64)))) 64)) rfl rfl c3 rfl rfl rfl trivial fun a S CL => h_bin S CL hw le (subR rfl) rfl rfl rfl rfl rfl trivial fun a S CL => h_assign S CL hw le (subR rfl) rfl rfl rfl trivial fun a S CL => ?_
  refine h_done ?_; clear CL hw le
  refine x_thenN (wp_ret ?_)
  obtain rfl := Option.some.inj h3
  exact b_ret1 (d := (.w (bits .or .u64 (shl .u64 x1 (min (Int.toNat (Int.tmod x2 64)) 64)) (shr x1 (min (Int.toNat (wr .i64 (64 - (Int.tmod x2 64)))) 64))))) S rfl rfl (S.rt hb)
end GW
