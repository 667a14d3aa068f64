import Derived.Test.YtmidfllhoogifaaProg
import Derived.Test.YtmidfllhoogifaaGB
set_option linter.unusedVariables false
set_option linter.unusedSimpArgs false
set_option maxRecDepth 10000
set_option maxHeartbeats 4000000
namespace GW
open Go Go.RowKit Go.Proofs Go.Proofs.Try
noncomputable section
abbrev api_Account_n61_0z_4f35.Ty : Type := (List L30) → Int → Int → Int → Option ((List L30))
def api_Account_n61_0z_4f35.Ctr (s : api_Account_n61_0z_4f35.Ty) : Prop := ∀ (x1 : List L30) (x2 : Int) (x3 : Int) (x4 : Int) (ch_0_0 : Option Addr) (ch_0_1 : Nat) (ch_0_2 : Nat) (ch_0_3 : Mem) (r : (List L30)), Ct (C := Unit) Try.prog 61 (s x1 x2 x3 x4 = some r) [Res.row (Ty.atZ ch_0_3 Y30) 30 ch_0_0 ch_0_1 ch_0_2 x1, Res.priv ch_0_3] [(.s ch_0_0 ch_0_1 ch_0_2), (.i x2), (.i x3), (.i x4), (.v (.func (.func 35) #[] #[]))] (fun _ => (.tup [])) fun _ => [Res.row (Ty.atZ ch_0_3 Y30) 30 ch_0_0 ch_0_1 ch_0_2 r, Res.priv ch_0_3]
def api_Account_n61_0z_4f35.j3 (x4 : Int) (y1 : List L30) (y2 : Int) (rec1 : (List L30) → Int → Option ((List L30))) (y4 : Int) : Option ((List L30)) := rec1 ((y1.set (Int.toNat (wr .i64 (x4 + y2))) (gt y1 (wr .i64 (x4 + y4)))).set (Int.toNat (wr .i64 (x4 + y4))) (gt y1 (wr .i64 (x4 + y2)))) y4
def api_Account_n61_0z_4f35.j2 (x4 : Int) (y1 : List L30) (y2 : Int) (rec1 : (List L30) → Int → Option ((List L30))) (y4 : Int) (y5 : Bool) : Option ((List L30)) := if y5 = true then (some y1) else (if (0 : Int) ≤ (wr .i64 (x4 + y4)) ∧ (wr .i64 (x4 + y4)) < ((y1).length : Int) then (if (0 : Int) ≤ (wr .i64 (x4 + y2)) ∧ (wr .i64 (x4 + y2)) < ((y1).length : Int) then (if (0 : Int) ≤ (wr .i64 (x4 + y4)) ∧ (wr .i64 (x4 + y4)) < ((y1.set (Int.toNat (wr .i64 (x4 + y2))) (gt y1 (wr .i64 (x4 + y4)))).length : Int) then (api_Account_n61_0z_4f35.j3 x4 y1 y2 rec1 y4) else none) else none) else none)
def api_Account_n61_0z_4f35.j1 (x4 : Int) (y1 : List L30) (y2 : Int) (rec1 : (List L30) → Int → Option ((List L30))) (y4 : Int) : Option ((List L30)) := if (0 : Int) ≤ (wr .i64 (x4 + y2)) ∧ (wr .i64 (x4 + y2)) < ((y1).length : Int) then (if (0 : Int) ≤ (wr .i64 (x4 + y4)) ∧ (wr .i64 (x4 + y4)) < ((y1).length : Int) then ((store_Store_All_1.f (gt y1 (wr .i64 (x4 + y2))) (gt y1 (wr .i64 (x4 + y4)))).bind fun t1 => (api_Account_n61_0z_4f35.j2 x4 y1 y2 rec1 y4 (!(decide (t1 < 0))))) else none) else none
def api_Account_n61_0z_4f35.j4 (x4 : Int) (y1 : List L30) (y2 : Int) (rec1 : (List L30) → Int → Option ((List L30))) (y6 : Bool) : Option ((List L30)) := if y6 = true then (api_Account_n61_0z_4f35.j1 x4 y1 y2 rec1 (wr .i64 ((wr .i64 ((wr .i64 (2 * y2)) + 1)) + 1))) else (api_Account_n61_0z_4f35.j1 x4 y1 y2 rec1 (wr .i64 ((wr .i64 (2 * y2)) + 1)))
def api_Account_n61_0z_4f35.b1 (x3 : Int) (x4 : Int) (rec1 : (List L30) → Int → Option ((List L30))) (y1 : List L30) (y2 : Int) : Option ((List L30)) := if (decide (x3 ≤ (wr .i64 ((wr .i64 (2 * y2)) + 1)))) = true then (some y1) else (if (decide ((wr .i64 ((wr .i64 ((wr .i64 (2 * y2)) + 1)) + 1)) < x3)) = true then (if (0 : Int) ≤ (wr .i64 (x4 + (wr .i64 ((wr .i64 (2 * y2)) + 1)))) ∧ (wr .i64 (x4 + (wr .i64 ((wr .i64 (2 * y2)) + 1)))) < ((y1).length : Int) then (if (0 : Int) ≤ (wr .i64 ((wr .i64 (x4 + (wr .i64 ((wr .i64 (2 * y2)) + 1)))) + 1)) ∧ (wr .i64 ((wr .i64 (x4 + (wr .i64 ((wr .i64 (2 * y2)) + 1)))) + 1)) < ((y1).length : Int) then ((store_Store_All_1.f (gt y1 (wr .i64 (x4 + (wr .i64 ((wr .i64 (2 * y2)) + 1))))) (gt y1 (wr .i64 ((wr .i64 (x4 + (wr .i64 ((wr .i64 (2 * y2)) + 1)))) + 1)))).bind fun t3 => (api_Account_n61_0z_4f35.j4 x4 y1 y2 rec1 (decide (t3 < 0)))) else none) else none) else (api_Account_n61_0z_4f35.j4 x4 y1 y2 rec1 false))
def api_Account_n61_0z_4f35.l1 (x3 : Int) (x4 : Int) : Nat → (List L30) → Int → Option ((List L30))
  | 0, _, _ => none
  | q + 1, y1, y2 => api_Account_n61_0z_4f35.b1 x3 x4 (api_Account_n61_0z_4f35.l1 x3 x4 q) y1 y2
def api_Account_n61_0z_4f35.f (k : Nat) (x1 : List L30) (x2 : Int) (x3 : Int) (x4 : Int) : Option ((List L30)) := api_Account_n61_0z_4f35.l1 x3 x4 k x1 x2
theorem api_Account_n61_0z_4f35.ok (k : Nat) : api_Account_n61_0z_4f35.Ctr (api_Account_n61_0z_4f35.f k) := by
 intro x1 x2 x3 x4 ch_0_0 ch_0_1 ch_0_2 ch_0_3 r h0 mi w0 ok hm
 delta api_Account_n61_0z_4f35.f at h0
 refine c_enterZ (n := 82) ok hm func61 rfl rfl rfl fun b0 hb a S => c_region (s_move S rfl rfl fun a S => s_assign S rfl rfl fun a S => c_end (wp_block ?_))
 refine c_loop (fun q1 a w => ∃ m y1 y2, St 82 m b0 [(10, (.i y2)), (0, (.s ch_0_0 ch_0_1 ch_0_2)), (2, (.i x3)), (3, (.i x4)), (4, (.v (.func (.func 35) #[] #[])))] [Res.row (Ty.atZ ch_0_3 Y30) 30 ch_0_0 ch_0_1 ch_0_2 y1, Res.priv ch_0_3] a w ∧ api_Account_n61_0z_4f35.l1 x3 x4 q1 y1 y2 = some r) ?_ ?_ (k := k) ⟨_, x1, x2, (S.sb rfl (.c0 (.c0 .n))), h0⟩
 ·rintro a w ⟨m, y1, y2, S, h0⟩
  exact (nomatch (show (none : Option ((List L30))) = some r from h0))
 ·clear S h0
  rintro q1 a w ⟨m, y1, y2, S, h0⟩
  replace h0 : api_Account_n61_0z_4f35.b1 x3 x4 (api_Account_n61_0z_4f35.l1 x3 x4 q1) y1 y2 = some r := h0
  delta api_Account_n61_0z_4f35.b1 at h0
  refine wp_block (c_region (s_move S rfl rfl fun a S => s_bin S rfl rfl rfl rfl fun a S => s_bin S rfl rfl rfl rfl fun a S => s_assign S rfl rfl fun a S => c_end (wp_seq (c_region (s_move S rfl rfl fun a S => s_move S rfl rfl fun a S => s_bin S rfl rfl rfl rfl fun a S => c_end ?_)))))
  rcases ite_of h0 with ⟨c1, h1⟩ | ⟨c1, h1⟩
  ·refine c_condT S rfl c1 (wp_exit (x_thenX (x_blockO (by decide) (x_thenX (x_blockX (b_end ?_))))))
   obtain rfl := Option.some.inj h1
   exact b_ret0 S rfl (S.retX (Hx := []) hb _ _ (() : Unit) (.c0 (.c0 .n)) trivial)
  ·refine c_condF S rfl c1 (wp_skip (x_thenN (wp_seq_k fun K1 hK1 => ?_)))
   have j1 : ∀ m y4 a w, St 82 m b0 [(11, (.i y4)), (10, (.i y2)), (0, (.s ch_0_0 ch_0_1 ch_0_2)), (2, (.i x3)), (3, (.i x4)), (4, (.v (.func (.func 35) #[] #[])))] [Res.row (Ty.atZ ch_0_3 Y30) 30 ch_0_0 ch_0_1 ch_0_2 y1, Res.priv ch_0_3] a w → api_Account_n61_0z_4f35.j1 x4 y1 y2 (api_Account_n61_0z_4f35.l1 x3 x4 q1) y4 = some r → K1 a w := by
    intro m y4 a w S h0
    delta api_Account_n61_0z_4f35.j1 at h0
    refine hK1 a w (wp_seq (wp_seq_k fun K2 hK2 => ?_))
    have j2 : ∀ m y5 a w, St 82 m b0 [(58, (.b y5)), (11, (.i y4)), (10, (.i y2)), (0, (.s ch_0_0 ch_0_1 ch_0_2)), (2, (.i x3)), (3, (.i x4)), (4, (.v (.func (.func 35) #[] #[])))] [Res.row (Ty.atZ ch_0_3 Y30) 30 ch_0_0 ch_0_1 ch_0_2 y1, Res.priv ch_0_3] a w → api_Account_n61_0z_4f35.j2 x4 y1 y2 (api_Account_n61_0z_4f35.l1 x3 x4 q1) y4 y5 = some r → K2 a w := by
     intro m y5 a w S h0
     delta api_Account_n61_0z_4f35.j2 at h0
     refine hK2 a w ?_
     rcases ite_of h0 with ⟨c2, h1⟩ | ⟨c2, h1⟩
     ·refine c_condT S rfl c2 (wp_ret (x_thenR (x_blockR (x_thenR (x_blockR ?_)))))
      obtain rfl := Option.some.inj h1
      exact b_ret0 S rfl (S.retX (Hx := []) hb _ _ (() : Unit) (.c0 (.c0 .n)) trivial)
     ·refine c_condF S rfl c2 (wp_skip (x_thenN (wp_seq_k fun K3 hK3 => ?_)))
      have j3 : ∀ m a w, St 82 m b0 [(11, (.i y4)), (0, (.s ch_0_0 ch_0_1 ch_0_2)), (2, (.i x3)), (3, (.i x4)), (4, (.v (.func (.func 35) #[] #[])))] [Res.row (Ty.atZ ch_0_3 Y30) 30 ch_0_0 ch_0_1 ch_0_2 ((y1.set (Int.toNat (wr .i64 (x4 + y2))) (gt y1 (wr .i64 (x4 + y4)))).set (Int.toNat (wr .i64 (x4 + y4))) (gt y1 (wr .i64 (x4 + y2)))), Res.priv ch_0_3] a w → api_Account_n61_0z_4f35.j3 x4 y1 y2 (api_Account_n61_0z_4f35.l1 x3 x4 q1) y4 = some r → K3 a w := by
       intro m a w S h0
       delta api_Account_n61_0z_4f35.j3 at h0
       refine hK3 a w (c_region' (s_move S rfl rfl fun a S => s_assign S rfl rfl fun a S => c_end' (x_blockN (x_thenN ?_))))
       exact ⟨_, ((y1.set (Int.toNat (wr .i64 (x4 + y2))) (gt y1 (wr .i64 (x4 + y4)))).set (Int.toNat (wr .i64 (x4 + y4))) (gt y1 (wr .i64 (x4 + y2)))), y4, (S.sb rfl (.c0 (.c0 .n))), h0⟩
      refine c_heldS S (.take 0 (.take 1 (.take 2 (.take 3 (.take 4 (.take 5 (.take 6 (.take 7 (.take 8 (.take 9 (.take 10 (.take 11 (.take 14 (.take 15 (.take 16 (.take 17 (.alts (.run 12 true (.alts (.run 13 true (.alts (.run 18 true (.alts (.run 19 true (.alts (.run 20 true (.alts (.run 21 true (.alts (.run 22 true (.alts (.run 23 false .done .nil)) .nil)) .nil)) .nil)) .nil)) .nil)) (.run 18 true (.alts (.run 13 true (.alts (.run 19 true (.alts (.run 20 true (.alts (.run 21 true (.alts (.run 22 true (.alts (.run 23 false .done .nil)) .nil)) .nil)) .nil)) .nil)) (.run 19 true (.alts (.run 13 true (.alts (.run 20 true (.alts (.run 21 true (.alts (.run 22 true (.alts (.run 23 false .done .nil)) .nil)) .nil)) .nil)) .nil)) .nil))) .nil))) (.run 18 true (.alts (.run 12 true (.alts (.run 13 true (.alts (.run 19 true (.alts (.run 20 true (.alts (.run 21 true (.alts (.run 22 true (.alts (.run 23 false .done .nil)) .nil)) .nil)) .nil)) .nil)) (.run 19 true (.alts (.run 13 true (.alts (.run 20 true (.alts (.run 21 true (.alts (.run 22 true (.alts (.run 23 false .done .nil)) .nil)) .nil)) .nil)) .nil)) .nil))) (.run 19 true (.alts (.run 12 true (.alts (.run 13 true (.alts (.run 20 true (.alts (.run 21 true (.alts (.run 22 true (.alts (.run 23 false .done .nil)) .nil)) .nil)) .nil)) .nil)) .nil)) .nil))) .nil))))))))))))))))))) 23 [] .nil trivial [(11, (.i y4)), (10, (.i y2)), (0, (.s ch_0_0 ch_0_1 ch_0_2)), (3, (.i x4))] (subR rfl) (by kernel_rfl) (by kernel_rfl) fun w S CL hw le => ?_
      refine h_move S CL hw le (subR rfl) rfl rfl rfl trivial fun a S CL => h_move S CL hw le (subR rfl) rfl rfl rfl trivial fun a S CL => h_move S CL hw le (subR rfl) rfl rfl rfl trivial fun a S CL => h_bin S CL hw le (subR rfl) rfl rfl rfl rfl rfl trivial fun a S CL => h_move S CL hw le (subR rfl) rfl rfl rfl trivial fun a S CL => h_move S CL hw le (subR rfl) rfl rfl rfl trivial fun a S CL => h_move S CL hw le (subR rfl) rfl rfl rfl trivial fun a S CL => h_bin S CL hw le (subR rfl) rfl rfl rfl rfl rfl trivial fun a S CL => h_move S CL hw le (subR rfl) rfl rfl rfl trivial fun a S CL => h_move S CL hw le (subR rfl) rfl rfl rfl trivial fun a S CL => h_move S CL hw le (subR rfl) rfl rfl rfl trivial fun a S CL => h_bin S CL hw le (subR rfl) rfl rfl rfl rfl rfl trivial fun a S CL => h_move S CL hw le (subR rfl) rfl rfl rfl trivial fun a S CL => h_move S CL hw le (subR rfl) rfl rfl rfl trivial fun a S CL => h_move S CL hw le (subR rfl) rfl rfl rfl trivial fun a S CL => h_bin S CL hw le (subR rfl) rfl rfl rfl rfl rfl trivial fun a S CL => ?_
      obtain ⟨c3, h2⟩ := chk_of h1; clear h1
      obtain ⟨c4, h3⟩ := chk_of h2; clear h2
      obtain ⟨c5, h4⟩ := chk_of h3; clear h3
      refine h_alts ?_
      refine h_runO S rfl trivial ?_ ?_
      ·refine s_iaddrO S (ty' := (Ty.atZ ch_0_3 Y30)) rfl .h rfl underlying32 T30 c3.1 c3.2 rfl fun g1 a hA1 S => CL.bk hw S .nil le fun hw => h_alts ?_
       refine h_runO S rfl trivial ?_ ?_
       ·refine s_ldRA S (ty' := (Ty.atZ ch_0_3 Y30)) (i := (wr .i64 (x4 + y4))) (off := 0) (fun c => ((Ty.atZ ch_0_3 Y30).segs (gt y1 (wr .i64 (x4 + y4))) c)) rfl hA1 .h T30 c3.1 c3.2 rfl (fun _ => rfl) rfl fun ch1 a S => ?_
        refine CL.br hw S .nil le rfl trivial fun hw => (s_iaddrO S (ty' := (Ty.atZ ch_0_3 Y30)) rfl .h rfl underlying32 T30 c4.1 c4.2 rfl fun g2 a hA2 S => CL.br hw S .nil le rfl trivial fun hw => (s_ldRA S (ty' := (Ty.atZ ch_0_3 Y30)) (i := (wr .i64 (x4 + y2))) (off := 0) (fun c => ((Ty.atZ ch_0_3 Y30).segs (gt y1 (wr .i64 (x4 + y2))) c)) rfl hA2 .h T30 c4.1 c4.2 rfl (fun _ => rfl) rfl fun ch2 a S => ?_))
        refine CL.br hw S .nil le rfl trivial fun hw => (s_iaddrO S (ty' := (Ty.atZ ch_0_3 Y30)) rfl .h rfl underlying32 T30 c4.1 c4.2 rfl fun g3 a hA3 S => CL.br hw S .nil le rfl trivial fun hw => (s_stR S (ty' := (Ty.atZ ch_0_3 Y30)) (i := (wr .i64 (x4 + y2))) (off := 0) (u := gt y1 (wr .i64 (x4 + y4))) (fun _ => ch1) rfl rfl rfl hA3 .h T30 c4.1 c4.2 rfl (show 0 + 27 ≤ (Y30).size by decide) rfl (fun _ => rfl) fun w S => CL.br hw S .nil le rfl trivial fun hw => (s_iaddrO S (ty' := (Ty.atZ ch_0_3 Y30)) rfl .h rfl underlying32 T30 c5.1 c5.2 rfl fun g4 a hA4 S => CL.br hw S .nil le rfl trivial fun hw => (s_stR S (ty' := (Ty.atZ ch_0_3 Y30)) (i := (wr .i64 (x4 + y4))) (off := 0) (u := gt y1 (wr .i64 (x4 + y2))) (fun _ => ch2) rfl rfl rfl hA4 .h T30 c5.1 c5.2 rfl (show 0 + 27 ≤ (Y30).size by decide) rfl (fun _ => rfl) fun w S => ?_))))
        refine h_back ⟨fun h => (nomatch h), ?_⟩
        refine h_done ?_; clear CL hw le
        refine x_thenN ?_
        exact j3 _ a w (S.sb rfl (.c0 (.c0 .n))) h4
       refine h_runO S rfl trivial ?_ ?_
       ·refine s_iaddrO S (ty' := (Ty.atZ ch_0_3 Y30)) rfl .h rfl underlying32 T30 c4.1 c4.2 rfl fun g2 a hA2 S => CL.bk hw S .nil le fun hw => h_alts ?_
        refine h_runO S rfl trivial ?_ ?_
        ·refine s_ldRA S (ty' := (Ty.atZ ch_0_3 Y30)) (i := (wr .i64 (x4 + y4))) (off := 0) (fun c => ((Ty.atZ ch_0_3 Y30).segs (gt y1 (wr .i64 (x4 + y4))) c)) rfl hA1 .h T30 c3.1 c3.2 rfl (fun _ => rfl) rfl fun ch1 a S => ?_
         refine CL.br hw S .nil le rfl trivial fun hw => (s_ldRA S (ty' := (Ty.atZ ch_0_3 Y30)) (i := (wr .i64 (x4 + y2))) (off := 0) (fun c => ((Ty.atZ ch_0_3 Y30).segs (gt y1 (wr .i64 (x4 + y2))) c)) rfl hA2 .h T30 c4.1 c4.2 rfl (fun _ => rfl) rfl fun ch2 a S => ?_)
         refine CL.br hw S .nil le rfl trivial fun hw => (s_iaddrO S (ty' := (Ty.atZ ch_0_3 Y30)) rfl .h rfl underlying32 T30 c4.1 c4.2 rfl fun g3 a hA3 S => CL.br hw S .nil le rfl trivial fun hw => (s_stR S (ty' := (Ty.atZ ch_0_3 Y30)) (i := (wr .i64 (x4 + y2))) (off := 0) (u := gt y1 (wr .i64 (x4 + y4))) (fun _ => ch1) rfl rfl rfl hA3 .h T30 c4.1 c4.2 rfl (show 0 + 27 ≤ (Y30).size by decide) rfl (fun _ => rfl) fun w S => CL.br hw S .nil le rfl trivial fun hw => (s_iaddrO S (ty' := (Ty.atZ ch_0_3 Y30)) rfl .h rfl underlying32 T30 c5.1 c5.2 rfl fun g4 a hA4 S => CL.br hw S .nil le rfl trivial fun hw => (s_stR S (ty' := (Ty.atZ ch_0_3 Y30)) (i := (wr .i64 (x4 + y4))) (off := 0) (u := gt y1 (wr .i64 (x4 + y2))) (fun _ => ch2) rfl rfl rfl hA4 .h T30 c5.1 c5.2 rfl (show 0 + 27 ≤ (Y30).size by decide) rfl (fun _ => rfl) fun w S => ?_))))
         refine h_back ⟨fun h => (nomatch h), ?_⟩
         refine h_done ?_; clear CL hw le
         refine x_thenN ?_
         exact j3 _ a w (S.sb rfl (.c0 (.c0 .n))) h4
        refine h_runO S rfl trivial ?_ ?_
        ·refine s_ldRA S (ty' := (Ty.atZ ch_0_3 Y30)) (i := (wr .i64 (x4 + y2))) (off := 0) (fun c => ((Ty.atZ ch_0_3 Y30).segs (gt y1 (wr .i64 (x4 + y2))) c)) rfl hA2 .h T30 c4.1 c4.2 rfl (fun _ => rfl) rfl fun ch1 a S => ?_
         refine CL.br hw S .nil le rfl trivial fun hw => (s_ldRA S (ty' := (Ty.atZ ch_0_3 Y30)) (i := (wr .i64 (x4 + y4))) (off := 0) (fun c => ((Ty.atZ ch_0_3 Y30).segs (gt y1 (wr .i64 (x4 + y4))) c)) rfl hA1 .h T30 c3.1 c3.2 rfl (fun _ => rfl) rfl fun ch2 a S => ?_)
         refine CL.br hw S .nil le rfl trivial fun hw => (s_iaddrO S (ty' := (Ty.atZ ch_0_3 Y30)) rfl .h rfl underlying32 T30 c4.1 c4.2 rfl fun g3 a hA3 S => CL.br hw S .nil le rfl trivial fun hw => (s_stR S (ty' := (Ty.atZ ch_0_3 Y30)) (i := (wr .i64 (x4 + y2))) (off := 0) (u := gt y1 (wr .i64 (x4 + y4))) (fun _ => ch2) rfl rfl rfl hA3 .h T30 c4.1 c4.2 rfl (show 0 + 27 ≤ (Y30).size by decide) rfl (fun _ => rfl) fun w S => CL.br hw S .nil le rfl trivial fun hw => (s_iaddrO S (ty' := (Ty.atZ ch_0_3 Y30)) rfl .h rfl underlying32 T30 c5.1 c5.2 rfl fun g4 a hA4 S => CL.br hw S .nil le rfl trivial fun hw => (s_stR S (ty' := (Ty.atZ ch_0_3 Y30)) (i := (wr .i64 (x4 + y4))) (off := 0) (u := gt y1 (wr .i64 (x4 + y2))) (fun _ => ch1) rfl rfl rfl hA4 .h T30 c5.1 c5.2 rfl (show 0 + 27 ≤ (Y30).size by decide) rfl (fun _ => rfl) fun w S => ?_))))
         refine h_back ⟨fun h => (nomatch h), ?_⟩
         refine h_done ?_; clear CL hw le
         refine x_thenN ?_
         exact j3 _ a w (S.sb rfl (.c0 (.c0 .n))) h4
        exact h_nil
       exact h_nil
      refine h_runO S rfl trivial ?_ ?_
      ·refine s_iaddrO S (ty' := (Ty.atZ ch_0_3 Y30)) rfl .h rfl underlying32 T30 c4.1 c4.2 rfl fun g1 a hA1 S => CL.bk hw S .nil le fun hw => h_alts ?_
       refine h_runO S rfl trivial ?_ ?_
       ·refine s_iaddrO S (ty' := (Ty.atZ ch_0_3 Y30)) rfl .h rfl underlying32 T30 c3.1 c3.2 rfl fun g2 a hA2 S => CL.bk hw S .nil le fun hw => h_alts ?_
        refine h_runO S rfl trivial ?_ ?_
        ·refine s_ldRA S (ty' := (Ty.atZ ch_0_3 Y30)) (i := (wr .i64 (x4 + y4))) (off := 0) (fun c => ((Ty.atZ ch_0_3 Y30).segs (gt y1 (wr .i64 (x4 + y4))) c)) rfl hA2 .h T30 c3.1 c3.2 rfl (fun _ => rfl) rfl fun ch1 a S => ?_
         refine CL.br hw S .nil le rfl trivial fun hw => (s_ldRA S (ty' := (Ty.atZ ch_0_3 Y30)) (i := (wr .i64 (x4 + y2))) (off := 0) (fun c => ((Ty.atZ ch_0_3 Y30).segs (gt y1 (wr .i64 (x4 + y2))) c)) rfl hA1 .h T30 c4.1 c4.2 rfl (fun _ => rfl) rfl fun ch2 a S => ?_)
         refine CL.br hw S .nil le rfl trivial fun hw => (s_iaddrO S (ty' := (Ty.atZ ch_0_3 Y30)) rfl .h rfl underlying32 T30 c4.1 c4.2 rfl fun g3 a hA3 S => CL.br hw S .nil le rfl trivial fun hw => (s_stR S (ty' := (Ty.atZ ch_0_3 Y30)) (i := (wr .i64 (x4 + y2))) (off := 0) (u := gt y1 (wr .i64 (x4 + y4))) (fun _ => ch1) rfl rfl rfl hA3 .h T30 c4.1 c4.2 rfl (show 0 + 27 ≤ (Y30).size by decide) rfl (fun _ => rfl) fun w S => CL.br hw S .nil le rfl trivial fun hw => (s_iaddrO S (ty' := (Ty.atZ ch_0_3 Y30)) rfl .h rfl underlying32 T30 c5.1 c5.2 rfl fun g4 a hA4 S => CL.br hw S .nil le rfl trivial fun hw => (s_stR S (ty' := (Ty.atZ ch_0_3 Y30)) (i := (wr .i64 (x4 + y4))) (off := 0) (u := gt y1 (wr .i64 (x4 + y2))) (fun _ => ch2) rfl rfl rfl hA4 .h T30 c5.1 c5.2 rfl (show 0 + 27 ≤ (Y30).size by decide) rfl (fun _ => rfl) fun w S => ?_))))
         refine h_back ⟨fun h => (nomatch h), ?_⟩
         refine h_done ?_; clear CL hw le
         refine x_thenN ?_
         exact j3 _ a w (S.sb rfl (.c0 (.c0 .n))) h4
        refine h_runO S rfl trivial ?_ ?_
        ·refine s_ldRA S (ty' := (Ty.atZ ch_0_3 Y30)) (i := (wr .i64 (x4 + y2))) (off := 0) (fun c => ((Ty.atZ ch_0_3 Y30).segs (gt y1 (wr .i64 (x4 + y2))) c)) rfl hA1 .h T30 c4.1 c4.2 rfl (fun _ => rfl) rfl fun ch1 a S => ?_
         refine CL.br hw S .nil le rfl trivial fun hw => (s_ldRA S (ty' := (Ty.atZ ch_0_3 Y30)) (i := (wr .i64 (x4 + y4))) (off := 0) (fun c => ((Ty.atZ ch_0_3 Y30).segs (gt y1 (wr .i64 (x4 + y4))) c)) rfl hA2 .h T30 c3.1 c3.2 rfl (fun _ => rfl) rfl fun ch2 a S => ?_)
         refine CL.br hw S .nil le rfl trivial fun hw => (s_iaddrO S (ty' := (Ty.atZ ch_0_3 Y30)) rfl .h rfl underlying32 T30 c4.1 c4.2 rfl fun g3 a hA3 S => CL.br hw S .nil le rfl trivial fun hw => (s_stR S (ty' := (Ty.atZ ch_0_3 Y30)) (i := (wr .i64 (x4 + y2))) (off := 0) (u := gt y1 (wr .i64 (x4 + y4))) (fun _ => ch2) rfl rfl rfl hA3 .h T30 c4.1 c4.2 rfl (show 0 + 27 ≤ (Y30).size by decide) rfl (fun _ => rfl) fun w S => CL.br hw S .nil le rfl trivial fun hw => (s_iaddrO S (ty' := (Ty.atZ ch_0_3 Y30)) rfl .h rfl underlying32 T30 c5.1 c5.2 rfl fun g4 a hA4 S => CL.br hw S .nil le rfl trivial fun hw => (s_stR S (ty' := (Ty.atZ ch_0_3 Y30)) (i := (wr .i64 (x4 + y4))) (off := 0) (u := gt y1 (wr .i64 (x4 + y2))) (fun _ => ch1) rfl rfl rfl hA4 .h T30 c5.1 c5.2 rfl (show 0 + 27 ≤ (Y30).size by decide) rfl (fun _ => rfl) fun w S => ?_))))
         refine h_back ⟨fun h => (nomatch h), ?_⟩
         refine h_done ?_; clear CL hw le
         refine x_thenN ?_
         exact j3 _ a w (S.sb rfl (.c0 (.c0 .n))) h4
        exact h_nil
       refine h_runO S rfl trivial ?_ ?_
       ·refine s_ldRA S (ty' := (Ty.atZ ch_0_3 Y30)) (i := (wr .i64 (x4 + y2))) (off := 0) (fun c => ((Ty.atZ ch_0_3 Y30).segs (gt y1 (wr .i64 (x4 + y2))) c)) rfl hA1 .h T30 c4.1 c4.2 rfl (fun _ => rfl) rfl fun ch1 a S => ?_
        refine CL.br hw S .nil le rfl trivial fun hw => (s_iaddrO S (ty' := (Ty.atZ ch_0_3 Y30)) rfl .h rfl underlying32 T30 c3.1 c3.2 rfl fun g2 a hA2 S => CL.br hw S .nil le rfl trivial fun hw => (s_ldRA S (ty' := (Ty.atZ ch_0_3 Y30)) (i := (wr .i64 (x4 + y4))) (off := 0) (fun c => ((Ty.atZ ch_0_3 Y30).segs (gt y1 (wr .i64 (x4 + y4))) c)) rfl hA2 .h T30 c3.1 c3.2 rfl (fun _ => rfl) rfl fun ch2 a S => ?_))
        refine CL.br hw S .nil le rfl trivial fun hw => (s_iaddrO S (ty' := (Ty.atZ ch_0_3 Y30)) rfl .h rfl underlying32 T30 c4.1 c4.2 rfl fun g3 a hA3 S => CL.br hw S .nil le rfl trivial fun hw => (s_stR S (ty' := (Ty.atZ ch_0_3 Y30)) (i := (wr .i64 (x4 + y2))) (off := 0) (u := gt y1 (wr .i64 (x4 + y4))) (fun _ => ch2) rfl rfl rfl hA3 .h T30 c4.1 c4.2 rfl (show 0 + 27 ≤ (Y30).size by decide) rfl (fun _ => rfl) fun w S => CL.br hw S .nil le rfl trivial fun hw => (s_iaddrO S (ty' := (Ty.atZ ch_0_3 Y30)) rfl .h rfl underlying32 T30 c5.1 c5.2 rfl fun g4 a hA4 S => CL.br hw S .nil le rfl trivial fun hw => (s_stR S (ty' := (Ty.atZ ch_0_3 Y30)) (i := (wr .i64 (x4 + y4))) (off := 0) (u := gt y1 (wr .i64 (x4 + y2))) (fun _ => ch1) rfl rfl rfl hA4 .h T30 c5.1 c5.2 rfl (show 0 + 27 ≤ (Y30).size by decide) rfl (fun _ => rfl) fun w S => ?_))))
        refine h_back ⟨fun h => (nomatch h), ?_⟩
        refine h_done ?_; clear CL hw le
        refine x_thenN ?_
        exact j3 _ a w (S.sb rfl (.c0 (.c0 .n))) h4
       exact h_nil
      exact h_nil
    refine c_heldS S (.take 0 (.take 1 (.take 2 (.take 3 (.take 4 (.take 7 (.take 8 (.take 9 (.take 10 (.alts (.run 5 true (.alts (.run 6 true (.alts (.run 11 true (.alts (.run 12 true (.alts (.run 13 true (.take 14 (.take 15 .done)) .nil)) .nil)) .nil)) (.run 11 true (.alts (.run 6 true (.alts (.run 12 true (.alts (.run 13 true (.take 14 (.take 15 .done)) .nil)) .nil)) (.run 12 true (.alts (.run 6 true (.alts (.run 13 true (.take 14 (.take 15 .done)) .nil)) .nil)) .nil))) .nil))) (.run 11 true (.alts (.run 5 true (.alts (.run 6 true (.alts (.run 12 true (.alts (.run 13 true (.take 14 (.take 15 .done)) .nil)) .nil)) (.run 12 true (.alts (.run 6 true (.alts (.run 13 true (.take 14 (.take 15 .done)) .nil)) .nil)) .nil))) (.run 12 true (.alts (.run 5 true (.alts (.run 6 true (.alts (.run 13 true (.take 14 (.take 15 .done)) .nil)) .nil)) .nil)) .nil))) .nil)))))))))))) 16 [] .nil trivial [(11, (.i y4)), (10, (.i y2)), (0, (.s ch_0_0 ch_0_1 ch_0_2)), (3, (.i x4)), (4, (.v (.func (.func 35) #[] #[])))] (subR rfl) (by kernel_rfl) (by kernel_rfl) fun w S CL hw le => ?_
    refine h_move S CL hw le (subR rfl) rfl rfl rfl trivial fun a S CL => h_move S CL hw le (subR rfl) rfl rfl rfl trivial fun a S CL => h_move S CL hw le (subR rfl) rfl rfl rfl trivial fun a S CL => h_move S CL hw le (subR rfl) rfl rfl rfl trivial fun a S CL => h_bin S CL hw le (subR rfl) rfl rfl rfl rfl rfl trivial fun a S CL => h_move S CL hw le (subR rfl) rfl rfl rfl trivial fun a S CL => h_move S CL hw le (subR rfl) rfl rfl rfl trivial fun a S CL => h_move S CL hw le (subR rfl) rfl rfl rfl trivial fun a S CL => h_bin S CL hw le (subR rfl) rfl rfl rfl rfl rfl trivial fun a S CL => ?_
    obtain ⟨c6, h1⟩ := chk_of h0; clear h0
    obtain ⟨c7, h2⟩ := chk_of h1; clear h1
    refine bindX h2 fun t1 et1 h3 => h_alts ?_
    refine h_runO S rfl trivial ?_ ?_
    ·refine s_iaddrO S (ty' := (Ty.atZ ch_0_3 Y30)) rfl .h rfl underlying32 T30 c6.1 c6.2 rfl fun g5 a hA5 S => CL.bk hw S .nil le fun hw => h_alts ?_
     refine h_runO S rfl trivial ?_ ?_
     ·refine s_ldRA S (ty' := (Ty.atZ ch_0_3 Y30)) (i := (wr .i64 (x4 + y2))) (off := 0) (fun c => ((Ty.atZ ch_0_3 Y30).segs (gt y1 (wr .i64 (x4 + y2))) c)) rfl hA5 .h T30 c6.1 c6.2 rfl (fun _ => rfl) rfl fun ch3 a S => ?_
      refine CL.br hw S .nil le rfl trivial fun hw => (s_iaddrO S (ty' := (Ty.atZ ch_0_3 Y30)) rfl .h rfl underlying32 T30 c7.1 c7.2 rfl fun g6 a hA6 S => CL.br hw S .nil le rfl trivial fun hw => (s_ldRA S (ty' := (Ty.atZ ch_0_3 Y30)) (i := (wr .i64 (x4 + y4))) (off := 0) (fun c => ((Ty.atZ ch_0_3 Y30).segs (gt y1 (wr .i64 (x4 + y4))) c)) rfl hA6 .h T30 c7.1 c7.2 rfl (fun _ => rfl) rfl fun ch4 a S => ?_))
      refine CL.br hw S .nil le rfl trivial fun hw => (s_callL S (ds' := [(.agg ((Ty.atZ ch_0_3 Y30).segs (gt y1 (wr .i64 (x4 + y2))) ch3)), (.agg ((Ty.atZ ch_0_3 Y30).segs (gt y1 (wr .i64 (x4 + y4))) ch4))]) (ds := [(.agg (Y30.segs (gt y1 (wr .i64 (x4 + y2))) ch3)), (.agg (Y30.segs (gt y1 (wr .i64 (x4 + y4))) ch4))]) (fun (ch : Unit) => ((.i t1) : D)) (fun _ _ _ h => h) (by obtain ⟨mm, g1, gZ, g2⟩ := S.plend .h1; exact ⟨mm, g1, g2, fun ok => ⟨(okA_lend gZ ok.1), (okA_lend gZ ok.2.1), trivial⟩⟩) N35 rfl rfl rfl (fun _ => store_Store_All_1.ok (gt y1 (wr .i64 (x4 + y2))) (gt y1 (wr .i64 (x4 + y4))) ch3.2.2.2.1.1 ch3.2.2.2.1.2 ch3.2.2.2.2.1 ch3.2.2.2.2.2 ch4.2.2.2.1.1 ch4.2.2.2.1.2 ch4.2.2.2.2.1 ch4.2.2.2.2.2 t1 et1 _ _) fun ch5 a w S => CL.bk hw S .nil le fun hw => ?_)
      replace CL := CL.add (t := 56) (d := (.i t1)) S rfl rfl
      refine h_bin S CL hw le (subR rfl) rfl rfl rfl rfl rfl trivial fun a S CL => h_not S CL hw le (subR rfl) rfl rfl rfl trivial fun a S CL => ?_
      refine h_done ?_; clear CL hw le
      refine x_thenN ?_
      exact j2 _ (!(decide (t1 < 0))) a w (S.sb rfl (.c0 (.c0 .n))) h3
     refine h_runO S rfl trivial ?_ ?_
     ·refine s_iaddrO S (ty' := (Ty.atZ ch_0_3 Y30)) rfl .h rfl underlying32 T30 c7.1 c7.2 rfl fun g6 a hA6 S => CL.bk hw S .nil le fun hw => h_alts ?_
      refine h_runO S rfl trivial ?_ ?_
      ·refine s_ldRA S (ty' := (Ty.atZ ch_0_3 Y30)) (i := (wr .i64 (x4 + y2))) (off := 0) (fun c => ((Ty.atZ ch_0_3 Y30).segs (gt y1 (wr .i64 (x4 + y2))) c)) rfl hA5 .h T30 c6.1 c6.2 rfl (fun _ => rfl) rfl fun ch3 a S => ?_
       refine CL.br hw S .nil le rfl trivial fun hw => (s_ldRA S (ty' := (Ty.atZ ch_0_3 Y30)) (i := (wr .i64 (x4 + y4))) (off := 0) (fun c => ((Ty.atZ ch_0_3 Y30).segs (gt y1 (wr .i64 (x4 + y4))) c)) rfl hA6 .h T30 c7.1 c7.2 rfl (fun _ => rfl) rfl fun ch4 a S => ?_)
       refine CL.br hw S .nil le rfl trivial fun hw => (s_callL S (ds' := [(.agg ((Ty.atZ ch_0_3 Y30).segs (gt y1 (wr .i64 (x4 + y2))) ch3)), (.agg ((Ty.atZ ch_0_3 Y30).segs (gt y1 (wr .i64 (x4 + y4))) ch4))]) (ds := [(.agg (Y30.segs (gt y1 (wr .i64 (x4 + y2))) ch3)), (.agg (Y30.segs (gt y1 (wr .i64 (x4 + y4))) ch4))]) (fun (ch : Unit) => ((.i t1) : D)) (fun _ _ _ h => h) (by obtain ⟨mm, g1, gZ, g2⟩ := S.plend .h1; exact ⟨mm, g1, g2, fun ok => ⟨(okA_lend gZ ok.1), (okA_lend gZ ok.2.1), trivial⟩⟩) N35 rfl rfl rfl (fun _ => store_Store_All_1.ok (gt y1 (wr .i64 (x4 + y2))) (gt y1 (wr .i64 (x4 + y4))) ch3.2.2.2.1.1 ch3.2.2.2.1.2 ch3.2.2.2.2.1 ch3.2.2.2.2.2 ch4.2.2.2.1.1 ch4.2.2.2.1.2 ch4.2.2.2.2.1 ch4.2.2.2.2.2 t1 et1 _ _) fun ch5 a w S => CL.bk hw S .nil le fun hw => ?_)
       replace CL := CL.add (t := 56) (d := (.i t1)) S rfl rfl
       refine h_bin S CL hw le (subR rfl) rfl rfl rfl rfl rfl trivial fun a S CL => h_not S CL hw le (subR rfl) rfl rfl rfl trivial fun a S CL => ?_
       refine h_done ?_; clear CL hw le
       refine x_thenN ?_
       exact j2 _ (!(decide (t1 < 0))) a w (S.sb rfl (.c0 (.c0 .n))) h3
      refine h_runO S rfl trivial ?_ ?_
      ·refine s_ldRA S (ty' := (Ty.atZ ch_0_3 Y30)) (i := (wr .i64 (x4 + y4))) (off := 0) (fun c => ((Ty.atZ ch_0_3 Y30).segs (gt y1 (wr .i64 (x4 + y4))) c)) rfl hA6 .h T30 c7.1 c7.2 rfl (fun _ => rfl) rfl fun ch3 a S => ?_
       refine CL.br hw S .nil le rfl trivial fun hw => (s_ldRA S (ty' := (Ty.atZ ch_0_3 Y30)) (i := (wr .i64 (x4 + y2))) (off := 0) (fun c => ((Ty.atZ ch_0_3 Y30).segs (gt y1 (wr .i64 (x4 + y2))) c)) rfl hA5 .h T30 c6.1 c6.2 rfl (fun _ => rfl) rfl fun ch4 a S => ?_)
       refine CL.br hw S .nil le rfl trivial fun hw => (s_callL S (ds' := [(.agg ((Ty.atZ ch_0_3 Y30).segs (gt y1 (wr .i64 (x4 + y2))) ch4)), (.agg ((Ty.atZ ch_0_3 Y30).segs (gt y1 (wr .i64 (x4 + y4))) ch3))]) (ds := [(.agg (Y30.segs (gt y1 (wr .i64 (x4 + y2))) ch4)), (.agg (Y30.segs (gt y1 (wr .i64 (x4 + y4))) ch3))]) (fun (ch : Unit) => ((.i t1) : D)) (fun _ _ _ h => h) (by obtain ⟨mm, g1, gZ, g2⟩ := S.plend .h1; exact ⟨mm, g1, g2, fun ok => ⟨(okA_lend gZ ok.1), (okA_lend gZ ok.2.1), trivial⟩⟩) N35 rfl rfl rfl (fun _ => store_Store_All_1.ok (gt y1 (wr .i64 (x4 + y2))) (gt y1 (wr .i64 (x4 + y4))) ch4.2.2.2.1.1 ch4.2.2.2.1.2 ch4.2.2.2.2.1 ch4.2.2.2.2.2 ch3.2.2.2.1.1 ch3.2.2.2.1.2 ch3.2.2.2.2.1 ch3.2.2.2.2.2 t1 et1 _ _) fun ch5 a w S => CL.bk hw S .nil le fun hw => ?_)
       replace CL := CL.add (t := 56) (d := (.i t1)) S rfl rfl
       refine h_bin S CL hw le (subR rfl) rfl rfl rfl rfl rfl trivial fun a S CL => h_not S CL hw le (subR rfl) rfl rfl rfl trivial fun a S CL => ?_
       refine h_done ?_; clear CL hw le
       refine x_thenN ?_
       exact j2 _ (!(decide (t1 < 0))) a w (S.sb rfl (.c0 (.c0 .n))) h3
      exact h_nil
     exact h_nil
    refine h_runO S rfl trivial ?_ ?_
    ·refine s_iaddrO S (ty' := (Ty.atZ ch_0_3 Y30)) rfl .h rfl underlying32 T30 c7.1 c7.2 rfl fun g5 a hA5 S => CL.bk hw S .nil le fun hw => h_alts ?_
     refine h_runO S rfl trivial ?_ ?_
     ·refine s_iaddrO S (ty' := (Ty.atZ ch_0_3 Y30)) rfl .h rfl underlying32 T30 c6.1 c6.2 rfl fun g6 a hA6 S => CL.bk hw S .nil le fun hw => h_alts ?_
      refine h_runO S rfl trivial ?_ ?_
      ·refine s_ldRA S (ty' := (Ty.atZ ch_0_3 Y30)) (i := (wr .i64 (x4 + y2))) (off := 0) (fun c => ((Ty.atZ ch_0_3 Y30).segs (gt y1 (wr .i64 (x4 + y2))) c)) rfl hA6 .h T30 c6.1 c6.2 rfl (fun _ => rfl) rfl fun ch3 a S => ?_
       refine CL.br hw S .nil le rfl trivial fun hw => (s_ldRA S (ty' := (Ty.atZ ch_0_3 Y30)) (i := (wr .i64 (x4 + y4))) (off := 0) (fun c => ((Ty.atZ ch_0_3 Y30).segs (gt y1 (wr .i64 (x4 + y4))) c)) rfl hA5 .h T30 c7.1 c7.2 rfl (fun _ => rfl) rfl fun ch4 a S => ?_)
       refine CL.br hw S .nil le rfl trivial fun hw => (s_callL S (ds' := [(.agg ((Ty.atZ ch_0_3 Y30).segs (gt y1 (wr .i64 (x4 + y2))) ch3)), (.agg ((Ty.atZ ch_0_3 Y30).segs (gt y1 (wr .i64 (x4 + y4))) ch4))]) (ds := [(.agg (Y30.segs (gt y1 (wr .i64 (x4 + y2))) ch3)), (.agg (Y30.segs (gt y1 (wr .i64 (x4 + y4))) ch4))]) (fun (ch : Unit) => ((.i t1) : D)) (fun _ _ _ h => h) (by obtain ⟨mm, g1, gZ, g2⟩ := S.plend .h1; exact ⟨mm, g1, g2, fun ok => ⟨(okA_lend gZ ok.1), (okA_lend gZ ok.2.1), trivial⟩⟩) N35 rfl rfl rfl (fun _ => store_Store_All_1.ok (gt y1 (wr .i64 (x4 + y2))) (gt y1 (wr .i64 (x4 + y4))) ch3.2.2.2.1.1 ch3.2.2.2.1.2 ch3.2.2.2.2.1 ch3.2.2.2.2.2 ch4.2.2.2.1.1 ch4.2.2.2.1.2 ch4.2.2.2.2.1 ch4.2.2.2.2.2 t1 et1 _ _) fun ch5 a w S => CL.bk hw S .nil le fun hw => ?_)
       replace CL := CL.add (t := 56) (d := (.i t1)) S rfl rfl
       refine h_bin S CL hw le (subR rfl) rfl rfl rfl rfl rfl trivial fun a S CL => h_not S CL hw le (subR rfl) rfl rfl rfl trivial fun a S CL => ?_
       refine h_done ?_; clear CL hw le
       refine x_thenN ?_
       exact j2 _ (!(decide (t1 < 0))) a w (S.sb rfl (.c0 (.c0 .n))) h3
      refine h_runO S rfl trivial ?_ ?_
      ·refine s_ldRA S (ty' := (Ty.atZ ch_0_3 Y30)) (i := (wr .i64 (x4 + y4))) (off := 0) (fun c => ((Ty.atZ ch_0_3 Y30).segs (gt y1 (wr .i64 (x4 + y4))) c)) rfl hA5 .h T30 c7.1 c7.2 rfl (fun _ => rfl) rfl fun ch3 a S => ?_
       refine CL.br hw S .nil le rfl trivial fun hw => (s_ldRA S (ty' := (Ty.atZ ch_0_3 Y30)) (i := (wr .i64 (x4 + y2))) (off := 0) (fun c => ((Ty.atZ ch_0_3 Y30).segs (gt y1 (wr .i64 (x4 + y2))) c)) rfl hA6 .h T30 c6.1 c6.2 rfl (fun _ => rfl) rfl fun ch4 a S => ?_)
       refine CL.br hw S .nil le rfl trivial fun hw => (s_callL S (ds' := [(.agg ((Ty.atZ ch_0_3 Y30).segs (gt y1 (wr .i64 (x4 + y2))) ch4)), (.agg ((Ty.atZ ch_0_3 Y30).segs (gt y1 (wr .i64 (x4 + y4))) ch3))]) (ds := [(.agg (Y30.segs (gt y1 (wr .i64 (x4 + y2))) ch4)), (.agg (Y30.segs (gt y1 (wr .i64 (x4 + y4))) ch3))]) (fun (ch : Unit) => ((.i t1) : D)) (fun _ _ _ h => h) (by obtain ⟨mm, g1, gZ, g2⟩ := S.plend .h1; exact ⟨mm, g1, g2, fun ok => ⟨(okA_lend gZ ok.1), (okA_lend gZ ok.2.1), trivial⟩⟩) N35 rfl rfl rfl (fun _ => store_Store_All_1.ok (gt y1 (wr .i64 (x4 + y2))) (gt y1 (wr .i64 (x4 + y4))) ch4.2.2.2.1.1 ch4.2.2.2.1.2 ch4.2.2.2.2.1 ch4.2.2.2.2.2 ch3.2.2.2.1.1 ch3.2.2.2.1.2 ch3.2.2.2.2.1 ch3.2.2.2.2.2 t1 et1 _ _) fun ch5 a w S => CL.bk hw S .nil le fun hw => ?_)
       replace CL := CL.add (t := 56) (d := (.i t1)) S rfl rfl
       refine h_bin S CL hw le (subR rfl) rfl rfl rfl rfl rfl trivial fun a S CL => h_not S CL hw le (subR rfl) rfl rfl rfl trivial fun a S CL => ?_
       refine h_done ?_; clear CL hw le
       refine x_thenN ?_
       exact j2 _ (!(decide (t1 < 0))) a w (S.sb rfl (.c0 (.c0 .n))) h3
      exact h_nil
     refine h_runO S rfl trivial ?_ ?_
     ·refine s_ldRA S (ty' := (Ty.atZ ch_0_3 Y30)) (i := (wr .i64 (x4 + y4))) (off := 0) (fun c => ((Ty.atZ ch_0_3 Y30).segs (gt y1 (wr .i64 (x4 + y4))) c)) rfl hA5 .h T30 c7.1 c7.2 rfl (fun _ => rfl) rfl fun ch3 a S => ?_
      refine CL.br hw S .nil le rfl trivial fun hw => (s_iaddrO S (ty' := (Ty.atZ ch_0_3 Y30)) rfl .h rfl underlying32 T30 c6.1 c6.2 rfl fun g6 a hA6 S => CL.br hw S .nil le rfl trivial fun hw => (s_ldRA S (ty' := (Ty.atZ ch_0_3 Y30)) (i := (wr .i64 (x4 + y2))) (off := 0) (fun c => ((Ty.atZ ch_0_3 Y30).segs (gt y1 (wr .i64 (x4 + y2))) c)) rfl hA6 .h T30 c6.1 c6.2 rfl (fun _ => rfl) rfl fun ch4 a S => ?_))
      refine CL.br hw S .nil le rfl trivial fun hw => (s_callL S (ds' := [(.agg ((Ty.atZ ch_0_3 Y30).segs (gt y1 (wr .i64 (x4 + y2))) ch4)), (.agg ((Ty.atZ ch_0_3 Y30).segs (gt y1 (wr .i64 (x4 + y4))) ch3))]) (ds := [(.agg (Y30.segs (gt y1 (wr .i64 (x4 + y2))) ch4)), (.agg (Y30.segs (gt y1 (wr .i64 (x4 + y4))) ch3))]) (fun (ch : Unit) => ((.i t1) : D)) (fun _ _ _ h => h) (by obtain ⟨mm, g1, gZ, g2⟩ := S.plend .h1; exact ⟨mm, g1, g2, fun ok => ⟨(okA_lend gZ ok.1), (okA_lend gZ ok.2.1), trivial⟩⟩) N35 rfl rfl rfl (fun _ => store_Store_All_1.ok (gt y1 (wr .i64 (x4 + y2))) (gt y1 (wr .i64 (x4 + y4))) ch4.2.2.2.1.1 ch4.2.2.2.1.2 ch4.2.2.2.2.1 ch4.2.2.2.2.2 ch3.2.2.2.1.1 ch3.2.2.2.1.2 ch3.2.2.2.2.1 ch3.2.2.2.2.2 t1 et1 _ _) fun ch5 a w S => CL.bk hw S .nil le fun hw => ?_)
      replace CL := CL.add (t := 56) (d := (.i t1)) S rfl rfl
      refine h_bin S CL hw le (subR rfl) rfl rfl rfl rfl rfl trivial fun a S CL => h_not S CL hw le (subR rfl) rfl rfl rfl trivial fun a S CL => ?_
      refine h_done ?_; clear CL hw le
      refine x_thenN ?_
      exact j2 _ (!(decide (t1 < 0))) a w (S.sb rfl (.c0 (.c0 .n))) h3
     exact h_nil
    exact h_nil
   refine wp_seq_k fun K4 hK4 => ?_
   have j4 : ∀ m y6 a w, St 82 m b0 [(40, (.b y6)), (11, (.i (wr .i64 ((wr .i64 (2 * y2)) + 1)))), (10, (.i y2)), (0, (.s ch_0_0 ch_0_1 ch_0_2)), (2, (.i x3)), (3, (.i x4)), (4, (.v (.func (.func 35) #[] #[])))] [Res.row (Ty.atZ ch_0_3 Y30) 30 ch_0_0 ch_0_1 ch_0_2 y1, Res.priv ch_0_3] a w → api_Account_n61_0z_4f35.j4 x4 y1 y2 (api_Account_n61_0z_4f35.l1 x3 x4 q1) y6 = some r → K4 a w := by
    intro m y6 a w S h0
    delta api_Account_n61_0z_4f35.j4 at h0
    refine hK4 a w ?_
    rcases ite_of h0 with ⟨c8, h1⟩ | ⟨c8, h1⟩
    ·refine c_condT S rfl c8 (c_region' (s_move S rfl rfl fun a S => s_bin S rfl rfl rfl rfl fun a S => s_assign S rfl rfl fun a S => c_end' (x_thenN ?_)))
     exact j1 _ (wr .i64 ((wr .i64 ((wr .i64 (2 * y2)) + 1)) + 1)) a w (S.sb rfl (.c0 (.c0 .n))) h1
    ·refine c_condF S rfl c8 (wp_skip (x_thenN ?_))
     exact j1 _ (wr .i64 ((wr .i64 (2 * y2)) + 1)) a w (S.sb rfl (.c0 (.c0 .n))) h1
   refine c_heldS S (.take 0 (.take 1 (.take 2 (.take 3 (.take 4 (.take 5 (.take 6 (.take 7 (.take 8 (.take 9 (.take 12 (.take 13 (.take 14 (.take 15 (.take 16 (.alts (.run 10 true (.alts (.run 11 true (.alts (.run 17 true (.alts (.run 18 true (.alts (.run 19 true (.take 20 (.take 21 .done)) .nil)) .nil)) .nil)) (.run 17 true (.alts (.run 11 true (.alts (.run 18 true (.alts (.run 19 true (.take 20 (.take 21 .done)) .nil)) .nil)) (.run 18 true (.alts (.run 11 true (.alts (.run 19 true (.take 20 (.take 21 .done)) .nil)) .nil)) .nil))) .nil))) (.run 17 true (.alts (.run 10 true (.alts (.run 11 true (.alts (.run 18 true (.alts (.run 19 true (.take 20 (.take 21 .done)) .nil)) .nil)) (.run 18 true (.alts (.run 11 true (.alts (.run 19 true (.take 20 (.take 21 .done)) .nil)) .nil)) .nil))) (.run 18 true (.alts (.run 10 true (.alts (.run 11 true (.alts (.run 19 true (.take 20 (.take 21 .done)) .nil)) .nil)) .nil)) .nil))) .nil)))))))))))))))))) 22 [] .nil trivial [(11, (.i (wr .i64 ((wr .i64 (2 * y2)) + 1)))), (0, (.s ch_0_0 ch_0_1 ch_0_2)), (2, (.i x3)), (3, (.i x4)), (4, (.v (.func (.func 35) #[] #[])))] (subR rfl) (by kernel_rfl) (by kernel_rfl) fun w S CL hw le => ?_
   refine h_move S CL hw le (subR rfl) rfl rfl rfl trivial fun a S CL => h_bin S CL hw le (subR rfl) rfl rfl rfl rfl rfl trivial fun a S CL => h_move S CL hw le (subR rfl) rfl rfl rfl trivial fun a S CL => h_bin S CL hw le (subR rfl) rfl rfl rfl rfl rfl trivial fun a S CL => h_move S CL hw le (subR rfl) rfl rfl rfl trivial fun a S CL => ?_
   rcases ite_of h1 with ⟨c9, h2⟩ | ⟨c9, h2⟩
   ·refine h_move S CL hw le (subR rfl) rfl rfl rfl ⟨_, _, rfl, rfl, c9⟩ fun a S CL => h_move S CL hw le (subR rfl) rfl rfl rfl ⟨_, _, rfl, rfl, c9⟩ fun a S CL => h_move S CL hw le (subR rfl) rfl rfl rfl ⟨_, _, rfl, rfl, c9⟩ fun a S CL => h_move S CL hw le (subR rfl) rfl rfl rfl ⟨_, _, rfl, rfl, c9⟩ fun a S CL => h_bin S CL hw le (subR rfl) rfl rfl rfl rfl rfl ⟨_, _, rfl, rfl, c9⟩ fun a S CL => h_move S CL hw le (subR rfl) rfl rfl rfl ⟨_, _, rfl, rfl, c9⟩ fun a S CL => h_move S CL hw le (subR rfl) rfl rfl rfl ⟨_, _, rfl, rfl, c9⟩ fun a S CL => h_move S CL hw le (subR rfl) rfl rfl rfl ⟨_, _, rfl, rfl, c9⟩ fun a S CL => h_bin S CL hw le (subR rfl) rfl rfl rfl rfl rfl ⟨_, _, rfl, rfl, c9⟩ fun a S CL => h_bin S CL hw le (subR rfl) rfl rfl rfl rfl rfl ⟨_, _, rfl, rfl, c9⟩ fun a S CL => ?_
    obtain ⟨c10, h3⟩ := chk_of h2; clear h2
    obtain ⟨c11, h4⟩ := chk_of h3; clear h3
    refine bindX h4 fun t3 et3 h5 => h_alts ?_
    refine h_runO S rfl ⟨_, _, rfl, rfl, c9⟩ ?_ ?_
    ·refine s_iaddrO S (ty' := (Ty.atZ ch_0_3 Y30)) rfl .h rfl underlying32 T30 c10.1 c10.2 rfl fun g9 a hA7 S => CL.bk hw S .nil le fun hw => h_alts ?_
     refine h_runO S rfl ⟨_, _, rfl, rfl, c9⟩ ?_ ?_
     ·refine s_ldRA S (ty' := (Ty.atZ ch_0_3 Y30)) (i := (wr .i64 (x4 + (wr .i64 ((wr .i64 (2 * y2)) + 1))))) (off := 0) (fun c => ((Ty.atZ ch_0_3 Y30).segs (gt y1 (wr .i64 (x4 + (wr .i64 ((wr .i64 (2 * y2)) + 1))))) c)) rfl hA7 .h T30 c10.1 c10.2 rfl (fun _ => rfl) rfl fun ch8 a S => ?_
      refine CL.bk hw S .nil le fun hw => h_run' S rfl ⟨_, _, rfl, rfl, c9⟩ (s_iaddrO S (ty' := (Ty.atZ ch_0_3 Y30)) rfl .h rfl underlying32 T30 c11.1 c11.2 rfl fun g10 a hA8 S => CL.bk hw S .nil le fun hw => h_run' S rfl ⟨_, _, rfl, rfl, c9⟩ (s_ldRA S (ty' := (Ty.atZ ch_0_3 Y30)) (i := (wr .i64 ((wr .i64 (x4 + (wr .i64 ((wr .i64 (2 * y2)) + 1)))) + 1))) (off := 0) (fun c => ((Ty.atZ ch_0_3 Y30).segs (gt y1 (wr .i64 ((wr .i64 (x4 + (wr .i64 ((wr .i64 (2 * y2)) + 1)))) + 1))) c)) rfl hA8 .h T30 c11.1 c11.2 rfl (fun _ => rfl) rfl fun ch9 a S => ?_))
      refine CL.bk hw S .nil le fun hw => h_run' S rfl ⟨_, _, rfl, rfl, c9⟩ (s_callL S (ds' := [(.agg ((Ty.atZ ch_0_3 Y30).segs (gt y1 (wr .i64 (x4 + (wr .i64 ((wr .i64 (2 * y2)) + 1))))) ch8)), (.agg ((Ty.atZ ch_0_3 Y30).segs (gt y1 (wr .i64 ((wr .i64 (x4 + (wr .i64 ((wr .i64 (2 * y2)) + 1)))) + 1))) ch9))]) (ds := [(.agg (Y30.segs (gt y1 (wr .i64 (x4 + (wr .i64 ((wr .i64 (2 * y2)) + 1))))) ch8)), (.agg (Y30.segs (gt y1 (wr .i64 ((wr .i64 (x4 + (wr .i64 ((wr .i64 (2 * y2)) + 1)))) + 1))) ch9))]) (fun (ch : Unit) => ((.i t3) : D)) (fun _ _ _ h => h) (by obtain ⟨mm, g1, gZ, g2⟩ := S.plend .h1; exact ⟨mm, g1, g2, fun ok => ⟨(okA_lend gZ ok.1), (okA_lend gZ ok.2.1), trivial⟩⟩) N35 rfl rfl rfl (fun _ => store_Store_All_1.ok (gt y1 (wr .i64 (x4 + (wr .i64 ((wr .i64 (2 * y2)) + 1))))) (gt y1 (wr .i64 ((wr .i64 (x4 + (wr .i64 ((wr .i64 (2 * y2)) + 1)))) + 1))) ch8.2.2.2.1.1 ch8.2.2.2.1.2 ch8.2.2.2.2.1 ch8.2.2.2.2.2 ch9.2.2.2.1.1 ch9.2.2.2.1.2 ch9.2.2.2.2.1 ch9.2.2.2.2.2 t3 et3 _ _) fun ch10 a w S => CL.bk hw S .nil le fun hw => ?_)
      replace CL := CL.add (t := 38) (d := (.i t3)) S rfl rfl
      refine h_bin S CL hw le (subR rfl) rfl rfl rfl rfl rfl ⟨_, _, rfl, rfl, c9⟩ fun a S CL => h_pick S CL hw le (subR rfl) (b := true) (hc_of rfl c9) rfl rfl rfl trivial fun a S CL => ?_
      refine h_done ?_; clear CL hw le
      refine x_thenN ?_
      exact j4 _ (decide (t3 < 0)) a w (S.sb rfl (.c0 (.c0 .n))) h5
     refine h_runO S rfl ⟨_, _, rfl, rfl, c9⟩ ?_ ?_
     ·refine s_iaddrO S (ty' := (Ty.atZ ch_0_3 Y30)) rfl .h rfl underlying32 T30 c11.1 c11.2 rfl fun g10 a hA8 S => CL.bk hw S .nil le fun hw => h_alts ?_
      refine h_runO S rfl ⟨_, _, rfl, rfl, c9⟩ ?_ ?_
      ·refine s_ldRA S (ty' := (Ty.atZ ch_0_3 Y30)) (i := (wr .i64 (x4 + (wr .i64 ((wr .i64 (2 * y2)) + 1))))) (off := 0) (fun c => ((Ty.atZ ch_0_3 Y30).segs (gt y1 (wr .i64 (x4 + (wr .i64 ((wr .i64 (2 * y2)) + 1))))) c)) rfl hA7 .h T30 c10.1 c10.2 rfl (fun _ => rfl) rfl fun ch8 a S => ?_
       refine CL.bk hw S .nil le fun hw => h_run' S rfl ⟨_, _, rfl, rfl, c9⟩ (s_ldRA S (ty' := (Ty.atZ ch_0_3 Y30)) (i := (wr .i64 ((wr .i64 (x4 + (wr .i64 ((wr .i64 (2 * y2)) + 1)))) + 1))) (off := 0) (fun c => ((Ty.atZ ch_0_3 Y30).segs (gt y1 (wr .i64 ((wr .i64 (x4 + (wr .i64 ((wr .i64 (2 * y2)) + 1)))) + 1))) c)) rfl hA8 .h T30 c11.1 c11.2 rfl (fun _ => rfl) rfl fun ch9 a S => ?_)
       refine CL.bk hw S .nil le fun hw => h_run' S rfl ⟨_, _, rfl, rfl, c9⟩ (s_callL S (ds' := [(.agg ((Ty.atZ ch_0_3 Y30).segs (gt y1 (wr .i64 (x4 + (wr .i64 ((wr .i64 (2 * y2)) + 1))))) ch8)), (.agg ((Ty.atZ ch_0_3 Y30).segs (gt y1 (wr .i64 ((wr .i64 (x4 + (wr .i64 ((wr .i64 (2 * y2)) + 1)))) + 1))) ch9))]) (ds := [(.agg (Y30.segs (gt y1 (wr .i64 (x4 + (wr .i64 ((wr .i64 (2 * y2)) + 1))))) ch8)), (.agg (Y30.segs (gt y1 (wr .i64 ((wr .i64 (x4 + (wr .i64 ((wr .i64 (2 * y2)) + 1)))) + 1))) ch9))]) (fun (ch : Unit) => ((.i t3) : D)) (fun _ _ _ h => h) (by obtain ⟨mm, g1, gZ, g2⟩ := S.plend .h1; exact ⟨mm, g1, g2, fun ok => ⟨(okA_lend gZ ok.1), (okA_lend gZ ok.2.1), trivial⟩⟩) N35 rfl rfl rfl (fun _ => store_Store_All_1.ok (gt y1 (wr .i64 (x4 + (wr .i64 ((wr .i64 (2 * y2)) + 1))))) (gt y1 (wr .i64 ((wr .i64 (x4 + (wr .i64 ((wr .i64 (2 * y2)) + 1)))) + 1))) ch8.2.2.2.1.1 ch8.2.2.2.1.2 ch8.2.2.2.2.1 ch8.2.2.2.2.2 ch9.2.2.2.1.1 ch9.2.2.2.1.2 ch9.2.2.2.2.1 ch9.2.2.2.2.2 t3 et3 _ _) fun ch10 a w S => CL.bk hw S .nil le fun hw => ?_)
       replace CL := CL.add (t := 38) (d := (.i t3)) S rfl rfl
       refine h_bin S CL hw le (subR rfl) rfl rfl rfl rfl rfl ⟨_, _, rfl, rfl, c9⟩ fun a S CL => h_pick S CL hw le (subR rfl) (b := true) (hc_of rfl c9) rfl rfl rfl trivial fun a S CL => ?_
       refine h_done ?_; clear CL hw le
       refine x_thenN ?_
       exact j4 _ (decide (t3 < 0)) a w (S.sb rfl (.c0 (.c0 .n))) h5
      refine h_runO S rfl ⟨_, _, rfl, rfl, c9⟩ ?_ ?_
      ·refine s_ldRA S (ty' := (Ty.atZ ch_0_3 Y30)) (i := (wr .i64 ((wr .i64 (x4 + (wr .i64 ((wr .i64 (2 * y2)) + 1)))) + 1))) (off := 0) (fun c => ((Ty.atZ ch_0_3 Y30).segs (gt y1 (wr .i64 ((wr .i64 (x4 + (wr .i64 ((wr .i64 (2 * y2)) + 1)))) + 1))) c)) rfl hA8 .h T30 c11.1 c11.2 rfl (fun _ => rfl) rfl fun ch8 a S => ?_
       refine CL.bk hw S .nil le fun hw => h_run' S rfl ⟨_, _, rfl, rfl, c9⟩ (s_ldRA S (ty' := (Ty.atZ ch_0_3 Y30)) (i := (wr .i64 (x4 + (wr .i64 ((wr .i64 (2 * y2)) + 1))))) (off := 0) (fun c => ((Ty.atZ ch_0_3 Y30).segs (gt y1 (wr .i64 (x4 + (wr .i64 ((wr .i64 (2 * y2)) + 1))))) c)) rfl hA7 .h T30 c10.1 c10.2 rfl (fun _ => rfl) rfl fun ch9 a S => ?_)
       refine CL.bk hw S .nil le fun hw => h_run' S rfl ⟨_, _, rfl, rfl, c9⟩ (s_callL S (ds' := [(.agg ((Ty.atZ ch_0_3 Y30).segs (gt y1 (wr .i64 (x4 + (wr .i64 ((wr .i64 (2 * y2)) + 1))))) ch9)), (.agg ((Ty.atZ ch_0_3 Y30).segs (gt y1 (wr .i64 ((wr .i64 (x4 + (wr .i64 ((wr .i64 (2 * y2)) + 1)))) + 1))) ch8))]) (ds := [(.agg (Y30.segs (gt y1 (wr .i64 (x4 + (wr .i64 ((wr .i64 (2 * y2)) + 1))))) ch9)), (.agg (Y30.segs (gt y1 (wr .i64 ((wr .i64 (x4 + (wr .i64 ((wr .i64 (2 * y2)) + 1)))) + 1))) ch8))]) (fun (ch : Unit) => ((.i t3) : D)) (fun _ _ _ h => h) (by obtain ⟨mm, g1, gZ, g2⟩ := S.plend .h1; exact ⟨mm, g1, g2, fun ok => ⟨(okA_lend gZ ok.1), (okA_lend gZ ok.2.1), trivial⟩⟩) N35 rfl rfl rfl (fun _ => store_Store_All_1.ok (gt y1 (wr .i64 (x4 + (wr .i64 ((wr .i64 (2 * y2)) + 1))))) (gt y1 (wr .i64 ((wr .i64 (x4 + (wr .i64 ((wr .i64 (2 * y2)) + 1)))) + 1))) ch9.2.2.2.1.1 ch9.2.2.2.1.2 ch9.2.2.2.2.1 ch9.2.2.2.2.2 ch8.2.2.2.1.1 ch8.2.2.2.1.2 ch8.2.2.2.2.1 ch8.2.2.2.2.2 t3 et3 _ _) fun ch10 a w S => CL.bk hw S .nil le fun hw => ?_)
       replace CL := CL.add (t := 38) (d := (.i t3)) S rfl rfl
       refine h_bin S CL hw le (subR rfl) rfl rfl rfl rfl rfl ⟨_, _, rfl, rfl, c9⟩ fun a S CL => h_pick S CL hw le (subR rfl) (b := true) (hc_of rfl c9) rfl rfl rfl trivial fun a S CL => ?_
       refine h_done ?_; clear CL hw le
       refine x_thenN ?_
       exact j4 _ (decide (t3 < 0)) a w (S.sb rfl (.c0 (.c0 .n))) h5
      exact h_nil
     exact h_nil
    refine h_runO S rfl ⟨_, _, rfl, rfl, c9⟩ ?_ ?_
    ·refine s_iaddrO S (ty' := (Ty.atZ ch_0_3 Y30)) rfl .h rfl underlying32 T30 c11.1 c11.2 rfl fun g9 a hA7 S => CL.bk hw S .nil le fun hw => h_alts ?_
     refine h_runO S rfl ⟨_, _, rfl, rfl, c9⟩ ?_ ?_
     ·refine s_iaddrO S (ty' := (Ty.atZ ch_0_3 Y30)) rfl .h rfl underlying32 T30 c10.1 c10.2 rfl fun g10 a hA8 S => CL.bk hw S .nil le fun hw => h_alts ?_
      refine h_runO S rfl ⟨_, _, rfl, rfl, c9⟩ ?_ ?_
      ·refine s_ldRA S (ty' := (Ty.atZ ch_0_3 Y30)) (i := (wr .i64 (x4 + (wr .i64 ((wr .i64 (2 * y2)) + 1))))) (off := 0) (fun c => ((Ty.atZ ch_0_3 Y30).segs (gt y1 (wr .i64 (x4 + (wr .i64 ((wr .i64 (2 * y2)) + 1))))) c)) rfl hA8 .h T30 c10.1 c10.2 rfl (fun _ => rfl) rfl fun ch8 a S => ?_
       refine CL.bk hw S .nil le fun hw => h_run' S rfl ⟨_, _, rfl, rfl, c9⟩ (s_ldRA S (ty' := (Ty.atZ ch_0_3 Y30)) (i := (wr .i64 ((wr .i64 (x4 + (wr .i64 ((wr .i64 (2 * y2)) + 1)))) + 1))) (off := 0) (fun c => ((Ty.atZ ch_0_3 Y30).segs (gt y1 (wr .i64 ((wr .i64 (x4 + (wr .i64 ((wr .i64 (2 * y2)) + 1)))) + 1))) c)) rfl hA7 .h T30 c11.1 c11.2 rfl (fun _ => rfl) rfl fun ch9 a S => ?_)
       refine CL.bk hw S .nil le fun hw => h_run' S rfl ⟨_, _, rfl, rfl, c9⟩ (s_callL S (ds' := [(.agg ((Ty.atZ ch_0_3 Y30).segs (gt y1 (wr .i64 (x4 + (wr .i64 ((wr .i64 (2 * y2)) + 1))))) ch8)), (.agg ((Ty.atZ ch_0_3 Y30).segs (gt y1 (wr .i64 ((wr .i64 (x4 + (wr .i64 ((wr .i64 (2 * y2)) + 1)))) + 1))) ch9))]) (ds := [(.agg (Y30.segs (gt y1 (wr .i64 (x4 + (wr .i64 ((wr .i64 (2 * y2)) + 1))))) ch8)), (.agg (Y30.segs (gt y1 (wr .i64 ((wr .i64 (x4 + (wr .i64 ((wr .i64 (2 * y2)) + 1)))) + 1))) ch9))]) (fun (ch : Unit) => ((.i t3) : D)) (fun _ _ _ h => h) (by obtain ⟨mm, g1, gZ, g2⟩ := S.plend .h1; exact ⟨mm, g1, g2, fun ok => ⟨(okA_lend gZ ok.1), (okA_lend gZ ok.2.1), trivial⟩⟩) N35 rfl rfl rfl (fun _ => store_Store_All_1.ok (gt y1 (wr .i64 (x4 + (wr .i64 ((wr .i64 (2 * y2)) + 1))))) (gt y1 (wr .i64 ((wr .i64 (x4 + (wr .i64 ((wr .i64 (2 * y2)) + 1)))) + 1))) ch8.2.2.2.1.1 ch8.2.2.2.1.2 ch8.2.2.2.2.1 ch8.2.2.2.2.2 ch9.2.2.2.1.1 ch9.2.2.2.1.2 ch9.2.2.2.2.1 ch9.2.2.2.2.2 t3 et3 _ _) fun ch10 a w S => CL.bk hw S .nil le fun hw => ?_)
       replace CL := CL.add (t := 38) (d := (.i t3)) S rfl rfl
       refine h_bin S CL hw le (subR rfl) rfl rfl rfl rfl rfl ⟨_, _, rfl, rfl, c9⟩ fun a S CL => h_pick S CL hw le (subR rfl) (b := true) (hc_of rfl c9) rfl rfl rfl trivial fun a S CL => ?_
       refine h_done ?_; clear CL hw le
       refine x_thenN ?_
       exact j4 _ (decide (t3 < 0)) a w (S.sb rfl (.c0 (.c0 .n))) h5
      refine h_runO S rfl ⟨_, _, rfl, rfl, c9⟩ ?_ ?_
      ·refine s_ldRA S (ty' := (Ty.atZ ch_0_3 Y30)) (i := (wr .i64 ((wr .i64 (x4 + (wr .i64 ((wr .i64 (2 * y2)) + 1)))) + 1))) (off := 0) (fun c => ((Ty.atZ ch_0_3 Y30).segs (gt y1 (wr .i64 ((wr .i64 (x4 + (wr .i64 ((wr .i64 (2 * y2)) + 1)))) + 1))) c)) rfl hA7 .h T30 c11.1 c11.2 rfl (fun _ => rfl) rfl fun ch8 a S => ?_
       refine CL.bk hw S .nil le fun hw => h_run' S rfl ⟨_, _, rfl, rfl, c9⟩ (s_ldRA S (ty' := (Ty.atZ ch_0_3 Y30)) (i := (wr .i64 (x4 + (wr .i64 ((wr .i64 (2 * y2)) + 1))))) (off := 0) (fun c => ((Ty.atZ ch_0_3 Y30).segs (gt y1 (wr .i64 (x4 + (wr .i64 ((wr .i64 (2 * y2)) + 1))))) c)) rfl hA8 .h T30 c10.1 c10.2 rfl (fun _ => rfl) rfl fun ch9 a S => ?_)
       refine CL.bk hw S .nil le fun hw => h_run' S rfl ⟨_, _, rfl, rfl, c9⟩ (s_callL S (ds' := [(.agg ((Ty.atZ ch_0_3 Y30).segs (gt y1 (wr .i64 (x4 + (wr .i64 ((wr .i64 (2 * y2)) + 1))))) ch9)), (.agg ((Ty.atZ ch_0_3 Y30).segs (gt y1 (wr .i64 ((wr .i64 (x4 + (wr .i64 ((wr .i64 (2 * y2)) + 1)))) + 1))) ch8))]) (ds := [(.agg (Y30.segs (gt y1 (wr .i64 (x4 + (wr .i64 ((wr .i64 (2 * y2)) + 1))))) ch9)), (.agg (Y30.segs (gt y1 (wr .i64 ((wr .i64 (x4 + (wr .i64 ((wr .i64 (2 * y2)) + 1)))) + 1))) ch8))]) (fun (ch : Unit) => ((.i t3) : D)) (fun _ _ _ h => h) (by obtain ⟨mm, g1, gZ, g2⟩ := S.plend .h1; exact ⟨mm, g1, g2, fun ok => ⟨(okA_lend gZ ok.1), (okA_lend gZ ok.2.1), trivial⟩⟩) N35 rfl rfl rfl (fun _ => store_Store_All_1.ok (gt y1 (wr .i64 (x4 + (wr .i64 ((wr .i64 (2 * y2)) + 1))))) (gt y1 (wr .i64 ((wr .i64 (x4 + (wr .i64 ((wr .i64 (2 * y2)) + 1)))) + 1))) ch9.2.2.2.1.1 ch9.2.2.2.1.2 ch9.2.2.2.2.1 ch9.2.2.2.2.2 ch8.2.2.2.1.1 ch8.2.2.2.1.2 ch8.2.2.2.2.1 ch8.2.2.2.2.2 t3 et3 _ _) fun ch10 a w S => CL.bk hw S .nil le fun hw => ?_)
       replace CL := CL.add (t := 38) (d := (.i t3)) S rfl rfl
       refine h_bin S CL hw le (subR rfl) rfl rfl rfl rfl rfl ⟨_, _, rfl, rfl, c9⟩ fun a S CL => h_pick S CL hw le (subR rfl) (b := true) (hc_of rfl c9) rfl rfl rfl trivial fun a S CL => ?_
       refine h_done ?_; clear CL hw le
       refine x_thenN ?_
       exact j4 _ (decide (t3 < 0)) a w (S.sb rfl (.c0 (.c0 .n))) h5
      exact h_nil
     refine h_runO S rfl ⟨_, _, rfl, rfl, c9⟩ ?_ ?_
     ·refine s_ldRA S (ty' := (Ty.atZ ch_0_3 Y30)) (i := (wr .i64 ((wr .i64 (x4 + (wr .i64 ((wr .i64 (2 * y2)) + 1)))) + 1))) (off := 0) (fun c => ((Ty.atZ ch_0_3 Y30).segs (gt y1 (wr .i64 ((wr .i64 (x4 + (wr .i64 ((wr .i64 (2 * y2)) + 1)))) + 1))) c)) rfl hA7 .h T30 c11.1 c11.2 rfl (fun _ => rfl) rfl fun ch8 a S => ?_
      refine CL.bk hw S .nil le fun hw => h_run' S rfl ⟨_, _, rfl, rfl, c9⟩ (s_iaddrO S (ty' := (Ty.atZ ch_0_3 Y30)) rfl .h rfl underlying32 T30 c10.1 c10.2 rfl fun g10 a hA8 S => CL.bk hw S .nil le fun hw => h_run' S rfl ⟨_, _, rfl, rfl, c9⟩ (s_ldRA S (ty' := (Ty.atZ ch_0_3 Y30)) (i := (wr .i64 (x4 + (wr .i64 ((wr .i64 (2 * y2)) + 1))))) (off := 0) (fun c => ((Ty.atZ ch_0_3 Y30).segs (gt y1 (wr .i64 (x4 + (wr .i64 ((wr .i64 (2 * y2)) + 1))))) c)) rfl hA8 .h T30 c10.1 c10.2 rfl (fun _ => rfl) rfl fun ch9 a S => ?_))
      refine CL.bk hw S .nil le fun hw => h_run' S rfl ⟨_, _, rfl, rfl, c9⟩ (s_callL S (ds' := [(.agg ((Ty.atZ ch_0_3 Y30).segs (gt y1 (wr .i64 (x4 + (wr .i64 ((wr .i64 (2 * y2)) + 1))))) ch9)), (.agg ((Ty.atZ ch_0_3 Y30).segs (gt y1 (wr .i64 ((wr .i64 (x4 + (wr .i64 ((wr .i64 (2 * y2)) + 1)))) + 1))) ch8))]) (ds := [(.agg (Y30.segs (gt y1 (wr .i64 (x4 + (wr .i64 ((wr .i64 (2 * y2)) + 1))))) ch9)), (.agg (Y30.segs (gt y1 (wr .i64 ((wr .i64 (x4 + (wr .i64 ((wr .i64 (2 * y2)) + 1)))) + 1))) ch8))]) (fun (ch : Unit) => ((.i t3) : D)) (fun _ _ _ h => h) (by obtain ⟨mm, g1, gZ, g2⟩ := S.plend .h1; exact ⟨mm, g1, g2, fun ok => ⟨(okA_lend gZ ok.1), (okA_lend gZ ok.2.1), trivial⟩⟩) N35 rfl rfl rfl (fun _ => store_Store_All_1.ok (gt y1 (wr .i64 (x4 + (wr .i64 ((wr .i64 (2 * y2)) + 1))))) (gt y1 (wr .i64 ((wr .i64 (x4 + (wr .i64 ((wr .i64 (2 * y2)) + 1)))) + 1))) ch9.2.2.2.1.1 ch9.2.2.2.1.2 ch9.2.2.2.2.1 ch9.2.2.2.2.2 ch8.2.2.2.1.1 ch8.2.2.2.1.2 ch8.2.2.2.2.1 ch8.2.2.2.2.2 t3 et3 _ _) fun ch10 a w S => CL.bk hw S .nil le fun hw => ?_)
      replace CL := CL.add (t := 38) (d := (.i t3)) S rfl rfl
      refine h_bin S CL hw le (subR rfl) rfl rfl rfl rfl rfl ⟨_, _, rfl, rfl, c9⟩ fun a S CL => h_pick S CL hw le (subR rfl) (b := true) (hc_of rfl c9) rfl rfl rfl trivial fun a S CL => ?_
      refine h_done ?_; clear CL hw le
      refine x_thenN ?_
      exact j4 _ (decide (t3 < 0)) a w (S.sb rfl (.c0 (.c0 .n))) h5
     exact h_nil
    exact h_nil
   ·refine h_skip S CL rfl rfl rfl (ne_bool c9) rfl fun a S CL => h_skip S CL rfl rfl rfl (ne_bool c9) rfl fun a S CL => h_skip S CL rfl rfl rfl (ne_bool c9) rfl fun a S CL => h_skip S CL rfl rfl rfl (ne_bool c9) rfl fun a S CL => h_skip S CL rfl rfl rfl (ne_bool c9) rfl fun a S CL => h_skip S CL rfl rfl rfl (ne_bool c9) rfl fun a S CL => h_skip S CL rfl rfl rfl (ne_bool c9) rfl fun a S CL => h_skip S CL rfl rfl rfl (ne_bool c9) rfl fun a S CL => h_skip S CL rfl rfl rfl (ne_bool c9) rfl fun a S CL => h_skip S CL rfl rfl rfl (ne_bool c9) rfl fun a S CL => h_alts ?_
    refine h_skipOt S rfl rfl rfl (ne_bool c9) rfl ?_ ?_
    ·clear S a; intro a S
     refine CL.bk hw S .nil le fun hw => h_alts ?_
     refine h_skipOt S rfl rfl rfl (ne_bool c9) rfl ?_ ?_
     ·clear S a; intro a S
      refine CL.bk hw S .nil le fun hw => h_skipRt S rfl rfl rfl (ne_bool c9) rfl fun a S => CL.bk hw S .nil le fun hw => h_skipRt S rfl rfl rfl (ne_bool c9) rfl fun a S => CL.bk hw S .nil le fun hw => h_skipRt S rfl rfl rfl (ne_bool c9) rfl fun a S => CL.bk hw S .nil le fun hw => ?_
      replace CL := CL.add (t := 38) (d := .u) S rfl rfl
      refine h_skip S CL rfl rfl rfl (ne_bool c9) rfl fun a S CL => h_pick S CL hw le (subR rfl) (b := false) (hc_of rfl c9) rfl rfl rfl trivial fun a S CL => ?_
      refine h_done ?_; clear CL hw le
      refine x_thenN ?_
      exact j4 _ false a w (S.sb rfl (.c0 (.c0 .n))) h2
     refine h_skipOt S rfl rfl rfl (ne_bool c9) rfl ?_ ?_
     ·clear S a; intro a S
      refine CL.bk hw S .nil le fun hw => h_alts ?_
      refine h_skipOt S rfl rfl rfl (ne_bool c9) rfl ?_ ?_
      ·clear S a; intro a S
       refine CL.bk hw S .nil le fun hw => h_skipRt S rfl rfl rfl (ne_bool c9) rfl fun a S => CL.bk hw S .nil le fun hw => h_skipRt S rfl rfl rfl (ne_bool c9) rfl fun a S => CL.bk hw S .nil le fun hw => ?_
       replace CL := CL.add (t := 38) (d := .u) S rfl rfl
       refine h_skip S CL rfl rfl rfl (ne_bool c9) rfl fun a S CL => h_pick S CL hw le (subR rfl) (b := false) (hc_of rfl c9) rfl rfl rfl trivial fun a S CL => ?_
       refine h_done ?_; clear CL hw le
       refine x_thenN ?_
       exact j4 _ false a w (S.sb rfl (.c0 (.c0 .n))) h2
      refine h_skipOt S rfl rfl rfl (ne_bool c9) rfl ?_ ?_
      ·clear S a; intro a S
       refine CL.bk hw S .nil le fun hw => h_skipRt S rfl rfl rfl (ne_bool c9) rfl fun a S => CL.bk hw S .nil le fun hw => h_skipRt S rfl rfl rfl (ne_bool c9) rfl fun a S => CL.bk hw S .nil le fun hw => ?_
       replace CL := CL.add (t := 38) (d := .u) S rfl rfl
       refine h_skip S CL rfl rfl rfl (ne_bool c9) rfl fun a S CL => h_pick S CL hw le (subR rfl) (b := false) (hc_of rfl c9) rfl rfl rfl trivial fun a S CL => ?_
       refine h_done ?_; clear CL hw le
       refine x_thenN ?_
       exact j4 _ false a w (S.sb rfl (.c0 (.c0 .n))) h2
      exact h_nil
     exact h_nil
    refine h_skipOt S rfl rfl rfl (ne_bool c9) rfl ?_ ?_
    ·clear S a; intro a S
     refine CL.bk hw S .nil le fun hw => h_alts ?_
     refine h_skipOt S rfl rfl rfl (ne_bool c9) rfl ?_ ?_
     ·clear S a; intro a S
      refine CL.bk hw S .nil le fun hw => h_alts ?_
      refine h_skipOt S rfl rfl rfl (ne_bool c9) rfl ?_ ?_
      ·clear S a; intro a S
       refine CL.bk hw S .nil le fun hw => h_skipRt S rfl rfl rfl (ne_bool c9) rfl fun a S => CL.bk hw S .nil le fun hw => h_skipRt S rfl rfl rfl (ne_bool c9) rfl fun a S => CL.bk hw S .nil le fun hw => ?_
       replace CL := CL.add (t := 38) (d := .u) S rfl rfl
       refine h_skip S CL rfl rfl rfl (ne_bool c9) rfl fun a S CL => h_pick S CL hw le (subR rfl) (b := false) (hc_of rfl c9) rfl rfl rfl trivial fun a S CL => ?_
       refine h_done ?_; clear CL hw le
       refine x_thenN ?_
       exact j4 _ false a w (S.sb rfl (.c0 (.c0 .n))) h2
      refine h_skipOt S rfl rfl rfl (ne_bool c9) rfl ?_ ?_
      ·clear S a; intro a S
       refine CL.bk hw S .nil le fun hw => h_skipRt S rfl rfl rfl (ne_bool c9) rfl fun a S => CL.bk hw S .nil le fun hw => h_skipRt S rfl rfl rfl (ne_bool c9) rfl fun a S => CL.bk hw S .nil le fun hw => ?_
       replace CL := CL.add (t := 38) (d := .u) S rfl rfl
       refine h_skip S CL rfl rfl rfl (ne_bool c9) rfl fun a S CL => h_pick S CL hw le (subR rfl) (b := false) (hc_of rfl c9) rfl rfl rfl trivial fun a S CL => ?_
       refine h_done ?_; clear CL hw le
       refine x_thenN ?_
       exact j4 _ false a w (S.sb rfl (.c0 (.c0 .n))) h2
      exact h_nil
     refine h_skipOt S rfl rfl rfl (ne_bool c9) rfl ?_ ?_
     ·clear S a; intro a S
      refine CL.bk hw S .nil le fun hw => h_skipRt S rfl rfl rfl (ne_bool c9) rfl fun a S => CL.bk hw S .nil le fun hw => h_skipRt S rfl rfl rfl (ne_bool c9) rfl fun a S => CL.bk hw S .nil le fun hw => h_skipRt S rfl rfl rfl (ne_bool c9) rfl fun a S => CL.bk hw S .nil le fun hw => ?_
      replace CL := CL.add (t := 38) (d := .u) S rfl rfl
      refine h_skip S CL rfl rfl rfl (ne_bool c9) rfl fun a S CL => h_pick S CL hw le (subR rfl) (b := false) (hc_of rfl c9) rfl rfl rfl trivial fun a S CL => ?_
      refine h_done ?_; clear CL hw le
      refine x_thenN ?_
      exact j4 _ false a w (S.sb rfl (.c0 (.c0 .n))) h2
     exact h_nil
    exact h_nil
abbrev api_Account_n51_0z_3f35.Ty : Type := (List L30) → Int → Int → Option ((List L30))
def api_Account_n51_0z_3f35.Ctr (s : api_Account_n51_0z_3f35.Ty) : Prop := ∀ (x1 : List L30) (x2 : Int) (x3 : Int) (ch_0_0 : Option Addr) (ch_0_1 : Nat) (ch_0_2 : Nat) (ch_0_3 : Mem) (r : (List L30)), Ct (C := Unit) Try.prog 51 (s x1 x2 x3 = some r) [Res.row (Ty.atZ ch_0_3 Y30) 30 ch_0_0 ch_0_1 ch_0_2 x1, Res.priv ch_0_3] [(.s ch_0_0 ch_0_1 ch_0_2), (.i x2), (.i x3), (.v (.func (.func 35) #[] #[]))] (fun _ => (.tup [])) fun _ => [Res.row (Ty.atZ ch_0_3 Y30) 30 ch_0_0 ch_0_1 ch_0_2 r, Res.priv ch_0_3]
def api_Account_n51_0z_3f35.j2 (k : Nat) (x2 : Int) (y4 : List L30) (y5 : Int) (rec1 : (List L30) → Int → Option ((List L30))) : Option ((List L30)) := (api_Account_n61_0z_4f35.f k ((y4.set (Int.toNat x2) (gt y4 (wr .i64 (x2 + y5)))).set (Int.toNat (wr .i64 (x2 + y5))) (gt y4 x2)) 0 y5 x2).bind fun t1 => (rec1 t1 (wr .i64 (y5 - 1)))
def api_Account_n51_0z_3f35.b1 (k : Nat) (x2 : Int) (rec1 : (List L30) → Int → Option ((List L30))) (y4 : List L30) (y5 : Int) : Option ((List L30)) := if (decide (0 ≤ y5)) = true then (if (0 : Int) ≤ (wr .i64 (x2 + y5)) ∧ (wr .i64 (x2 + y5)) < ((y4).length : Int) then (if (0 : Int) ≤ x2 ∧ x2 < ((y4).length : Int) then (if (0 : Int) ≤ (wr .i64 (x2 + y5)) ∧ (wr .i64 (x2 + y5)) < ((y4.set (Int.toNat x2) (gt y4 (wr .i64 (x2 + y5)))).length : Int) then (api_Account_n51_0z_3f35.j2 k x2 y4 y5 rec1) else none) else none) else none) else (some y4)
def api_Account_n51_0z_3f35.l1 (k : Nat) (x2 : Int) : Nat → (List L30) → Int → Option ((List L30))
  | 0, _, _ => none
  | q + 1, y4, y5 => api_Account_n51_0z_3f35.b1 k x2 (api_Account_n51_0z_3f35.l1 k x2 q) y4 y5
def api_Account_n51_0z_3f35.j1 (k : Nat) (x2 : Int) (x3 : Int) (y1 : List L30) : Option ((List L30)) := api_Account_n51_0z_3f35.l1 k x2 k y1 (wr .i64 ((wr .i64 (x3 - x2)) - 1))
def api_Account_n51_0z_3f35.b2 (k : Nat) (x2 : Int) (x3 : Int) (rec2 : (List L30) → Int → Option ((List L30))) (y8 : List L30) (y9 : Int) : Option ((List L30)) := if (decide (0 ≤ y9)) = true then ((api_Account_n61_0z_4f35.f k y8 y9 (wr .i64 (x3 - x2)) x2).bind fun t4 => (rec2 t4 (wr .i64 (y9 - 1)))) else (api_Account_n51_0z_3f35.j1 k x2 x3 y8)
def api_Account_n51_0z_3f35.l2 (k : Nat) (x2 : Int) (x3 : Int) : Nat → (List L30) → Int → Option ((List L30))
  | 0, _, _ => none
  | q + 1, y8, y9 => api_Account_n51_0z_3f35.b2 k x2 x3 (api_Account_n51_0z_3f35.l2 k x2 x3 q) y8 y9
def api_Account_n51_0z_3f35.f (k : Nat) (x1 : List L30) (x2 : Int) (x3 : Int) : Option ((List L30)) := api_Account_n51_0z_3f35.l2 k x2 x3 k x1 (wr .i64 (Int.tdiv (wr .i64 ((wr .i64 (x3 - x2)) - 1)) 2))
theorem api_Account_n51_0z_3f35.ok (k : Nat) : api_Account_n51_0z_3f35.Ctr (api_Account_n51_0z_3f35.f k) := by
 intro x1 x2 x3 ch_0_0 ch_0_1 ch_0_2 ch_0_3 r h0 mi w0 ok hm
 delta api_Account_n51_0z_3f35.f at h0
 refine c_enterZ (n := 60) ok hm func51 rfl rfl rfl fun b0 hb a S => c_region (s_move S rfl rfl fun a S => s_assign S rfl rfl fun a S => c_end (c_region (s_assign S rfl rfl fun a S => c_end (c_region (s_move S rfl rfl fun a S => s_move S rfl rfl fun a S => s_bin S rfl rfl rfl rfl fun a S => s_assign S rfl rfl fun a S => c_end (wp_seq_k fun K1 hK1 => ?_))))))
 have j1 : ∀ m y1 a w, St 60 m b0 [(10, (.i (wr .i64 (x3 - x2)))), (9, (.i 0)), (8, (.i x2)), (0, (.s ch_0_0 ch_0_1 ch_0_2)), (3, (.v (.func (.func 35) #[] #[])))] [Res.row (Ty.atZ ch_0_3 Y30) 30 ch_0_0 ch_0_1 ch_0_2 y1, Res.priv ch_0_3] a w → api_Account_n51_0z_3f35.j1 k x2 x3 y1 = some r → K1 a w := by
  intro m y1 a w S h0
  delta api_Account_n51_0z_3f35.j1 at h0
  refine hK1 a w (c_region (s_move S rfl rfl fun a S => s_bin S rfl rfl rfl rfl fun a S => s_assign S rfl rfl fun a S => c_end (wp_block ?_)))
  refine c_loop (fun q1 a w => ∃ m y4 y5, St 60 m b0 [(12, (.i y5)), (9, (.i 0)), (8, (.i x2)), (0, (.s ch_0_0 ch_0_1 ch_0_2)), (3, (.v (.func (.func 35) #[] #[])))] [Res.row (Ty.atZ ch_0_3 Y30) 30 ch_0_0 ch_0_1 ch_0_2 y4, Res.priv ch_0_3] a w ∧ api_Account_n51_0z_3f35.l1 k x2 q1 y4 y5 = some r) ?_ ?_ (k := k) ⟨_, y1, (wr .i64 ((wr .i64 (x3 - x2)) - 1)), (S.sb rfl (.c0 (.c0 .n))), h0⟩
  ·rintro a w ⟨m, y4, y5, S, h0⟩
   exact (nomatch (show (none : Option ((List L30))) = some r from h0))
  ·clear S h0
   rintro q1 a w ⟨m, y4, y5, S, h0⟩
   replace h0 : api_Account_n51_0z_3f35.b1 k x2 (api_Account_n51_0z_3f35.l1 k x2 q1) y4 y5 = some r := h0
   delta api_Account_n51_0z_3f35.b1 at h0
   refine wp_seq (c_region (s_move S rfl rfl fun a S => s_bin S rfl rfl rfl rfl fun a S => c_end ?_))
   rcases ite_of h0 with ⟨c1, h1⟩ | ⟨c1, h1⟩
   ·refine c_condT S rfl c1 (wp_skip (x_thenN (wp_seq (wp_block (wp_seq_k fun K2 hK2 => ?_)))))
    have j2 : ∀ m a w, St 60 m b0 [(12, (.i y5)), (9, (.i 0)), (8, (.i x2)), (0, (.s ch_0_0 ch_0_1 ch_0_2)), (3, (.v (.func (.func 35) #[] #[])))] [Res.row (Ty.atZ ch_0_3 Y30) 30 ch_0_0 ch_0_1 ch_0_2 ((y4.set (Int.toNat x2) (gt y4 (wr .i64 (x2 + y5)))).set (Int.toNat (wr .i64 (x2 + y5))) (gt y4 x2)), Res.priv ch_0_3] a w → api_Account_n51_0z_3f35.j2 k x2 y4 y5 (api_Account_n51_0z_3f35.l1 k x2 q1) = some r → K2 a w := by
     intro m a w S h0
     delta api_Account_n51_0z_3f35.j2 at h0
     refine hK2 a w (c_region' (s_move S rfl rfl fun a S => s_move S rfl rfl fun a S => s_move S rfl rfl fun a S => s_move S rfl rfl fun a S => s_move S rfl rfl fun a S => bindX h0 fun t1 et1 h1 => s_callX S (ds' := [(.s ch_0_0 ch_0_1 ch_0_2), (.i 0), (.i y5), (.i x2), (.v (.func (.func 35) #[] #[]))]) (ds := [(.s ch_0_0 ch_0_1 ch_0_2), (.i 0), (.i y5), (.i x2), (.v (.func (.func 35) #[] #[]))]) [Res.row (Ty.atZ ch_0_3 Y30) 30 ch_0_0 ch_0_1 ch_0_2 ((y4.set (Int.toNat x2) (gt y4 (wr .i64 (x2 + y5)))).set (Int.toNat (wr .i64 (x2 + y5))) (gt y4 x2)), Res.priv ch_0_3] [] (fun (ch : Unit) => ((.tup []) : D)) (fun (ch : Unit) => [Res.row (Ty.atZ ch_0_3 Y30) 30 ch_0_0 ch_0_1 ch_0_2 t1, Res.priv ch_0_3]) (fun (ch : Unit) => [Res.row (Ty.atZ ch_0_3 Y30) 30 ch_0_0 ch_0_1 ch_0_2 t1, Res.priv ch_0_3]) (fun _ => rfl) N61 rfl rfl (fun ok => ok) (.c0 (.c0 .n)) rfl (api_Account_n61_0z_4f35.ok k ((y4.set (Int.toNat x2) (gt y4 (wr .i64 (x2 + y5)))).set (Int.toNat (wr .i64 (x2 + y5))) (gt y4 x2)) 0 y5 x2 ch_0_0 ch_0_1 ch_0_2 ch_0_3 t1 et1 _ _) fun ch1 m le1 a w S => c_end' (x_blockN (x_thenN (c_region' (s_move S rfl rfl fun a S => s_bin S rfl rfl rfl rfl fun a S => s_assign S rfl rfl fun a S => c_end' (x_thenN ?_)))))))
     exact ⟨_, t1, (wr .i64 (y5 - 1)), (S.sb rfl (.c0 (.c0 .n))), h1⟩
    refine c_heldS S (.take 0 (.take 1 (.take 2 (.take 3 (.take 4 (.take 5 (.take 6 (.take 7 (.take 8 (.take 9 (.take 12 (.take 13 (.alts (.run 10 true (.alts (.run 11 true (.alts (.run 14 true (.alts (.run 15 true (.alts (.run 16 true (.alts (.run 17 true (.alts (.run 18 true (.alts (.run 19 false .done .nil)) .nil)) .nil)) .nil)) .nil)) .nil)) (.run 14 true (.alts (.run 11 true (.alts (.run 15 true (.alts (.run 16 true (.alts (.run 17 true (.alts (.run 18 true (.alts (.run 19 false .done .nil)) .nil)) .nil)) .nil)) .nil)) (.run 15 true (.alts (.run 11 true (.alts (.run 16 true (.alts (.run 17 true (.alts (.run 18 true (.alts (.run 19 false .done .nil)) .nil)) .nil)) .nil)) .nil)) .nil))) .nil))) (.run 14 true (.alts (.run 10 true (.alts (.run 11 true (.alts (.run 15 true (.alts (.run 16 true (.alts (.run 17 true (.alts (.run 18 true (.alts (.run 19 false .done .nil)) .nil)) .nil)) .nil)) .nil)) (.run 15 true (.alts (.run 11 true (.alts (.run 16 true (.alts (.run 17 true (.alts (.run 18 true (.alts (.run 19 false .done .nil)) .nil)) .nil)) .nil)) .nil)) .nil))) (.run 15 true (.alts (.run 10 true (.alts (.run 11 true (.alts (.run 16 true (.alts (.run 17 true (.alts (.run 18 true (.alts (.run 19 false .done .nil)) .nil)) .nil)) .nil)) .nil)) .nil)) .nil))) .nil))))))))))))))) 19 [] .nil trivial [(12, (.i y5)), (8, (.i x2)), (0, (.s ch_0_0 ch_0_1 ch_0_2))] (subR rfl) (by kernel_rfl) (by kernel_rfl) fun w S CL hw le => ?_
    refine h_move S CL hw le (subR rfl) rfl rfl rfl trivial fun a S CL => h_move S CL hw le (subR rfl) rfl rfl rfl trivial fun a S CL => h_move S CL hw le (subR rfl) rfl rfl rfl trivial fun a S CL => h_move S CL hw le (subR rfl) rfl rfl rfl trivial fun a S CL => h_move S CL hw le (subR rfl) rfl rfl rfl trivial fun a S CL => h_bin S CL hw le (subR rfl) rfl rfl rfl rfl rfl trivial fun a S CL => h_move S CL hw le (subR rfl) rfl rfl rfl trivial fun a S CL => h_move S CL hw le (subR rfl) rfl rfl rfl trivial fun a S CL => h_move S CL hw le (subR rfl) rfl rfl rfl trivial fun a S CL => h_bin S CL hw le (subR rfl) rfl rfl rfl rfl rfl trivial fun a S CL => h_move S CL hw le (subR rfl) rfl rfl rfl trivial fun a S CL => h_move S CL hw le (subR rfl) rfl rfl rfl trivial fun a S CL => ?_
    obtain ⟨c2, h2⟩ := chk_of h1; clear h1
    obtain ⟨c3, h3⟩ := chk_of h2; clear h2
    obtain ⟨c4, h4⟩ := chk_of h3; clear h3
    refine h_alts ?_
    refine h_runO S rfl trivial ?_ ?_
    ·refine s_iaddrO S (ty' := (Ty.atZ ch_0_3 Y30)) rfl .h rfl underlying32 T30 c2.1 c2.2 rfl fun g1 a hA1 S => CL.bk hw S .nil le fun hw => h_alts ?_
     refine h_runO S rfl trivial ?_ ?_
     ·refine s_ldRA S (ty' := (Ty.atZ ch_0_3 Y30)) (i := (wr .i64 (x2 + y5))) (off := 0) (fun c => ((Ty.atZ ch_0_3 Y30).segs (gt y4 (wr .i64 (x2 + y5))) c)) rfl hA1 .h T30 c2.1 c2.2 rfl (fun _ => rfl) rfl fun ch2 a S => ?_
      refine CL.br hw S .nil le rfl trivial fun hw => (s_iaddrO S (ty' := (Ty.atZ ch_0_3 Y30)) rfl .h rfl underlying32 T30 c3.1 c3.2 rfl fun g2 a hA2 S => CL.br hw S .nil le rfl trivial fun hw => (s_ldRA S (ty' := (Ty.atZ ch_0_3 Y30)) (i := x2) (off := 0) (fun c => ((Ty.atZ ch_0_3 Y30).segs (gt y4 x2) c)) rfl hA2 .h T30 c3.1 c3.2 rfl (fun _ => rfl) rfl fun ch3 a S => ?_))
      refine CL.br hw S .nil le rfl trivial fun hw => (s_iaddrO S (ty' := (Ty.atZ ch_0_3 Y30)) rfl .h rfl underlying32 T30 c3.1 c3.2 rfl fun g3 a hA3 S => CL.br hw S .nil le rfl trivial fun hw => (s_stR S (ty' := (Ty.atZ ch_0_3 Y30)) (i := x2) (off := 0) (u := gt y4 (wr .i64 (x2 + y5))) (fun _ => ch2) rfl rfl rfl hA3 .h T30 c3.1 c3.2 rfl (show 0 + 27 ≤ (Y30).size by decide) rfl (fun _ => rfl) fun w S => CL.br hw S .nil le rfl trivial fun hw => (s_iaddrO S (ty' := (Ty.atZ ch_0_3 Y30)) rfl .h rfl underlying32 T30 c4.1 c4.2 rfl fun g4 a hA4 S => CL.br hw S .nil le rfl trivial fun hw => (s_stR S (ty' := (Ty.atZ ch_0_3 Y30)) (i := (wr .i64 (x2 + y5))) (off := 0) (u := gt y4 x2) (fun _ => ch3) rfl rfl rfl hA4 .h T30 c4.1 c4.2 rfl (show 0 + 27 ≤ (Y30).size by decide) rfl (fun _ => rfl) fun w S => ?_))))
      refine h_back ⟨fun h => (nomatch h), ?_⟩
      refine h_done ?_; clear CL hw le
      refine x_thenN ?_
      exact j2 _ a w (S.sb rfl (.c0 (.c0 .n))) h4
     refine h_runO S rfl trivial ?_ ?_
     ·refine s_iaddrO S (ty' := (Ty.atZ ch_0_3 Y30)) rfl .h rfl underlying32 T30 c3.1 c3.2 rfl fun g2 a hA2 S => CL.bk hw S .nil le fun hw => h_alts ?_
      refine h_runO S rfl trivial ?_ ?_
      ·refine s_ldRA S (ty' := (Ty.atZ ch_0_3 Y30)) (i := (wr .i64 (x2 + y5))) (off := 0) (fun c => ((Ty.atZ ch_0_3 Y30).segs (gt y4 (wr .i64 (x2 + y5))) c)) rfl hA1 .h T30 c2.1 c2.2 rfl (fun _ => rfl) rfl fun ch2 a S => ?_
       refine CL.br hw S .nil le rfl trivial fun hw => (s_ldRA S (ty' := (Ty.atZ ch_0_3 Y30)) (i := x2) (off := 0) (fun c => ((Ty.atZ ch_0_3 Y30).segs (gt y4 x2) c)) rfl hA2 .h T30 c3.1 c3.2 rfl (fun _ => rfl) rfl fun ch3 a S => ?_)
       refine CL.br hw S .nil le rfl trivial fun hw => (s_iaddrO S (ty' := (Ty.atZ ch_0_3 Y30)) rfl .h rfl underlying32 T30 c3.1 c3.2 rfl fun g3 a hA3 S => CL.br hw S .nil le rfl trivial fun hw => (s_stR S (ty' := (Ty.atZ ch_0_3 Y30)) (i := x2) (off := 0) (u := gt y4 (wr .i64 (x2 + y5))) (fun _ => ch2) rfl rfl rfl hA3 .h T30 c3.1 c3.2 rfl (show 0 + 27 ≤ (Y30).size by decide) rfl (fun _ => rfl) fun w S => CL.br hw S .nil le rfl trivial fun hw => (s_iaddrO S (ty' := (Ty.atZ ch_0_3 Y30)) rfl .h rfl underlying32 T30 c4.1 c4.2 rfl fun g4 a hA4 S => CL.br hw S .nil le rfl trivial fun hw => (s_stR S (ty' := (Ty.atZ ch_0_3 Y30)) (i := (wr .i64 (x2 + y5))) (off := 0) (u := gt y4 x2) (fun _ => ch3) rfl rfl rfl hA4 .h T30 c4.1 c4.2 rfl (show 0 + 27 ≤ (Y30).size by decide) rfl (fun _ => rfl) fun w S => ?_))))
       refine h_back ⟨fun h => (nomatch h), ?_⟩
       refine h_done ?_; clear CL hw le
       refine x_thenN ?_
       exact j2 _ a w (S.sb rfl (.c0 (.c0 .n))) h4
      refine h_runO S rfl trivial ?_ ?_
      ·refine s_ldRA S (ty' := (Ty.atZ ch_0_3 Y30)) (i := x2) (off := 0) (fun c => ((Ty.atZ ch_0_3 Y30).segs (gt y4 x2) c)) rfl hA2 .h T30 c3.1 c3.2 rfl (fun _ => rfl) rfl fun ch2 a S => ?_
       refine CL.br hw S .nil le rfl trivial fun hw => (s_ldRA S (ty' := (Ty.atZ ch_0_3 Y30)) (i := (wr .i64 (x2 + y5))) (off := 0) (fun c => ((Ty.atZ ch_0_3 Y30).segs (gt y4 (wr .i64 (x2 + y5))) c)) rfl hA1 .h T30 c2.1 c2.2 rfl (fun _ => rfl) rfl fun ch3 a S => ?_)
       refine CL.br hw S .nil le rfl trivial fun hw => (s_iaddrO S (ty' := (Ty.atZ ch_0_3 Y30)) rfl .h rfl underlying32 T30 c3.1 c3.2 rfl fun g3 a hA3 S => CL.br hw S .nil le rfl trivial fun hw => (s_stR S (ty' := (Ty.atZ ch_0_3 Y30)) (i := x2) (off := 0) (u := gt y4 (wr .i64 (x2 + y5))) (fun _ => ch3) rfl rfl rfl hA3 .h T30 c3.1 c3.2 rfl (show 0 + 27 ≤ (Y30).size by decide) rfl (fun _ => rfl) fun w S => CL.br hw S .nil le rfl trivial fun hw => (s_iaddrO S (ty' := (Ty.atZ ch_0_3 Y30)) rfl .h rfl underlying32 T30 c4.1 c4.2 rfl fun g4 a hA4 S => CL.br hw S .nil le rfl trivial fun hw => (s_stR S (ty' := (Ty.atZ ch_0_3 Y30)) (i := (wr .i64 (x2 + y5))) (off := 0) (u := gt y4 x2) (fun _ => ch2) rfl rfl rfl hA4 .h T30 c4.1 c4.2 rfl (show 0 + 27 ≤ (Y30).size by decide) rfl (fun _ => rfl) fun w S => ?_))))
       refine h_back ⟨fun h => (nomatch h), ?_⟩
       refine h_done ?_; clear CL hw le
       refine x_thenN ?_
       exact j2 _ a w (S.sb rfl (.c0 (.c0 .n))) h4
      exact h_nil
     exact h_nil
    refine h_runO S rfl trivial ?_ ?_
    ·refine s_iaddrO S (ty' := (Ty.atZ ch_0_3 Y30)) rfl .h rfl underlying32 T30 c3.1 c3.2 rfl fun g1 a hA1 S => CL.bk hw S .nil le fun hw => h_alts ?_
     refine h_runO S rfl trivial ?_ ?_
     ·refine s_iaddrO S (ty' := (Ty.atZ ch_0_3 Y30)) rfl .h rfl underlying32 T30 c2.1 c2.2 rfl fun g2 a hA2 S => CL.bk hw S .nil le fun hw => h_alts ?_
      refine h_runO S rfl trivial ?_ ?_
      ·refine s_ldRA S (ty' := (Ty.atZ ch_0_3 Y30)) (i := (wr .i64 (x2 + y5))) (off := 0) (fun c => ((Ty.atZ ch_0_3 Y30).segs (gt y4 (wr .i64 (x2 + y5))) c)) rfl hA2 .h T30 c2.1 c2.2 rfl (fun _ => rfl) rfl fun ch2 a S => ?_
       refine CL.br hw S .nil le rfl trivial fun hw => (s_ldRA S (ty' := (Ty.atZ ch_0_3 Y30)) (i := x2) (off := 0) (fun c => ((Ty.atZ ch_0_3 Y30).segs (gt y4 x2) c)) rfl hA1 .h T30 c3.1 c3.2 rfl (fun _ => rfl) rfl fun ch3 a S => ?_)
       refine CL.br hw S .nil le rfl trivial fun hw => (s_iaddrO S (ty' := (Ty.atZ ch_0_3 Y30)) rfl .h rfl underlying32 T30 c3.1 c3.2 rfl fun g3 a hA3 S => CL.br hw S .nil le rfl trivial fun hw => (s_stR S (ty' := (Ty.atZ ch_0_3 Y30)) (i := x2) (off := 0) (u := gt y4 (wr .i64 (x2 + y5))) (fun _ => ch2) rfl rfl rfl hA3 .h T30 c3.1 c3.2 rfl (show 0 + 27 ≤ (Y30).size by decide) rfl (fun _ => rfl) fun w S => CL.br hw S .nil le rfl trivial fun hw => (s_iaddrO S (ty' := (Ty.atZ ch_0_3 Y30)) rfl .h rfl underlying32 T30 c4.1 c4.2 rfl fun g4 a hA4 S => CL.br hw S .nil le rfl trivial fun hw => (s_stR S (ty' := (Ty.atZ ch_0_3 Y30)) (i := (wr .i64 (x2 + y5))) (off := 0) (u := gt y4 x2) (fun _ => ch3) rfl rfl rfl hA4 .h T30 c4.1 c4.2 rfl (show 0 + 27 ≤ (Y30).size by decide) rfl (fun _ => rfl) fun w S => ?_))))
       refine h_back ⟨fun h => (nomatch h), ?_⟩
       refine h_done ?_; clear CL hw le
       refine x_thenN ?_
       exact j2 _ a w (S.sb rfl (.c0 (.c0 .n))) h4
      refine h_runO S rfl trivial ?_ ?_
      ·refine s_ldRA S (ty' := (Ty.atZ ch_0_3 Y30)) (i := x2) (off := 0) (fun c => ((Ty.atZ ch_0_3 Y30).segs (gt y4 x2) c)) rfl hA1 .h T30 c3.1 c3.2 rfl (fun _ => rfl) rfl fun ch2 a S => ?_
       refine CL.br hw S .nil le rfl trivial fun hw => (s_ldRA S (ty' := (Ty.atZ ch_0_3 Y30)) (i := (wr .i64 (x2 + y5))) (off := 0) (fun c => ((Ty.atZ ch_0_3 Y30).segs (gt y4 (wr .i64 (x2 + y5))) c)) rfl hA2 .h T30 c2.1 c2.2 rfl (fun _ => rfl) rfl fun ch3 a S => ?_)
       refine CL.br hw S .nil le rfl trivial fun hw => (s_iaddrO S (ty' := (Ty.atZ ch_0_3 Y30)) rfl .h rfl underlying32 T30 c3.1 c3.2 rfl fun g3 a hA3 S => CL.br hw S .nil le rfl trivial fun hw => (s_stR S (ty' := (Ty.atZ ch_0_3 Y30)) (i := x2) (off := 0) (u := gt y4 (wr .i64 (x2 + y5))) (fun _ => ch3) rfl rfl rfl hA3 .h T30 c3.1 c3.2 rfl (show 0 + 27 ≤ (Y30).size by decide) rfl (fun _ => rfl) fun w S => CL.br hw S .nil le rfl trivial fun hw => (s_iaddrO S (ty' := (Ty.atZ ch_0_3 Y30)) rfl .h rfl underlying32 T30 c4.1 c4.2 rfl fun g4 a hA4 S => CL.br hw S .nil le rfl trivial fun hw => (s_stR S (ty' := (Ty.atZ ch_0_3 Y30)) (i := (wr .i64 (x2 + y5))) (off := 0) (u := gt y4 x2) (fun _ => ch2) rfl rfl rfl hA4 .h T30 c4.1 c4.2 rfl (show 0 + 27 ≤ (Y30).size by decide) rfl (fun _ => rfl) fun w S => ?_))))
       refine h_back ⟨fun h => (nomatch h), ?_⟩
       refine h_done ?_; clear CL hw le
       refine x_thenN ?_
       exact j2 _ a w (S.sb rfl (.c0 (.c0 .n))) h4
      exact h_nil
     refine h_runO S rfl trivial ?_ ?_
     ·refine s_ldRA S (ty' := (Ty.atZ ch_0_3 Y30)) (i := x2) (off := 0) (fun c => ((Ty.atZ ch_0_3 Y30).segs (gt y4 x2) c)) rfl hA1 .h T30 c3.1 c3.2 rfl (fun _ => rfl) rfl fun ch2 a S => ?_
      refine CL.br hw S .nil le rfl trivial fun hw => (s_iaddrO S (ty' := (Ty.atZ ch_0_3 Y30)) rfl .h rfl underlying32 T30 c2.1 c2.2 rfl fun g2 a hA2 S => CL.br hw S .nil le rfl trivial fun hw => (s_ldRA S (ty' := (Ty.atZ ch_0_3 Y30)) (i := (wr .i64 (x2 + y5))) (off := 0) (fun c => ((Ty.atZ ch_0_3 Y30).segs (gt y4 (wr .i64 (x2 + y5))) c)) rfl hA2 .h T30 c2.1 c2.2 rfl (fun _ => rfl) rfl fun ch3 a S => ?_))
      refine CL.br hw S .nil le rfl trivial fun hw => (s_iaddrO S (ty' := (Ty.atZ ch_0_3 Y30)) rfl .h rfl underlying32 T30 c3.1 c3.2 rfl fun g3 a hA3 S => CL.br hw S .nil le rfl trivial fun hw => (s_stR S (ty' := (Ty.atZ ch_0_3 Y30)) (i := x2) (off := 0) (u := gt y4 (wr .i64 (x2 + y5))) (fun _ => ch3) rfl rfl rfl hA3 .h T30 c3.1 c3.2 rfl (show 0 + 27 ≤ (Y30).size by decide) rfl (fun _ => rfl) fun w S => CL.br hw S .nil le rfl trivial fun hw => (s_iaddrO S (ty' := (Ty.atZ ch_0_3 Y30)) rfl .h rfl underlying32 T30 c4.1 c4.2 rfl fun g4 a hA4 S => CL.br hw S .nil le rfl trivial fun hw => (s_stR S (ty' := (Ty.atZ ch_0_3 Y30)) (i := (wr .i64 (x2 + y5))) (off := 0) (u := gt y4 x2) (fun _ => ch2) rfl rfl rfl hA4 .h T30 c4.1 c4.2 rfl (show 0 + 27 ≤ (Y30).size by decide) rfl (fun _ => rfl) fun w S => ?_))))
      refine h_back ⟨fun h => (nomatch h), ?_⟩
      refine h_done ?_; clear CL hw le
      refine x_thenN ?_
      exact j2 _ a w (S.sb rfl (.c0 (.c0 .n))) h4
     exact h_nil
    exact h_nil
   ·refine c_condF S rfl c1 (wp_exit (x_thenX (x_thenX (x_blockX (b_end ?_)))))
    obtain rfl := Option.some.inj h1
    exact b_ret0 S rfl (S.retX (Hx := []) hb _ _ (() : Unit) (.c0 (.c0 .n)) trivial)
 refine c_region (s_move S rfl rfl fun a S => s_bin S rfl rfl rfl rfl fun a S => s_quo S rfl rfl (by decide) rfl fun a S => s_assign S rfl rfl fun a S => c_end (wp_block ?_))
 refine c_loop (fun q2 a w => ∃ m y8 y9, St 60 m b0 [(11, (.i y9)), (10, (.i (wr .i64 (x3 - x2)))), (9, (.i 0)), (8, (.i x2)), (0, (.s ch_0_0 ch_0_1 ch_0_2)), (3, (.v (.func (.func 35) #[] #[])))] [Res.row (Ty.atZ ch_0_3 Y30) 30 ch_0_0 ch_0_1 ch_0_2 y8, Res.priv ch_0_3] a w ∧ api_Account_n51_0z_3f35.l2 k x2 x3 q2 y8 y9 = some r) ?_ ?_ (k := k) ⟨_, x1, (wr .i64 (Int.tdiv (wr .i64 ((wr .i64 (x3 - x2)) - 1)) 2)), (S.sb rfl (.c0 (.c0 .n))), h0⟩
 ·rintro a w ⟨m, y8, y9, S, h0⟩
  exact (nomatch (show (none : Option ((List L30))) = some r from h0))
 ·clear S h0
  rintro q2 a w ⟨m, y8, y9, S, h0⟩
  replace h0 : api_Account_n51_0z_3f35.b2 k x2 x3 (api_Account_n51_0z_3f35.l2 k x2 x3 q2) y8 y9 = some r := h0
  delta api_Account_n51_0z_3f35.b2 at h0
  refine wp_seq (c_region (s_move S rfl rfl fun a S => s_bin S rfl rfl rfl rfl fun a S => c_end ?_))
  rcases ite_of h0 with ⟨c5, h1⟩ | ⟨c5, h1⟩
  ·refine c_condT S rfl c5 (wp_skip (x_thenN (wp_seq (wp_block (c_region' (s_move S rfl rfl fun a S => s_move S rfl rfl fun a S => s_move S rfl rfl fun a S => s_move S rfl rfl fun a S => s_move S rfl rfl fun a S => bindX h1 fun t4 et4 h2 => s_callX S (ds' := [(.s ch_0_0 ch_0_1 ch_0_2), (.i y9), (.i (wr .i64 (x3 - x2))), (.i x2), (.v (.func (.func 35) #[] #[]))]) (ds := [(.s ch_0_0 ch_0_1 ch_0_2), (.i y9), (.i (wr .i64 (x3 - x2))), (.i x2), (.v (.func (.func 35) #[] #[]))]) [Res.row (Ty.atZ ch_0_3 Y30) 30 ch_0_0 ch_0_1 ch_0_2 y8, Res.priv ch_0_3] [] (fun (ch : Unit) => ((.tup []) : D)) (fun (ch : Unit) => [Res.row (Ty.atZ ch_0_3 Y30) 30 ch_0_0 ch_0_1 ch_0_2 t4, Res.priv ch_0_3]) (fun (ch : Unit) => [Res.row (Ty.atZ ch_0_3 Y30) 30 ch_0_0 ch_0_1 ch_0_2 t4, Res.priv ch_0_3]) (fun _ => rfl) N61 rfl rfl (fun ok => ok) (.c0 (.c0 .n)) rfl (api_Account_n61_0z_4f35.ok k y8 y9 (wr .i64 (x3 - x2)) x2 ch_0_0 ch_0_1 ch_0_2 ch_0_3 t4 et4 _ _) fun ch4 m le1 a w S => c_end' (x_blockN (x_thenN (c_region' (s_move S rfl rfl fun a S => s_bin S rfl rfl rfl rfl fun a S => s_assign S rfl rfl fun a S => c_end' (x_thenN ?_)))))))))))
   exact ⟨_, t4, (wr .i64 (y9 - 1)), (S.sb rfl (.c0 (.c0 .n))), h2⟩
  ·refine c_condF S rfl c5 (wp_exit (x_thenX (x_thenX (x_blockX (x_thenN ?_)))))
   exact j1 _ y8 a w (S.sb rfl (.c0 (.c0 .n))) h1
abbrev api_Account_n66_0z_4f35.Ty : Type := (List L30) → Int → Int → Int → Option (Int × Int × Int)
def api_Account_n66_0z_4f35.Ctr (s : api_Account_n66_0z_4f35.Ty) : Prop := ∀ (x1 : List L30) (x2 : Int) (x3 : Int) (x4 : Int) (ch_0_0 : Option Addr) (ch_0_1 : Nat) (ch_0_2 : Nat) (ch_0_3 : Mem) (ch_3_0 : Nat) (r : Int × Int × Int), Ct (C := Unit) Try.prog 66 (s x1 x2 x3 x4 = some r) [Res.row (Ty.atZ ch_0_3 Y30) 30 ch_0_0 ch_0_1 ch_0_2 x1, Res.priv ch_0_3, Res.cells ch_3_0 3 [.i x4]] [(.s ch_0_0 ch_0_1 ch_0_2), (.i x2), (.i x3), (.p ch_3_0), (.v (.func (.func 35) #[] #[]))] (fun _ => (.tup [(false, [.i r.1]), (false, [.i r.2.1])])) fun _ => [Res.row (Ty.atZ ch_0_3 Y30) 30 ch_0_0 ch_0_1 ch_0_2 x1, Res.priv ch_0_3, Res.cells ch_3_0 3 [.i r.2.2]]
def api_Account_n66_0z_4f35.j1 (x2 : Int) (x3 : Int) (x4 : Int) (y1 : Bool) : Option (Int × Int × Int) := if y1 = true then (some (x3, x2, wr .i64 (x4 + 1))) else (some (x2, x3, x4))
def api_Account_n66_0z_4f35.f (x1 : List L30) (x2 : Int) (x3 : Int) (x4 : Int) : Option (Int × Int × Int) := if (0 : Int) ≤ x3 ∧ x3 < ((x1).length : Int) then (if (0 : Int) ≤ x2 ∧ x2 < ((x1).length : Int) then ((store_Store_All_1.f (gt x1 x3) (gt x1 x2)).bind fun t1 => (api_Account_n66_0z_4f35.j1 x2 x3 x4 (decide (t1 < 0)))) else none) else none
theorem api_Account_n66_0z_4f35.ok : api_Account_n66_0z_4f35.Ctr (api_Account_n66_0z_4f35.f) := by
 intro x1 x2 x3 x4 ch_0_0 ch_0_1 ch_0_2 ch_0_3 ch_3_0 r h0 mi w0 ok hm
 delta api_Account_n66_0z_4f35.f at h0
 refine c_enterZ (n := 32) ok hm func66 rfl rfl rfl fun b0 hb a S => c_region (s_assign S rfl rfl fun a S => s_assign S rfl rfl fun a S => c_end (wp_seq (wp_seq_k fun K1 hK1 => ?_)))
 have j1 : ∀ m y1 a w, St 32 m b0 [(22, (.b y1)), (1, (.i x2)), (2, (.i x3)), (3, (.p ch_3_0))] [Res.row (Ty.atZ ch_0_3 Y30) 30 ch_0_0 ch_0_1 ch_0_2 x1, Res.priv ch_0_3, Res.cells ch_3_0 3 [.i x4]] a w → api_Account_n66_0z_4f35.j1 x2 x3 x4 y1 = some r → K1 a w := by
  intro m y1 a w S h0
  delta api_Account_n66_0z_4f35.j1 at h0
  refine hK1 a w ?_
  rcases ite_of h0 with ⟨c1, h1⟩ | ⟨c1, h1⟩
  ·refine c_condT S rfl c1 (c_region (s_move S rfl rfl fun a S => s_nilchk S rfl rfl fun a S => s_load1 S rfl .h2 T3 (v := (.int .i64 x4)) rfl rfl fun a S => s_bin S rfl rfl rfl rfl fun a S => s_nilchk S rfl rfl fun a S => s_store S rfl rfl rfl (s' := [.i (wr .i64 (x4 + 1))]) .h2 T3 rfl rfl fun w S => c_end (c_region (s_move S rfl rfl fun a S => s_move S rfl rfl fun a S => s_assign S rfl rfl fun a S => s_assign S rfl rfl fun a S => c_end (wp_ret (x_thenR ?_))))))
   obtain rfl := Option.some.inj h1
   exact b_ret2 (d1 := (.i x3)) (d2 := (.i x2)) S rfl rfl rfl fun ok1 ok2 => S.retX (Hx := []) hb _ _ (() : Unit) (.c0 (.c0 (.c0 .n))) ⟨⟨ok1, trivial⟩, ⟨ok2, trivial⟩, trivial⟩
  ·refine c_condF S rfl c1 (wp_skip (x_thenN (c_region (s_move S rfl rfl fun a S => s_move S rfl rfl fun a S => s_assign S rfl rfl fun a S => s_assign S rfl rfl fun a S => c_end (wp_ret ?_)))))
   obtain rfl := Option.some.inj h1
   exact b_ret2 (d1 := (.i x2)) (d2 := (.i x3)) S rfl rfl rfl fun ok1 ok2 => S.retX (Hx := []) hb _ _ (() : Unit) (.c0 (.c0 (.c0 .n))) ⟨⟨ok1, trivial⟩, ⟨ok2, trivial⟩, trivial⟩
 refine c_heldS S (.take 0 (.take 1 (.take 2 (.take 5 (.take 6 (.alts (.run 3 true (.alts (.run 4 true (.alts (.run 7 true (.alts (.run 8 true (.alts (.run 9 true (.take 10 .done) .nil)) .nil)) .nil)) (.run 7 true (.alts (.run 4 true (.alts (.run 8 true (.alts (.run 9 true (.take 10 .done) .nil)) .nil)) (.run 8 true (.alts (.run 4 true (.alts (.run 9 true (.take 10 .done) .nil)) .nil)) .nil))) .nil))) (.run 7 true (.alts (.run 3 true (.alts (.run 4 true (.alts (.run 8 true (.alts (.run 9 true (.take 10 .done) .nil)) .nil)) (.run 8 true (.alts (.run 4 true (.alts (.run 9 true (.take 10 .done) .nil)) .nil)) .nil))) (.run 8 true (.alts (.run 3 true (.alts (.run 4 true (.alts (.run 9 true (.take 10 .done) .nil)) .nil)) .nil)) .nil))) .nil)))))))) 11 [Res.cells ch_3_0 3 [.i x4]] (.c2 .n) ⟨Res.stay_cells, trivial⟩ [(0, (.s ch_0_0 ch_0_1 ch_0_2)), (1, (.i x2)), (2, (.i x3)), (4, (.v (.func (.func 35) #[] #[])))] (subR rfl) (by kernel_rfl) (by kernel_rfl) fun w S CL hw le => ?_
 refine h_move S CL hw le (subR rfl) rfl rfl rfl trivial fun a S CL => h_move S CL hw le (subR rfl) rfl rfl rfl trivial fun a S CL => h_move S CL hw le (subR rfl) rfl rfl rfl trivial fun a S CL => h_move S CL hw le (subR rfl) rfl rfl rfl trivial fun a S CL => h_move S CL hw le (subR rfl) rfl rfl rfl trivial fun a S CL => ?_
 obtain ⟨c2, h1⟩ := chk_of h0; clear h0
 obtain ⟨c3, h2⟩ := chk_of h1; clear h1
 refine bindX h2 fun t1 et1 h3 => h_alts ?_
 refine h_runO S rfl trivial ?_ ?_
 ·refine s_iaddrO S (ty' := (Ty.atZ ch_0_3 Y30)) rfl .h rfl underlying32 T30 c2.1 c2.2 rfl fun g1 a hA1 S => CL.bk hw S (.c2 .n) le fun hw => h_alts ?_
  refine h_runO S rfl trivial ?_ ?_
  ·refine s_ldRA S (ty' := (Ty.atZ ch_0_3 Y30)) (i := x3) (off := 0) (fun c => ((Ty.atZ ch_0_3 Y30).segs (gt x1 x3) c)) rfl hA1 .h T30 c2.1 c2.2 rfl (fun _ => rfl) rfl fun ch1 a S => ?_
   refine CL.bk hw S (.c2 .n) le fun hw => h_run' S rfl trivial (s_iaddrO S (ty' := (Ty.atZ ch_0_3 Y30)) rfl .h rfl underlying32 T30 c3.1 c3.2 rfl fun g2 a hA2 S => CL.bk hw S (.c2 .n) le fun hw => h_run' S rfl trivial (s_ldRA S (ty' := (Ty.atZ ch_0_3 Y30)) (i := x2) (off := 0) (fun c => ((Ty.atZ ch_0_3 Y30).segs (gt x1 x2) c)) rfl hA2 .h T30 c3.1 c3.2 rfl (fun _ => rfl) rfl fun ch2 a S => ?_))
   refine CL.bk hw S (.c2 .n) le fun hw => h_run' S rfl trivial (s_callL S (ds' := [(.agg ((Ty.atZ ch_0_3 Y30).segs (gt x1 x3) ch1)), (.agg ((Ty.atZ ch_0_3 Y30).segs (gt x1 x2) ch2))]) (ds := [(.agg (Y30.segs (gt x1 x3) ch1)), (.agg (Y30.segs (gt x1 x2) ch2))]) (fun (ch : Unit) => ((.i t1) : D)) (fun _ _ _ h => h) (by obtain ⟨mm, g1, gZ, g2⟩ := S.plend .h1; exact ⟨mm, g1, g2, fun ok => ⟨(okA_lend gZ ok.1), (okA_lend gZ ok.2.1), trivial⟩⟩) N35 rfl rfl rfl (fun _ => store_Store_All_1.ok (gt x1 x3) (gt x1 x2) ch1.2.2.2.1.1 ch1.2.2.2.1.2 ch1.2.2.2.2.1 ch1.2.2.2.2.2 ch2.2.2.2.1.1 ch2.2.2.2.1.2 ch2.2.2.2.2.1 ch2.2.2.2.2.2 t1 et1 _ _) fun ch3 a w S => CL.bk hw S (.c2 .n) le fun hw => ?_)
   replace CL := CL.add (t := 21) (d := (.i t1)) S rfl rfl
   refine h_bin S CL hw le (subR rfl) rfl rfl rfl rfl rfl trivial fun a S CL => ?_
   refine h_done ?_; clear CL hw le
   refine x_thenN ?_
   exact j1 _ (decide (t1 < 0)) a w (S.sb rfl (.c0 (.c0 (.c0 .n)))) h3
  refine h_runO S rfl trivial ?_ ?_
  ·refine s_iaddrO S (ty' := (Ty.atZ ch_0_3 Y30)) rfl .h rfl underlying32 T30 c3.1 c3.2 rfl fun g2 a hA2 S => CL.bk hw S (.c2 .n) le fun hw => h_alts ?_
   refine h_runO S rfl trivial ?_ ?_
   ·refine s_ldRA S (ty' := (Ty.atZ ch_0_3 Y30)) (i := x3) (off := 0) (fun c => ((Ty.atZ ch_0_3 Y30).segs (gt x1 x3) c)) rfl hA1 .h T30 c2.1 c2.2 rfl (fun _ => rfl) rfl fun ch1 a S => ?_
    refine CL.bk hw S (.c2 .n) le fun hw => h_run' S rfl trivial (s_ldRA S (ty' := (Ty.atZ ch_0_3 Y30)) (i := x2) (off := 0) (fun c => ((Ty.atZ ch_0_3 Y30).segs (gt x1 x2) c)) rfl hA2 .h T30 c3.1 c3.2 rfl (fun _ => rfl) rfl fun ch2 a S => ?_)
    refine CL.bk hw S (.c2 .n) le fun hw => h_run' S rfl trivial (s_callL S (ds' := [(.agg ((Ty.atZ ch_0_3 Y30).segs (gt x1 x3) ch1)), (.agg ((Ty.atZ ch_0_3 Y30).segs (gt x1 x2) ch2))]) (ds := [(.agg (Y30.segs (gt x1 x3) ch1)), (.agg (Y30.segs (gt x1 x2) ch2))]) (fun (ch : Unit) => ((.i t1) : D)) (fun _ _ _ h => h) (by obtain ⟨mm, g1, gZ, g2⟩ := S.plend .h1; exact ⟨mm, g1, g2, fun ok => ⟨(okA_lend gZ ok.1), (okA_lend gZ ok.2.1), trivial⟩⟩) N35 rfl rfl rfl (fun _ => store_Store_All_1.ok (gt x1 x3) (gt x1 x2) ch1.2.2.2.1.1 ch1.2.2.2.1.2 ch1.2.2.2.2.1 ch1.2.2.2.2.2 ch2.2.2.2.1.1 ch2.2.2.2.1.2 ch2.2.2.2.2.1 ch2.2.2.2.2.2 t1 et1 _ _) fun ch3 a w S => CL.bk hw S (.c2 .n) le fun hw => ?_)
    replace CL := CL.add (t := 21) (d := (.i t1)) S rfl rfl
    refine h_bin S CL hw le (subR rfl) rfl rfl rfl rfl rfl trivial fun a S CL => ?_
    refine h_done ?_; clear CL hw le
    refine x_thenN ?_
    exact j1 _ (decide (t1 < 0)) a w (S.sb rfl (.c0 (.c0 (.c0 .n)))) h3
   refine h_runO S rfl trivial ?_ ?_
   ·refine s_ldRA S (ty' := (Ty.atZ ch_0_3 Y30)) (i := x2) (off := 0) (fun c => ((Ty.atZ ch_0_3 Y30).segs (gt x1 x2) c)) rfl hA2 .h T30 c3.1 c3.2 rfl (fun _ => rfl) rfl fun ch1 a S => ?_
    refine CL.bk hw S (.c2 .n) le fun hw => h_run' S rfl trivial (s_ldRA S (ty' := (Ty.atZ ch_0_3 Y30)) (i := x3) (off := 0) (fun c => ((Ty.atZ ch_0_3 Y30).segs (gt x1 x3) c)) rfl hA1 .h T30 c2.1 c2.2 rfl (fun _ => rfl) rfl fun ch2 a S => ?_)
    refine CL.bk hw S (.c2 .n) le fun hw => h_run' S rfl trivial (s_callL S (ds' := [(.agg ((Ty.atZ ch_0_3 Y30).segs (gt x1 x3) ch2)), (.agg ((Ty.atZ ch_0_3 Y30).segs (gt x1 x2) ch1))]) (ds := [(.agg (Y30.segs (gt x1 x3) ch2)), (.agg (Y30.segs (gt x1 x2) ch1))]) (fun (ch : Unit) => ((.i t1) : D)) (fun _ _ _ h => h) (by obtain ⟨mm, g1, gZ, g2⟩ := S.plend .h1; exact ⟨mm, g1, g2, fun ok => ⟨(okA_lend gZ ok.1), (okA_lend gZ ok.2.1), trivial⟩⟩) N35 rfl rfl rfl (fun _ => store_Store_All_1.ok (gt x1 x3) (gt x1 x2) ch2.2.2.2.1.1 ch2.2.2.2.1.2 ch2.2.2.2.2.1 ch2.2.2.2.2.2 ch1.2.2.2.1.1 ch1.2.2.2.1.2 ch1.2.2.2.2.1 ch1.2.2.2.2.2 t1 et1 _ _) fun ch3 a w S => CL.bk hw S (.c2 .n) le fun hw => ?_)
    replace CL := CL.add (t := 21) (d := (.i t1)) S rfl rfl
    refine h_bin S CL hw le (subR rfl) rfl rfl rfl rfl rfl trivial fun a S CL => ?_
    refine h_done ?_; clear CL hw le
    refine x_thenN ?_
    exact j1 _ (decide (t1 < 0)) a w (S.sb rfl (.c0 (.c0 (.c0 .n)))) h3
   exact h_nil
  exact h_nil
 refine h_runO S rfl trivial ?_ ?_
 ·refine s_iaddrO S (ty' := (Ty.atZ ch_0_3 Y30)) rfl .h rfl underlying32 T30 c3.1 c3.2 rfl fun g1 a hA1 S => CL.bk hw S (.c2 .n) le fun hw => h_alts ?_
  refine h_runO S rfl trivial ?_ ?_
  ·refine s_iaddrO S (ty' := (Ty.atZ ch_0_3 Y30)) rfl .h rfl underlying32 T30 c2.1 c2.2 rfl fun g2 a hA2 S => CL.bk hw S (.c2 .n) le fun hw => h_alts ?_
   refine h_runO S rfl trivial ?_ ?_
   ·refine s_ldRA S (ty' := (Ty.atZ ch_0_3 Y30)) (i := x3) (off := 0) (fun c => ((Ty.atZ ch_0_3 Y30).segs (gt x1 x3) c)) rfl hA2 .h T30 c2.1 c2.2 rfl (fun _ => rfl) rfl fun ch1 a S => ?_
    refine CL.bk hw S (.c2 .n) le fun hw => h_run' S rfl trivial (s_ldRA S (ty' := (Ty.atZ ch_0_3 Y30)) (i := x2) (off := 0) (fun c => ((Ty.atZ ch_0_3 Y30).segs (gt x1 x2) c)) rfl hA1 .h T30 c3.1 c3.2 rfl (fun _ => rfl) rfl fun ch2 a S => ?_)
    refine CL.bk hw S (.c2 .n) le fun hw => h_run' S rfl trivial (s_callL S (ds' := [(.agg ((Ty.atZ ch_0_3 Y30).segs (gt x1 x3) ch1)), (.agg ((Ty.atZ ch_0_3 Y30).segs (gt x1 x2) ch2))]) (ds := [(.agg (Y30.segs (gt x1 x3) ch1)), (.agg (Y30.segs (gt x1 x2) ch2))]) (fun (ch : Unit) => ((.i t1) : D)) (fun _ _ _ h => h) (by obtain ⟨mm, g1, gZ, g2⟩ := S.plend .h1; exact ⟨mm, g1, g2, fun ok => ⟨(okA_lend gZ ok.1), (okA_lend gZ ok.2.1), trivial⟩⟩) N35 rfl rfl rfl (fun _ => store_Store_All_1.ok (gt x1 x3) (gt x1 x2) ch1.2.2.2.1.1 ch1.2.2.2.1.2 ch1.2.2.2.2.1 ch1.2.2.2.2.2 ch2.2.2.2.1.1 ch2.2.2.2.1.2 ch2.2.2.2.2.1 ch2.2.2.2.2.2 t1 et1 _ _) fun ch3 a w S => CL.bk hw S (.c2 .n) le fun hw => ?_)
    replace CL := CL.add (t := 21) (d := (.i t1)) S rfl rfl
    refine h_bin S CL hw le (subR rfl) rfl rfl rfl rfl rfl trivial fun a S CL => ?_
    refine h_done ?_; clear CL hw le
    refine x_thenN ?_
    exact j1 _ (decide (t1 < 0)) a w (S.sb rfl (.c0 (.c0 (.c0 .n)))) h3
   refine h_runO S rfl trivial ?_ ?_
   ·refine s_ldRA S (ty' := (Ty.atZ ch_0_3 Y30)) (i := x2) (off := 0) (fun c => ((Ty.atZ ch_0_3 Y30).segs (gt x1 x2) c)) rfl hA1 .h T30 c3.1 c3.2 rfl (fun _ => rfl) rfl fun ch1 a S => ?_
    refine CL.bk hw S (.c2 .n) le fun hw => h_run' S rfl trivial (s_ldRA S (ty' := (Ty.atZ ch_0_3 Y30)) (i := x3) (off := 0) (fun c => ((Ty.atZ ch_0_3 Y30).segs (gt x1 x3) c)) rfl hA2 .h T30 c2.1 c2.2 rfl (fun _ => rfl) rfl fun ch2 a S => ?_)
    refine CL.bk hw S (.c2 .n) le fun hw => h_run' S rfl trivial (s_callL S (ds' := [(.agg ((Ty.atZ ch_0_3 Y30).segs (gt x1 x3) ch2)), (.agg ((Ty.atZ ch_0_3 Y30).segs (gt x1 x2) ch1))]) (ds := [(.agg (Y30.segs (gt x1 x3) ch2)), (.agg (Y30.segs (gt x1 x2) ch1))]) (fun (ch : Unit) => ((.i t1) : D)) (fun _ _ _ h => h) (by obtain ⟨mm, g1, gZ, g2⟩ := S.plend .h1; exact ⟨mm, g1, g2, fun ok => ⟨(okA_lend gZ ok.1), (okA_lend gZ ok.2.1), trivial⟩⟩) N35 rfl rfl rfl (fun _ => store_Store_All_1.ok (gt x1 x3) (gt x1 x2) ch2.2.2.2.1.1 ch2.2.2.2.1.2 ch2.2.2.2.2.1 ch2.2.2.2.2.2 ch1.2.2.2.1.1 ch1.2.2.2.1.2 ch1.2.2.2.2.1 ch1.2.2.2.2.2 t1 et1 _ _) fun ch3 a w S => CL.bk hw S (.c2 .n) le fun hw => ?_)
    replace CL := CL.add (t := 21) (d := (.i t1)) S rfl rfl
    refine h_bin S CL hw le (subR rfl) rfl rfl rfl rfl rfl trivial fun a S CL => ?_
    refine h_done ?_; clear CL hw le
    refine x_thenN ?_
    exact j1 _ (decide (t1 < 0)) a w (S.sb rfl (.c0 (.c0 (.c0 .n)))) h3
   exact h_nil
  refine h_runO S rfl trivial ?_ ?_
  ·refine s_ldRA S (ty' := (Ty.atZ ch_0_3 Y30)) (i := x2) (off := 0) (fun c => ((Ty.atZ ch_0_3 Y30).segs (gt x1 x2) c)) rfl hA1 .h T30 c3.1 c3.2 rfl (fun _ => rfl) rfl fun ch1 a S => ?_
   refine CL.bk hw S (.c2 .n) le fun hw => h_run' S rfl trivial (s_iaddrO S (ty' := (Ty.atZ ch_0_3 Y30)) rfl .h rfl underlying32 T30 c2.1 c2.2 rfl fun g2 a hA2 S => CL.bk hw S (.c2 .n) le fun hw => h_run' S rfl trivial (s_ldRA S (ty' := (Ty.atZ ch_0_3 Y30)) (i := x3) (off := 0) (fun c => ((Ty.atZ ch_0_3 Y30).segs (gt x1 x3) c)) rfl hA2 .h T30 c2.1 c2.2 rfl (fun _ => rfl) rfl fun ch2 a S => ?_))
   refine CL.bk hw S (.c2 .n) le fun hw => h_run' S rfl trivial (s_callL S (ds' := [(.agg ((Ty.atZ ch_0_3 Y30).segs (gt x1 x3) ch2)), (.agg ((Ty.atZ ch_0_3 Y30).segs (gt x1 x2) ch1))]) (ds := [(.agg (Y30.segs (gt x1 x3) ch2)), (.agg (Y30.segs (gt x1 x2) ch1))]) (fun (ch : Unit) => ((.i t1) : D)) (fun _ _ _ h => h) (by obtain ⟨mm, g1, gZ, g2⟩ := S.plend .h1; exact ⟨mm, g1, g2, fun ok => ⟨(okA_lend gZ ok.1), (okA_lend gZ ok.2.1), trivial⟩⟩) N35 rfl rfl rfl (fun _ => store_Store_All_1.ok (gt x1 x3) (gt x1 x2) ch2.2.2.2.1.1 ch2.2.2.2.1.2 ch2.2.2.2.2.1 ch2.2.2.2.2.2 ch1.2.2.2.1.1 ch1.2.2.2.1.2 ch1.2.2.2.2.1 ch1.2.2.2.2.2 t1 et1 _ _) fun ch3 a w S => CL.bk hw S (.c2 .n) le fun hw => ?_)
   replace CL := CL.add (t := 21) (d := (.i t1)) S rfl rfl
   refine h_bin S CL hw le (subR rfl) rfl rfl rfl rfl rfl trivial fun a S CL => ?_
   refine h_done ?_; clear CL hw le
   refine x_thenN ?_
   exact j1 _ (decide (t1 < 0)) a w (S.sb rfl (.c0 (.c0 (.c0 .n)))) h3
  exact h_nil
 exact h_nil
abbrev api_Account_n65_0z_5f35.Ty : Type := (List L30) → Int → Int → Int → Int → Option (Int × Int)
def api_Account_n65_0z_5f35.Ctr (s : api_Account_n65_0z_5f35.Ty) : Prop := ∀ (x1 : List L30) (x2 : Int) (x3 : Int) (x4 : Int) (x5 : Int) (ch_0_0 : Option Addr) (ch_0_1 : Nat) (ch_0_2 : Nat) (ch_0_3 : Mem) (ch_4_0 : Nat) (r : Int × Int), Ct (C := Unit) Try.prog 65 (s x1 x2 x3 x4 x5 = some r) [Res.row (Ty.atZ ch_0_3 Y30) 30 ch_0_0 ch_0_1 ch_0_2 x1, Res.priv ch_0_3, Res.cells ch_4_0 3 [.i x5]] [(.s ch_0_0 ch_0_1 ch_0_2), (.i x2), (.i x3), (.i x4), (.p ch_4_0), (.v (.func (.func 35) #[] #[]))] (fun _ => (.i r.1)) fun _ => [Res.row (Ty.atZ ch_0_3 Y30) 30 ch_0_0 ch_0_1 ch_0_2 x1, Res.priv ch_0_3, Res.cells ch_4_0 3 [.i r.2]]
def api_Account_n65_0z_5f35.f (x1 : List L30) (x2 : Int) (x3 : Int) (x4 : Int) (x5 : Int) : Option (Int × Int) := (api_Account_n66_0z_4f35.f x1 x2 x3 x5).bind fun t1 => ((api_Account_n66_0z_4f35.f x1 t1.2.1 x4 t1.2.2).bind fun t2 => ((api_Account_n66_0z_4f35.f x1 t1.1 t2.1 t2.2.2).bind fun t3 => (some (t3.2.1, t3.2.2))))
theorem api_Account_n65_0z_5f35.ok : api_Account_n65_0z_5f35.Ctr (api_Account_n65_0z_5f35.f) := by
 intro x1 x2 x3 x4 x5 ch_0_0 ch_0_1 ch_0_2 ch_0_3 ch_4_0 r h0 mi w0 ok hm
 delta api_Account_n65_0z_5f35.f at h0
 refine c_enterZ (n := 41) ok hm func65 rfl rfl rfl fun b0 hb a S => c_region (s_assign S rfl rfl fun a S => c_end (c_region (s_move S rfl rfl fun a S => s_move S rfl rfl fun a S => s_move S rfl rfl fun a S => s_move S rfl rfl fun a S => s_move S rfl rfl fun a S => bindX h0 fun t1 et1 h1 => s_callX S (ds' := [(.s ch_0_0 ch_0_1 ch_0_2), (.i x2), (.i x3), (.p ch_4_0), (.v (.func (.func 35) #[] #[]))]) (ds := [(.s ch_0_0 ch_0_1 ch_0_2), (.i x2), (.i x3), (.p ch_4_0), (.v (.func (.func 35) #[] #[]))]) [Res.row (Ty.atZ ch_0_3 Y30) 30 ch_0_0 ch_0_1 ch_0_2 x1, Res.priv ch_0_3, Res.cells ch_4_0 3 [.i x5]] [] (fun (ch : Unit) => ((.tup [(false, [.i t1.1]), (false, [.i t1.2.1])]) : D)) (fun (ch : Unit) => [Res.row (Ty.atZ ch_0_3 Y30) 30 ch_0_0 ch_0_1 ch_0_2 x1, Res.priv ch_0_3, Res.cells ch_4_0 3 [.i t1.2.2]]) (fun (ch : Unit) => [Res.row (Ty.atZ ch_0_3 Y30) 30 ch_0_0 ch_0_1 ch_0_2 x1, Res.priv ch_0_3, Res.cells ch_4_0 3 [.i t1.2.2]]) (fun _ => rfl) N66 rfl rfl (fun ok => ok) (.c0 (.c0 (.c0 .n))) rfl (api_Account_n66_0z_4f35.ok x1 x2 x3 x5 ch_0_0 ch_0_1 ch_0_2 ch_0_3 ch_4_0 t1 et1 _ _) fun ch1 m le1 a w S => s_move S rfl rfl fun a S => s_extract S rfl rfl rfl rfl fun a S => s_extract S rfl rfl rfl rfl fun a S => s_assign S rfl rfl fun a S => s_assign S rfl rfl fun a S => c_end (c_region (s_move S rfl rfl fun a S => s_move S rfl rfl fun a S => s_move S rfl rfl fun a S => s_move S rfl rfl fun a S => s_move S rfl rfl fun a S => bindX h1 fun t2 et2 h2 => s_callX S (ds' := [(.s ch_0_0 ch_0_1 ch_0_2), (.i t1.2.1), (.i x4), (.p ch_4_0), (.v (.func (.func 35) #[] #[]))]) (ds := [(.s ch_0_0 ch_0_1 ch_0_2), (.i t1.2.1), (.i x4), (.p ch_4_0), (.v (.func (.func 35) #[] #[]))]) [Res.row (Ty.atZ ch_0_3 Y30) 30 ch_0_0 ch_0_1 ch_0_2 x1, Res.priv ch_0_3, Res.cells ch_4_0 3 [.i t1.2.2]] [] (fun (ch : Unit) => ((.tup [(false, [.i t2.1]), (false, [.i t2.2.1])]) : D)) (fun (ch : Unit) => [Res.row (Ty.atZ ch_0_3 Y30) 30 ch_0_0 ch_0_1 ch_0_2 x1, Res.priv ch_0_3, Res.cells ch_4_0 3 [.i t2.2.2]]) (fun (ch : Unit) => [Res.row (Ty.atZ ch_0_3 Y30) 30 ch_0_0 ch_0_1 ch_0_2 x1, Res.priv ch_0_3, Res.cells ch_4_0 3 [.i t2.2.2]]) (fun _ => rfl) N66 rfl rfl (fun ok => ok) (.c0 (.c0 (.c0 .n))) rfl (api_Account_n66_0z_4f35.ok x1 t1.2.1 x4 t1.2.2 ch_0_0 ch_0_1 ch_0_2 ch_0_3 ch_4_0 t2 et2 _ _) fun ch2 m le1 a w S => s_move S rfl rfl fun a S => s_extract S rfl rfl rfl rfl fun a S => s_extract S rfl rfl rfl rfl fun a S => s_assign S rfl rfl fun a S => s_assign S rfl rfl fun a S => c_end (c_region (s_move S rfl rfl fun a S => s_move S rfl rfl fun a S => s_move S rfl rfl fun a S => s_move S rfl rfl fun a S => s_move S rfl rfl fun a S => bindX h2 fun t3 et3 h3 => s_callX S (ds' := [(.s ch_0_0 ch_0_1 ch_0_2), (.i t1.1), (.i t2.1), (.p ch_4_0), (.v (.func (.func 35) #[] #[]))]) (ds := [(.s ch_0_0 ch_0_1 ch_0_2), (.i t1.1), (.i t2.1), (.p ch_4_0), (.v (.func (.func 35) #[] #[]))]) [Res.row (Ty.atZ ch_0_3 Y30) 30 ch_0_0 ch_0_1 ch_0_2 x1, Res.priv ch_0_3, Res.cells ch_4_0 3 [.i t2.2.2]] [] (fun (ch : Unit) => ((.tup [(false, [.i t3.1]), (false, [.i t3.2.1])]) : D)) (fun (ch : Unit) => [Res.row (Ty.atZ ch_0_3 Y30) 30 ch_0_0 ch_0_1 ch_0_2 x1, Res.priv ch_0_3, Res.cells ch_4_0 3 [.i t3.2.2]]) (fun (ch : Unit) => [Res.row (Ty.atZ ch_0_3 Y30) 30 ch_0_0 ch_0_1 ch_0_2 x1, Res.priv ch_0_3, Res.cells ch_4_0 3 [.i t3.2.2]]) (fun _ => rfl) N66 rfl rfl (fun ok => ok) (.c0 (.c0 (.c0 .n))) rfl (api_Account_n66_0z_4f35.ok x1 t1.1 t2.1 t2.2.2 ch_0_0 ch_0_1 ch_0_2 ch_0_3 ch_4_0 t3 et3 _ _) fun ch3 m le1 a w S => s_move S rfl rfl fun a S => s_extract S rfl rfl rfl rfl fun a S => s_extract S rfl rfl rfl rfl fun a S => s_assign S rfl rfl fun a S => s_assign S rfl rfl fun a S => c_end (c_region (s_move S rfl rfl fun a S => s_assign S rfl rfl fun a S => c_end (wp_ret ?_))))))))))
 obtain rfl := Option.some.inj h3
 exact b_ret1 (d := (.i t3.2.1)) S rfl rfl fun ok => S.retX (Hx := []) hb _ _ (() : Unit) (.c0 (.c0 (.c0 .n))) ok
abbrev api_Account_n64_0z_3f35.Ty : Type := (List L30) → Int → Int → Option (Int × Int)
def api_Account_n64_0z_3f35.Ctr (s : api_Account_n64_0z_3f35.Ty) : Prop := ∀ (x1 : List L30) (x2 : Int) (x3 : Int) (ch_0_0 : Option Addr) (ch_0_1 : Nat) (ch_0_2 : Nat) (ch_0_3 : Mem) (ch_2_0 : Nat) (r : Int × Int), Ct (C := Unit) Try.prog 64 (s x1 x2 x3 = some r) [Res.row (Ty.atZ ch_0_3 Y30) 30 ch_0_0 ch_0_1 ch_0_2 x1, Res.priv ch_0_3, Res.cells ch_2_0 3 [.i x3]] [(.s ch_0_0 ch_0_1 ch_0_2), (.i x2), (.p ch_2_0), (.v (.func (.func 35) #[] #[]))] (fun _ => (.i r.1)) fun _ => [Res.row (Ty.atZ ch_0_3 Y30) 30 ch_0_0 ch_0_1 ch_0_2 x1, Res.priv ch_0_3, Res.cells ch_2_0 3 [.i r.2]]
def api_Account_n64_0z_3f35.f (x1 : List L30) (x2 : Int) (x3 : Int) : Option (Int × Int) := (api_Account_n65_0z_5f35.f x1 (wr .i64 (x2 - 1)) x2 (wr .i64 (x2 + 1)) x3).bind fun t1 => (some (t1.1, t1.2))
theorem api_Account_n64_0z_3f35.ok : api_Account_n64_0z_3f35.Ctr (api_Account_n64_0z_3f35.f) := by
 intro x1 x2 x3 ch_0_0 ch_0_1 ch_0_2 ch_0_3 ch_2_0 r h0 mi w0 ok hm
 delta api_Account_n64_0z_3f35.f at h0
 refine c_enterZ (n := 18) ok hm func64 rfl rfl rfl fun b0 hb a S => c_region (s_assign S rfl rfl fun a S => c_end (c_region (s_move S rfl rfl fun a S => s_move S rfl rfl fun a S => s_bin S rfl rfl rfl rfl fun a S => s_move S rfl rfl fun a S => s_move S rfl rfl fun a S => s_bin S rfl rfl rfl rfl fun a S => s_move S rfl rfl fun a S => s_move S rfl rfl fun a S => bindX h0 fun t1 et1 h1 => s_callX S (ds' := [(.s ch_0_0 ch_0_1 ch_0_2), (.i (wr .i64 (x2 - 1))), (.i x2), (.i (wr .i64 (x2 + 1))), (.p ch_2_0), (.v (.func (.func 35) #[] #[]))]) (ds := [(.s ch_0_0 ch_0_1 ch_0_2), (.i (wr .i64 (x2 - 1))), (.i x2), (.i (wr .i64 (x2 + 1))), (.p ch_2_0), (.v (.func (.func 35) #[] #[]))]) [Res.row (Ty.atZ ch_0_3 Y30) 30 ch_0_0 ch_0_1 ch_0_2 x1, Res.priv ch_0_3, Res.cells ch_2_0 3 [.i x3]] [] (fun (ch : Unit) => ((.i t1.1) : D)) (fun (ch : Unit) => [Res.row (Ty.atZ ch_0_3 Y30) 30 ch_0_0 ch_0_1 ch_0_2 x1, Res.priv ch_0_3, Res.cells ch_2_0 3 [.i t1.2]]) (fun (ch : Unit) => [Res.row (Ty.atZ ch_0_3 Y30) 30 ch_0_0 ch_0_1 ch_0_2 x1, Res.priv ch_0_3, Res.cells ch_2_0 3 [.i t1.2]]) (fun _ => rfl) N65 rfl rfl (fun ok => ok) (.c0 (.c0 (.c0 .n))) rfl (api_Account_n65_0z_5f35.ok x1 (wr .i64 (x2 - 1)) x2 (wr .i64 (x2 + 1)) x3 ch_0_0 ch_0_1 ch_0_2 ch_0_3 ch_2_0 t1 et1 _ _) fun ch1 m le1 a w S => s_assign S rfl rfl fun a S => c_end (wp_ret ?_))))
 obtain rfl := Option.some.inj h1
 exact b_ret1 (d := (.i t1.1)) S rfl rfl fun ok => S.retX (Hx := []) hb _ _ (() : Unit) (.c0 (.c0 (.c0 .n))) ok
abbrev api_Account_n53_0z_3f35.Ty : Type := (List L30) → Int → Int → Option (Int × Int)
def api_Account_n53_0z_3f35.Ctr (s : api_Account_n53_0z_3f35.Ty) : Prop := ∀ (x1 : List L30) (x2 : Int) (x3 : Int) (ch_0_0 : Option Addr) (ch_0_1 : Nat) (ch_0_2 : Nat) (ch_0_3 : Mem) (r : Int × Int), Ct (C := Unit) Try.prog 53 (s x1 x2 x3 = some r) [Res.row (Ty.atZ ch_0_3 Y30) 30 ch_0_0 ch_0_1 ch_0_2 x1, Res.priv ch_0_3] [(.s ch_0_0 ch_0_1 ch_0_2), (.i x2), (.i x3), (.v (.func (.func 35) #[] #[]))] (fun _ => (.tup [(false, [.i r.1]), (false, [.i r.2])])) fun _ => [Res.row (Ty.atZ ch_0_3 Y30) 30 ch_0_0 ch_0_1 ch_0_2 x1, Res.priv ch_0_3]
def api_Account_n53_0z_3f35.j1 (y1 : Int) (y2 : Int) : Option (Int × Int) := if (y2 == 0) = true then (some (y1, 1)) else (if (y2 == 12) = true then (some (y1, 2)) else (some (y1, 0)))
def api_Account_n53_0z_3f35.j2 (x1 : List L30) (y3 : Int) (y4 : Int) (y5 : Int) (y6 : Int) : Option (Int × Int) := (api_Account_n65_0z_5f35.f x1 y5 y4 y3 y6).bind fun t1 => (api_Account_n53_0z_3f35.j1 t1.1 t1.2)
def api_Account_n53_0z_3f35.f (x1 : List L30) (x2 : Int) (x3 : Int) : Option (Int × Int) := if (decide (8 ≤ (wr .i64 (x3 - x2)))) = true then (if (decide (50 ≤ (wr .i64 (x3 - x2)))) = true then ((api_Account_n64_0z_3f35.f x1 (wr .i64 (x2 + (wr .i64 ((wr .i64 (Int.tdiv (wr .i64 (x3 - x2)) 4)) * 1)))) 0).bind fun t2 => ((api_Account_n64_0z_3f35.f x1 (wr .i64 (x2 + (wr .i64 ((wr .i64 (Int.tdiv (wr .i64 (x3 - x2)) 4)) * 2)))) t2.2).bind fun t3 => ((api_Account_n64_0z_3f35.f x1 (wr .i64 (x2 + (wr .i64 ((wr .i64 (Int.tdiv (wr .i64 (x3 - x2)) 4)) * 3)))) t3.2).bind fun t4 => (api_Account_n53_0z_3f35.j2 x1 t4.1 t3.1 t2.1 t4.2)))) else (api_Account_n53_0z_3f35.j2 x1 (wr .i64 (x2 + (wr .i64 ((wr .i64 (Int.tdiv (wr .i64 (x3 - x2)) 4)) * 3)))) (wr .i64 (x2 + (wr .i64 ((wr .i64 (Int.tdiv (wr .i64 (x3 - x2)) 4)) * 2)))) (wr .i64 (x2 + (wr .i64 ((wr .i64 (Int.tdiv (wr .i64 (x3 - x2)) 4)) * 1)))) 0)) else (api_Account_n53_0z_3f35.j1 (wr .i64 (x2 + (wr .i64 ((wr .i64 (Int.tdiv (wr .i64 (x3 - x2)) 4)) * 2)))) 0)
theorem api_Account_n53_0z_3f35.ok : api_Account_n53_0z_3f35.Ctr (api_Account_n53_0z_3f35.f) := by
 intro x1 x2 x3 ch_0_0 ch_0_1 ch_0_2 ch_0_3 r h0 mi w0 ok hm
 delta api_Account_n53_0z_3f35.f at h0
 refine c_enterZ (n := 63) ok hm func53 rfl rfl rfl fun b0 hb a S => c_region (s_assign S rfl rfl fun a S => s_assign S rfl rfl fun a S => c_end (c_region (s_move S rfl rfl fun a S => s_move S rfl rfl fun a S => s_bin S rfl rfl rfl rfl fun a S => s_assign S rfl rfl fun a S => c_end (c_region (s_alloc S Z3 rfl rfl rfl fun g1 a w S => c_end (c_region (s_move S rfl rfl fun a S => s_move S rfl rfl fun a S => s_quo S rfl rfl (by decide) rfl fun a S => s_bin S rfl rfl rfl rfl fun a S => s_bin S rfl rfl rfl rfl fun a S => s_assign S rfl rfl fun a S => c_end (c_region (s_move S rfl rfl fun a S => s_move S rfl rfl fun a S => s_quo S rfl rfl (by decide) rfl fun a S => s_bin S rfl rfl rfl rfl fun a S => s_bin S rfl rfl rfl rfl fun a S => s_assign S rfl rfl fun a S => c_end (c_region (s_move S rfl rfl fun a S => s_move S rfl rfl fun a S => s_quo S rfl rfl (by decide) rfl fun a S => s_bin S rfl rfl rfl rfl fun a S => s_bin S rfl rfl rfl rfl fun a S => s_assign S rfl rfl fun a S => c_end (wp_seq_k fun K1 hK1 => ?_))))))))))))
 have j1 : ∀ m y1 g3 y2 a w, St 63 m b0 [(13, (.i y1)), (11, (.p g3))] [Res.row (Ty.atZ ch_0_3 Y30) 30 ch_0_0 ch_0_1 ch_0_2 x1, Res.priv ch_0_3, Res.cells g3 3 [.i y2]] a w → api_Account_n53_0z_3f35.j1 y1 y2 = some r → K1 a w := by
  intro m y1 g3 y2 a w S h0
  delta api_Account_n53_0z_3f35.j1 at h0
  refine hK1 a w (c_region (s_load1 S rfl .h2 T3 (v := (.int .i64 y2)) rfl rfl fun a S => c_end (wp_block (c_region (s_bin S rfl rfl rfl rfl fun a S => s_assign S rfl rfl fun a S => c_end ?_)))))
  rcases ite_of h0 with ⟨c1, h1⟩ | ⟨c1, h1⟩
  ·refine c_condT S rfl c1 (c_region (s_move S rfl rfl fun a S => s_assign S rfl rfl fun a S => s_assign S rfl rfl fun a S => c_end (wp_ret (x_blockR ?_))))
   obtain rfl := Option.some.inj h1
   exact b_ret2 (d1 := (.i y1)) (d2 := (.i 1)) S rfl rfl rfl fun ok1 ok2 => S.retX (Hx := []) hb _ _ (() : Unit) (.c0 (.c0 .n)) ⟨⟨ok1, trivial⟩, ⟨ok2, trivial⟩, trivial⟩
  ·refine c_condF S rfl c1 (c_region (s_bin S rfl rfl rfl rfl fun a S => s_assign S rfl rfl fun a S => c_end ?_))
   rcases ite_of h1 with ⟨c2, h2⟩ | ⟨c2, h2⟩
   ·refine c_condT S rfl c2 (c_region (s_move S rfl rfl fun a S => s_assign S rfl rfl fun a S => s_assign S rfl rfl fun a S => c_end (wp_ret (x_blockR ?_))))
    obtain rfl := Option.some.inj h2
    exact b_ret2 (d1 := (.i y1)) (d2 := (.i 2)) S rfl rfl rfl fun ok1 ok2 => S.retX (Hx := []) hb _ _ (() : Unit) (.c0 (.c0 .n)) ⟨⟨ok1, trivial⟩, ⟨ok2, trivial⟩, trivial⟩
   ·refine c_condF S rfl c2 (c_region (s_move S rfl rfl fun a S => s_assign S rfl rfl fun a S => s_assign S rfl rfl fun a S => c_end (wp_ret (x_blockR ?_))))
    obtain rfl := Option.some.inj h2
    exact b_ret2 (d1 := (.i y1)) (d2 := (.i 0)) S rfl rfl rfl fun ok1 ok2 => S.retX (Hx := []) hb _ _ (() : Unit) (.c0 (.c0 .n)) ⟨⟨ok1, trivial⟩, ⟨ok2, trivial⟩, trivial⟩
 refine c_region (s_move S rfl rfl fun a S => s_bin S rfl rfl rfl rfl fun a S => c_end ?_)
 rcases ite_of h0 with ⟨c3, h1⟩ | ⟨c3, h1⟩
 ·refine c_condT S rfl c3 (wp_seq_k fun K2 hK2 => ?_)
  have j2 : ∀ m y3 y4 y5 g4 y6 a w, St 63 m b0 [(14, (.i y3)), (13, (.i y4)), (12, (.i y5)), (11, (.p g4)), (0, (.s ch_0_0 ch_0_1 ch_0_2)), (3, (.v (.func (.func 35) #[] #[])))] [Res.row (Ty.atZ ch_0_3 Y30) 30 ch_0_0 ch_0_1 ch_0_2 x1, Res.priv ch_0_3, Res.cells g4 3 [.i y6]] a w → api_Account_n53_0z_3f35.j2 x1 y3 y4 y5 y6 = some r → K2 a w := by
   intro m y3 y4 y5 g4 y6 a w S h0
   delta api_Account_n53_0z_3f35.j2 at h0
   refine hK2 a w (c_region' (s_move S rfl rfl fun a S => s_move S rfl rfl fun a S => s_move S rfl rfl fun a S => s_move S rfl rfl fun a S => s_move S rfl rfl fun a S => bindX h0 fun t1 et1 h1 => s_callX S (ds' := [(.s ch_0_0 ch_0_1 ch_0_2), (.i y5), (.i y4), (.i y3), (.p g4), (.v (.func (.func 35) #[] #[]))]) (ds := [(.s ch_0_0 ch_0_1 ch_0_2), (.i y5), (.i y4), (.i y3), (.p g4), (.v (.func (.func 35) #[] #[]))]) [Res.row (Ty.atZ ch_0_3 Y30) 30 ch_0_0 ch_0_1 ch_0_2 x1, Res.priv ch_0_3, Res.cells g4 3 [.i y6]] [] (fun (ch : Unit) => ((.i t1.1) : D)) (fun (ch : Unit) => [Res.row (Ty.atZ ch_0_3 Y30) 30 ch_0_0 ch_0_1 ch_0_2 x1, Res.priv ch_0_3, Res.cells g4 3 [.i t1.2]]) (fun (ch : Unit) => [Res.row (Ty.atZ ch_0_3 Y30) 30 ch_0_0 ch_0_1 ch_0_2 x1, Res.priv ch_0_3, Res.cells g4 3 [.i t1.2]]) (fun _ => rfl) N65 rfl rfl (fun ok => ok) (.c0 (.c0 (.c0 .n))) rfl (api_Account_n65_0z_5f35.ok x1 y5 y4 y3 y6 ch_0_0 ch_0_1 ch_0_2 ch_0_3 g4 t1 et1 _ _) fun ch1 m le1 a w S => s_assign S rfl rfl fun a S => c_end' (x_thenN ?_)))
   exact j1 _ t1.1 g4 t1.2 a w (S.sb rfl (.c0 (.c0 (.c0 .n)))) h1
  refine c_region (s_move S rfl rfl fun a S => s_bin S rfl rfl rfl rfl fun a S => c_end ?_)
  rcases ite_of h1 with ⟨c4, h2⟩ | ⟨c4, h2⟩
  ·refine c_condT S rfl c4 (c_region (s_move S rfl rfl fun a S => s_move S rfl rfl fun a S => s_move S rfl rfl fun a S => bindX h2 fun t2 et2 h3 => s_callX S (ds' := [(.s ch_0_0 ch_0_1 ch_0_2), (.i (wr .i64 (x2 + (wr .i64 ((wr .i64 (Int.tdiv (wr .i64 (x3 - x2)) 4)) * 1))))), (.p g1), (.v (.func (.func 35) #[] #[]))]) (ds := [(.s ch_0_0 ch_0_1 ch_0_2), (.i (wr .i64 (x2 + (wr .i64 ((wr .i64 (Int.tdiv (wr .i64 (x3 - x2)) 4)) * 1))))), (.p g1), (.v (.func (.func 35) #[] #[]))]) [Res.row (Ty.atZ ch_0_3 Y30) 30 ch_0_0 ch_0_1 ch_0_2 x1, Res.priv ch_0_3, Res.cells g1 3 [.i 0]] [] (fun (ch : Unit) => ((.i t2.1) : D)) (fun (ch : Unit) => [Res.row (Ty.atZ ch_0_3 Y30) 30 ch_0_0 ch_0_1 ch_0_2 x1, Res.priv ch_0_3, Res.cells g1 3 [.i t2.2]]) (fun (ch : Unit) => [Res.row (Ty.atZ ch_0_3 Y30) 30 ch_0_0 ch_0_1 ch_0_2 x1, Res.priv ch_0_3, Res.cells g1 3 [.i t2.2]]) (fun _ => rfl) N64 rfl rfl (fun ok => ok) (.c1 (.c1 (.c0 .n))) rfl (api_Account_n64_0z_3f35.ok x1 (wr .i64 (x2 + (wr .i64 ((wr .i64 (Int.tdiv (wr .i64 (x3 - x2)) 4)) * 1)))) 0 ch_0_0 ch_0_1 ch_0_2 ch_0_3 g1 t2 et2 _ _) fun ch2 m le1 a w S => s_assign S rfl rfl fun a S => c_end (c_region (s_move S rfl rfl fun a S => s_move S rfl rfl fun a S => s_move S rfl rfl fun a S => bindX h3 fun t3 et3 h4 => s_callX S (ds' := [(.s ch_0_0 ch_0_1 ch_0_2), (.i (wr .i64 (x2 + (wr .i64 ((wr .i64 (Int.tdiv (wr .i64 (x3 - x2)) 4)) * 2))))), (.p g1), (.v (.func (.func 35) #[] #[]))]) (ds := [(.s ch_0_0 ch_0_1 ch_0_2), (.i (wr .i64 (x2 + (wr .i64 ((wr .i64 (Int.tdiv (wr .i64 (x3 - x2)) 4)) * 2))))), (.p g1), (.v (.func (.func 35) #[] #[]))]) [Res.row (Ty.atZ ch_0_3 Y30) 30 ch_0_0 ch_0_1 ch_0_2 x1, Res.priv ch_0_3, Res.cells g1 3 [.i t2.2]] [] (fun (ch : Unit) => ((.i t3.1) : D)) (fun (ch : Unit) => [Res.row (Ty.atZ ch_0_3 Y30) 30 ch_0_0 ch_0_1 ch_0_2 x1, Res.priv ch_0_3, Res.cells g1 3 [.i t3.2]]) (fun (ch : Unit) => [Res.row (Ty.atZ ch_0_3 Y30) 30 ch_0_0 ch_0_1 ch_0_2 x1, Res.priv ch_0_3, Res.cells g1 3 [.i t3.2]]) (fun _ => rfl) N64 rfl rfl (fun ok => ok) (.c0 (.c0 (.c0 .n))) rfl (api_Account_n64_0z_3f35.ok x1 (wr .i64 (x2 + (wr .i64 ((wr .i64 (Int.tdiv (wr .i64 (x3 - x2)) 4)) * 2)))) t2.2 ch_0_0 ch_0_1 ch_0_2 ch_0_3 g1 t3 et3 _ _) fun ch3 m le1 a w S => s_assign S rfl rfl fun a S => c_end (c_region' (s_move S rfl rfl fun a S => s_move S rfl rfl fun a S => s_move S rfl rfl fun a S => bindX h4 fun t4 et4 h5 => s_callX S (ds' := [(.s ch_0_0 ch_0_1 ch_0_2), (.i (wr .i64 (x2 + (wr .i64 ((wr .i64 (Int.tdiv (wr .i64 (x3 - x2)) 4)) * 3))))), (.p g1), (.v (.func (.func 35) #[] #[]))]) (ds := [(.s ch_0_0 ch_0_1 ch_0_2), (.i (wr .i64 (x2 + (wr .i64 ((wr .i64 (Int.tdiv (wr .i64 (x3 - x2)) 4)) * 3))))), (.p g1), (.v (.func (.func 35) #[] #[]))]) [Res.row (Ty.atZ ch_0_3 Y30) 30 ch_0_0 ch_0_1 ch_0_2 x1, Res.priv ch_0_3, Res.cells g1 3 [.i t3.2]] [] (fun (ch : Unit) => ((.i t4.1) : D)) (fun (ch : Unit) => [Res.row (Ty.atZ ch_0_3 Y30) 30 ch_0_0 ch_0_1 ch_0_2 x1, Res.priv ch_0_3, Res.cells g1 3 [.i t4.2]]) (fun (ch : Unit) => [Res.row (Ty.atZ ch_0_3 Y30) 30 ch_0_0 ch_0_1 ch_0_2 x1, Res.priv ch_0_3, Res.cells g1 3 [.i t4.2]]) (fun _ => rfl) N64 rfl rfl (fun ok => ok) (.c0 (.c0 (.c0 .n))) rfl (api_Account_n64_0z_3f35.ok x1 (wr .i64 (x2 + (wr .i64 ((wr .i64 (Int.tdiv (wr .i64 (x3 - x2)) 4)) * 3)))) t3.2 ch_0_0 ch_0_1 ch_0_2 ch_0_3 g1 t4 et4 _ _) fun ch4 m le1 a w S => s_assign S rfl rfl fun a S => c_end' (x_thenN ?_)))))))
   exact j2 _ t4.1 t3.1 t2.1 g1 t4.2 a w (S.sb rfl (.c0 (.c0 (.c0 .n)))) h5
  ·refine c_condF S rfl c4 (wp_skip (x_thenN ?_))
   exact j2 _ (wr .i64 (x2 + (wr .i64 ((wr .i64 (Int.tdiv (wr .i64 (x3 - x2)) 4)) * 3)))) (wr .i64 (x2 + (wr .i64 ((wr .i64 (Int.tdiv (wr .i64 (x3 - x2)) 4)) * 2)))) (wr .i64 (x2 + (wr .i64 ((wr .i64 (Int.tdiv (wr .i64 (x3 - x2)) 4)) * 1)))) g1 0 a w (S.sb rfl (.c1 (.c1 (.c0 .n)))) h2
 ·refine c_condF S rfl c3 (wp_skip (x_thenN ?_))
  exact j1 _ (wr .i64 (x2 + (wr .i64 ((wr .i64 (Int.tdiv (wr .i64 (x3 - x2)) 4)) * 2)))) g1 0 a w (S.sb rfl (.c1 (.c1 (.c0 .n)))) h1
abbrev api_Account_n54_0z_3f35.Ty : Type := (List L30) → Int → Int → Option ((List L30))
def api_Account_n54_0z_3f35.Ctr (s : api_Account_n54_0z_3f35.Ty) : Prop := ∀ (x1 : List L30) (x2 : Int) (x3 : Int) (ch_0_0 : Option Addr) (ch_0_1 : Nat) (ch_0_2 : Nat) (ch_0_3 : Mem) (r : (List L30)), Ct (C := Unit) Try.prog 54 (s x1 x2 x3 = some r) [Res.row (Ty.atZ ch_0_3 Y30) 30 ch_0_0 ch_0_1 ch_0_2 x1, Res.priv ch_0_3] [(.s ch_0_0 ch_0_1 ch_0_2), (.i x2), (.i x3), (.v (.func (.func 35) #[] #[]))] (fun _ => (.tup [])) fun _ => [Res.row (Ty.atZ ch_0_3 Y30) 30 ch_0_0 ch_0_1 ch_0_2 r, Res.priv ch_0_3]
def api_Account_n54_0z_3f35.j1 (y1 : List L30) (y2 : Int) (y3 : Int) (rec1 : (List L30) → Int → Int → Option ((List L30))) : Option ((List L30)) := rec1 ((y1.set (Int.toNat y3) (gt y1 y2)).set (Int.toNat y2) (gt y1 y3)) (wr .i64 (y2 - 1)) (wr .i64 (y3 + 1))
def api_Account_n54_0z_3f35.b1 (rec1 : (List L30) → Int → Int → Option ((List L30))) (y1 : List L30) (y2 : Int) (y3 : Int) : Option ((List L30)) := if (decide (y3 < y2)) = true then (if (0 : Int) ≤ y2 ∧ y2 < ((y1).length : Int) then (if (0 : Int) ≤ y3 ∧ y3 < ((y1).length : Int) then (if (0 : Int) ≤ y2 ∧ y2 < ((y1.set (Int.toNat y3) (gt y1 y2)).length : Int) then (api_Account_n54_0z_3f35.j1 y1 y2 y3 rec1) else none) else none) else none) else (some y1)
def api_Account_n54_0z_3f35.l1 : Nat → (List L30) → Int → Int → Option ((List L30))
  | 0, _, _, _ => none
  | q + 1, y1, y2, y3 => api_Account_n54_0z_3f35.b1 (api_Account_n54_0z_3f35.l1 q) y1 y2 y3
def api_Account_n54_0z_3f35.f (k : Nat) (x1 : List L30) (x2 : Int) (x3 : Int) : Option ((List L30)) := api_Account_n54_0z_3f35.l1 k x1 (wr .i64 (x3 - 1)) x2
theorem api_Account_n54_0z_3f35.ok (k : Nat) : api_Account_n54_0z_3f35.Ctr (api_Account_n54_0z_3f35.f k) := by
 intro x1 x2 x3 ch_0_0 ch_0_1 ch_0_2 ch_0_3 r h0 mi w0 ok hm
 delta api_Account_n54_0z_3f35.f at h0
 refine c_enterZ (n := 34) ok hm func54 rfl rfl rfl fun b0 hb a S => c_region (s_move S rfl rfl fun a S => s_assign S rfl rfl fun a S => c_end (c_region (s_move S rfl rfl fun a S => s_bin S rfl rfl rfl rfl fun a S => s_assign S rfl rfl fun a S => c_end (wp_block ?_))))
 refine c_loop (fun q1 a w => ∃ m y1 y2 y3, St 34 m b0 [(9, (.i y2)), (8, (.i y3)), (0, (.s ch_0_0 ch_0_1 ch_0_2))] [Res.row (Ty.atZ ch_0_3 Y30) 30 ch_0_0 ch_0_1 ch_0_2 y1, Res.priv ch_0_3] a w ∧ api_Account_n54_0z_3f35.l1 q1 y1 y2 y3 = some r) ?_ ?_ (k := k) ⟨_, x1, (wr .i64 (x3 - 1)), x2, (S.sb rfl (.c0 (.c0 .n))), h0⟩
 ·rintro a w ⟨m, y1, y2, y3, S, h0⟩
  exact (nomatch (show (none : Option ((List L30))) = some r from h0))
 ·clear S h0
  rintro q1 a w ⟨m, y1, y2, y3, S, h0⟩
  replace h0 : api_Account_n54_0z_3f35.b1 (api_Account_n54_0z_3f35.l1 q1) y1 y2 y3 = some r := h0
  delta api_Account_n54_0z_3f35.b1 at h0
  refine wp_seq (c_region (s_move S rfl rfl fun a S => s_move S rfl rfl fun a S => s_bin S rfl rfl rfl rfl fun a S => c_end ?_))
  rcases ite_of h0 with ⟨c1, h1⟩ | ⟨c1, h1⟩
  ·refine c_condT S rfl c1 (wp_skip (x_thenN (wp_block (wp_seq_k fun K1 hK1 => ?_))))
   have j1 : ∀ m a w, St 34 m b0 [(9, (.i y2)), (8, (.i y3)), (0, (.s ch_0_0 ch_0_1 ch_0_2))] [Res.row (Ty.atZ ch_0_3 Y30) 30 ch_0_0 ch_0_1 ch_0_2 ((y1.set (Int.toNat y3) (gt y1 y2)).set (Int.toNat y2) (gt y1 y3)), Res.priv ch_0_3] a w → api_Account_n54_0z_3f35.j1 y1 y2 y3 (api_Account_n54_0z_3f35.l1 q1) = some r → K1 a w := by
    intro m a w S h0
    delta api_Account_n54_0z_3f35.j1 at h0
    refine hK1 a w (c_region (s_move S rfl rfl fun a S => s_bin S rfl rfl rfl rfl fun a S => s_assign S rfl rfl fun a S => c_end (c_region' (s_move S rfl rfl fun a S => s_bin S rfl rfl rfl rfl fun a S => s_assign S rfl rfl fun a S => c_end' (x_blockN (x_thenN ?_))))))
    exact ⟨_, ((y1.set (Int.toNat y3) (gt y1 y2)).set (Int.toNat y2) (gt y1 y3)), (wr .i64 (y2 - 1)), (wr .i64 (y3 + 1)), (S.sb rfl (.c0 (.c0 .n))), h0⟩
   refine c_heldS S (.take 0 (.take 1 (.take 2 (.take 3 (.take 4 (.take 5 (.take 8 (.take 9 (.alts (.run 6 true (.alts (.run 7 true (.alts (.run 10 true (.alts (.run 11 true (.alts (.run 12 true (.alts (.run 13 true (.alts (.run 14 true (.alts (.run 15 false .done .nil)) .nil)) .nil)) .nil)) .nil)) .nil)) (.run 10 true (.alts (.run 7 true (.alts (.run 11 true (.alts (.run 12 true (.alts (.run 13 true (.alts (.run 14 true (.alts (.run 15 false .done .nil)) .nil)) .nil)) .nil)) .nil)) (.run 11 true (.alts (.run 7 true (.alts (.run 12 true (.alts (.run 13 true (.alts (.run 14 true (.alts (.run 15 false .done .nil)) .nil)) .nil)) .nil)) .nil)) .nil))) .nil))) (.run 10 true (.alts (.run 6 true (.alts (.run 7 true (.alts (.run 11 true (.alts (.run 12 true (.alts (.run 13 true (.alts (.run 14 true (.alts (.run 15 false .done .nil)) .nil)) .nil)) .nil)) .nil)) (.run 11 true (.alts (.run 7 true (.alts (.run 12 true (.alts (.run 13 true (.alts (.run 14 true (.alts (.run 15 false .done .nil)) .nil)) .nil)) .nil)) .nil)) .nil))) (.run 11 true (.alts (.run 6 true (.alts (.run 7 true (.alts (.run 12 true (.alts (.run 13 true (.alts (.run 14 true (.alts (.run 15 false .done .nil)) .nil)) .nil)) .nil)) .nil)) .nil)) .nil))) .nil))))))))))) 15 [] .nil trivial [(9, (.i y2)), (8, (.i y3)), (0, (.s ch_0_0 ch_0_1 ch_0_2))] (subR rfl) (by kernel_rfl) (by kernel_rfl) fun w S CL hw le => ?_
   refine h_move S CL hw le (subR rfl) rfl rfl rfl trivial fun a S CL => h_move S CL hw le (subR rfl) rfl rfl rfl trivial fun a S CL => h_move S CL hw le (subR rfl) rfl rfl rfl trivial fun a S CL => h_move S CL hw le (subR rfl) rfl rfl rfl trivial fun a S CL => h_move S CL hw le (subR rfl) rfl rfl rfl trivial fun a S CL => h_move S CL hw le (subR rfl) rfl rfl rfl trivial fun a S CL => h_move S CL hw le (subR rfl) rfl rfl rfl trivial fun a S CL => h_move S CL hw le (subR rfl) rfl rfl rfl trivial fun a S CL => ?_
   obtain ⟨c2, h2⟩ := chk_of h1; clear h1
   obtain ⟨c3, h3⟩ := chk_of h2; clear h2
   obtain ⟨c4, h4⟩ := chk_of h3; clear h3
   refine h_alts ?_
   refine h_runO S rfl trivial ?_ ?_
   ·refine s_iaddrO S (ty' := (Ty.atZ ch_0_3 Y30)) rfl .h rfl underlying32 T30 c2.1 c2.2 rfl fun g1 a hA1 S => CL.bk hw S .nil le fun hw => h_alts ?_
    refine h_runO S rfl trivial ?_ ?_
    ·refine s_ldRA S (ty' := (Ty.atZ ch_0_3 Y30)) (i := y2) (off := 0) (fun c => ((Ty.atZ ch_0_3 Y30).segs (gt y1 y2) c)) rfl hA1 .h T30 c2.1 c2.2 rfl (fun _ => rfl) rfl fun ch1 a S => ?_
     refine CL.br hw S .nil le rfl trivial fun hw => (s_iaddrO S (ty' := (Ty.atZ ch_0_3 Y30)) rfl .h rfl underlying32 T30 c3.1 c3.2 rfl fun g2 a hA2 S => CL.br hw S .nil le rfl trivial fun hw => (s_ldRA S (ty' := (Ty.atZ ch_0_3 Y30)) (i := y3) (off := 0) (fun c => ((Ty.atZ ch_0_3 Y30).segs (gt y1 y3) c)) rfl hA2 .h T30 c3.1 c3.2 rfl (fun _ => rfl) rfl fun ch2 a S => ?_))
     refine CL.br hw S .nil le rfl trivial fun hw => (s_iaddrO S (ty' := (Ty.atZ ch_0_3 Y30)) rfl .h rfl underlying32 T30 c3.1 c3.2 rfl fun g3 a hA3 S => CL.br hw S .nil le rfl trivial fun hw => (s_stR S (ty' := (Ty.atZ ch_0_3 Y30)) (i := y3) (off := 0) (u := gt y1 y2) (fun _ => ch1) rfl rfl rfl hA3 .h T30 c3.1 c3.2 rfl (show 0 + 27 ≤ (Y30).size by decide) rfl (fun _ => rfl) fun w S => CL.br hw S .nil le rfl trivial fun hw => (s_iaddrO S (ty' := (Ty.atZ ch_0_3 Y30)) rfl .h rfl underlying32 T30 c4.1 c4.2 rfl fun g4 a hA4 S => CL.br hw S .nil le rfl trivial fun hw => (s_stR S (ty' := (Ty.atZ ch_0_3 Y30)) (i := y2) (off := 0) (u := gt y1 y3) (fun _ => ch2) rfl rfl rfl hA4 .h T30 c4.1 c4.2 rfl (show 0 + 27 ≤ (Y30).size by decide) rfl (fun _ => rfl) fun w S => ?_))))
     refine h_back ⟨fun h => (nomatch h), ?_⟩
     refine h_done ?_; clear CL hw le
     refine x_thenN ?_
     exact j1 _ a w (S.sb rfl (.c0 (.c0 .n))) h4
    refine h_runO S rfl trivial ?_ ?_
    ·refine s_iaddrO S (ty' := (Ty.atZ ch_0_3 Y30)) rfl .h rfl underlying32 T30 c3.1 c3.2 rfl fun g2 a hA2 S => CL.bk hw S .nil le fun hw => h_alts ?_
     refine h_runO S rfl trivial ?_ ?_
     ·refine s_ldRA S (ty' := (Ty.atZ ch_0_3 Y30)) (i := y2) (off := 0) (fun c => ((Ty.atZ ch_0_3 Y30).segs (gt y1 y2) c)) rfl hA1 .h T30 c2.1 c2.2 rfl (fun _ => rfl) rfl fun ch1 a S => ?_
      refine CL.br hw S .nil le rfl trivial fun hw => (s_ldRA S (ty' := (Ty.atZ ch_0_3 Y30)) (i := y3) (off := 0) (fun c => ((Ty.atZ ch_0_3 Y30).segs (gt y1 y3) c)) rfl hA2 .h T30 c3.1 c3.2 rfl (fun _ => rfl) rfl fun ch2 a S => ?_)
      refine CL.br hw S .nil le rfl trivial fun hw => (s_iaddrO S (ty' := (Ty.atZ ch_0_3 Y30)) rfl .h rfl underlying32 T30 c3.1 c3.2 rfl fun g3 a hA3 S => CL.br hw S .nil le rfl trivial fun hw => (s_stR S (ty' := (Ty.atZ ch_0_3 Y30)) (i := y3) (off := 0) (u := gt y1 y2) (fun _ => ch1) rfl rfl rfl hA3 .h T30 c3.1 c3.2 rfl (show 0 + 27 ≤ (Y30).size by decide) rfl (fun _ => rfl) fun w S => CL.br hw S .nil le rfl trivial fun hw => (s_iaddrO S (ty' := (Ty.atZ ch_0_3 Y30)) rfl .h rfl underlying32 T30 c4.1 c4.2 rfl fun g4 a hA4 S => CL.br hw S .nil le rfl trivial fun hw => (s_stR S (ty' := (Ty.atZ ch_0_3 Y30)) (i := y2) (off := 0) (u := gt y1 y3) (fun _ => ch2) rfl rfl rfl hA4 .h T30 c4.1 c4.2 rfl (show 0 + 27 ≤ (Y30).size by decide) rfl (fun _ => rfl) fun w S => ?_))))
      refine h_back ⟨fun h => (nomatch h), ?_⟩
      refine h_done ?_; clear CL hw le
      refine x_thenN ?_
      exact j1 _ a w (S.sb rfl (.c0 (.c0 .n))) h4
     refine h_runO S rfl trivial ?_ ?_
     ·refine s_ldRA S (ty' := (Ty.atZ ch_0_3 Y30)) (i := y3) (off := 0) (fun c => ((Ty.atZ ch_0_3 Y30).segs (gt y1 y3) c)) rfl hA2 .h T30 c3.1 c3.2 rfl (fun _ => rfl) rfl fun ch1 a S => ?_
      refine CL.br hw S .nil le rfl trivial fun hw => (s_ldRA S (ty' := (Ty.atZ ch_0_3 Y30)) (i := y2) (off := 0) (fun c => ((Ty.atZ ch_0_3 Y30).segs (gt y1 y2) c)) rfl hA1 .h T30 c2.1 c2.2 rfl (fun _ => rfl) rfl fun ch2 a S => ?_)
      refine CL.br hw S .nil le rfl trivial fun hw => (s_iaddrO S (ty' := (Ty.atZ ch_0_3 Y30)) rfl .h rfl underlying32 T30 c3.1 c3.2 rfl fun g3 a hA3 S => CL.br hw S .nil le rfl trivial fun hw => (s_stR S (ty' := (Ty.atZ ch_0_3 Y30)) (i := y3) (off := 0) (u := gt y1 y2) (fun _ => ch2) rfl rfl rfl hA3 .h T30 c3.1 c3.2 rfl (show 0 + 27 ≤ (Y30).size by decide) rfl (fun _ => rfl) fun w S => CL.br hw S .nil le rfl trivial fun hw => (s_iaddrO S (ty' := (Ty.atZ ch_0_3 Y30)) rfl .h rfl underlying32 T30 c4.1 c4.2 rfl fun g4 a hA4 S => CL.br hw S .nil le rfl trivial fun hw => (s_stR S (ty' := (Ty.atZ ch_0_3 Y30)) (i := y2) (off := 0) (u := gt y1 y3) (fun _ => ch1) rfl rfl rfl hA4 .h T30 c4.1 c4.2 rfl (show 0 + 27 ≤ (Y30).size by decide) rfl (fun _ => rfl) fun w S => ?_))))
      refine h_back ⟨fun h => (nomatch h), ?_⟩
      refine h_done ?_; clear CL hw le
      refine x_thenN ?_
      exact j1 _ a w (S.sb rfl (.c0 (.c0 .n))) h4
     exact h_nil
    exact h_nil
   refine h_runO S rfl trivial ?_ ?_
   ·refine s_iaddrO S (ty' := (Ty.atZ ch_0_3 Y30)) rfl .h rfl underlying32 T30 c3.1 c3.2 rfl fun g1 a hA1 S => CL.bk hw S .nil le fun hw => h_alts ?_
    refine h_runO S rfl trivial ?_ ?_
    ·refine s_iaddrO S (ty' := (Ty.atZ ch_0_3 Y30)) rfl .h rfl underlying32 T30 c2.1 c2.2 rfl fun g2 a hA2 S => CL.bk hw S .nil le fun hw => h_alts ?_
     refine h_runO S rfl trivial ?_ ?_
     ·refine s_ldRA S (ty' := (Ty.atZ ch_0_3 Y30)) (i := y2) (off := 0) (fun c => ((Ty.atZ ch_0_3 Y30).segs (gt y1 y2) c)) rfl hA2 .h T30 c2.1 c2.2 rfl (fun _ => rfl) rfl fun ch1 a S => ?_
      refine CL.br hw S .nil le rfl trivial fun hw => (s_ldRA S (ty' := (Ty.atZ ch_0_3 Y30)) (i := y3) (off := 0) (fun c => ((Ty.atZ ch_0_3 Y30).segs (gt y1 y3) c)) rfl hA1 .h T30 c3.1 c3.2 rfl (fun _ => rfl) rfl fun ch2 a S => ?_)
      refine CL.br hw S .nil le rfl trivial fun hw => (s_iaddrO S (ty' := (Ty.atZ ch_0_3 Y30)) rfl .h rfl underlying32 T30 c3.1 c3.2 rfl fun g3 a hA3 S => CL.br hw S .nil le rfl trivial fun hw => (s_stR S (ty' := (Ty.atZ ch_0_3 Y30)) (i := y3) (off := 0) (u := gt y1 y2) (fun _ => ch1) rfl rfl rfl hA3 .h T30 c3.1 c3.2 rfl (show 0 + 27 ≤ (Y30).size by decide) rfl (fun _ => rfl) fun w S => CL.br hw S .nil le rfl trivial fun hw => (s_iaddrO S (ty' := (Ty.atZ ch_0_3 Y30)) rfl .h rfl underlying32 T30 c4.1 c4.2 rfl fun g4 a hA4 S => CL.br hw S .nil le rfl trivial fun hw => (s_stR S (ty' := (Ty.atZ ch_0_3 Y30)) (i := y2) (off := 0) (u := gt y1 y3) (fun _ => ch2) rfl rfl rfl hA4 .h T30 c4.1 c4.2 rfl (show 0 + 27 ≤ (Y30).size by decide) rfl (fun _ => rfl) fun w S => ?_))))
      refine h_back ⟨fun h => (nomatch h), ?_⟩
      refine h_done ?_; clear CL hw le
      refine x_thenN ?_
      exact j1 _ a w (S.sb rfl (.c0 (.c0 .n))) h4
     refine h_runO S rfl trivial ?_ ?_
     ·refine s_ldRA S (ty' := (Ty.atZ ch_0_3 Y30)) (i := y3) (off := 0) (fun c => ((Ty.atZ ch_0_3 Y30).segs (gt y1 y3) c)) rfl hA1 .h T30 c3.1 c3.2 rfl (fun _ => rfl) rfl fun ch1 a S => ?_
      refine CL.br hw S .nil le rfl trivial fun hw => (s_ldRA S (ty' := (Ty.atZ ch_0_3 Y30)) (i := y2) (off := 0) (fun c => ((Ty.atZ ch_0_3 Y30).segs (gt y1 y2) c)) rfl hA2 .h T30 c2.1 c2.2 rfl (fun _ => rfl) rfl fun ch2 a S => ?_)
      refine CL.br hw S .nil le rfl trivial fun hw => (s_iaddrO S (ty' := (Ty.atZ ch_0_3 Y30)) rfl .h rfl underlying32 T30 c3.1 c3.2 rfl fun g3 a hA3 S => CL.br hw S .nil le rfl trivial fun hw => (s_stR S (ty' := (Ty.atZ ch_0_3 Y30)) (i := y3) (off := 0) (u := gt y1 y2) (fun _ => ch2) rfl rfl rfl hA3 .h T30 c3.1 c3.2 rfl (show 0 + 27 ≤ (Y30).size by decide) rfl (fun _ => rfl) fun w S => CL.br hw S .nil le rfl trivial fun hw => (s_iaddrO S (ty' := (Ty.atZ ch_0_3 Y30)) rfl .h rfl underlying32 T30 c4.1 c4.2 rfl fun g4 a hA4 S => CL.br hw S .nil le rfl trivial fun hw => (s_stR S (ty' := (Ty.atZ ch_0_3 Y30)) (i := y2) (off := 0) (u := gt y1 y3) (fun _ => ch1) rfl rfl rfl hA4 .h T30 c4.1 c4.2 rfl (show 0 + 27 ≤ (Y30).size by decide) rfl (fun _ => rfl) fun w S => ?_))))
      refine h_back ⟨fun h => (nomatch h), ?_⟩
      refine h_done ?_; clear CL hw le
      refine x_thenN ?_
      exact j1 _ a w (S.sb rfl (.c0 (.c0 .n))) h4
     exact h_nil
    refine h_runO S rfl trivial ?_ ?_
    ·refine s_ldRA S (ty' := (Ty.atZ ch_0_3 Y30)) (i := y3) (off := 0) (fun c => ((Ty.atZ ch_0_3 Y30).segs (gt y1 y3) c)) rfl hA1 .h T30 c3.1 c3.2 rfl (fun _ => rfl) rfl fun ch1 a S => ?_
     refine CL.br hw S .nil le rfl trivial fun hw => (s_iaddrO S (ty' := (Ty.atZ ch_0_3 Y30)) rfl .h rfl underlying32 T30 c2.1 c2.2 rfl fun g2 a hA2 S => CL.br hw S .nil le rfl trivial fun hw => (s_ldRA S (ty' := (Ty.atZ ch_0_3 Y30)) (i := y2) (off := 0) (fun c => ((Ty.atZ ch_0_3 Y30).segs (gt y1 y2) c)) rfl hA2 .h T30 c2.1 c2.2 rfl (fun _ => rfl) rfl fun ch2 a S => ?_))
     refine CL.br hw S .nil le rfl trivial fun hw => (s_iaddrO S (ty' := (Ty.atZ ch_0_3 Y30)) rfl .h rfl underlying32 T30 c3.1 c3.2 rfl fun g3 a hA3 S => CL.br hw S .nil le rfl trivial fun hw => (s_stR S (ty' := (Ty.atZ ch_0_3 Y30)) (i := y3) (off := 0) (u := gt y1 y2) (fun _ => ch2) rfl rfl rfl hA3 .h T30 c3.1 c3.2 rfl (show 0 + 27 ≤ (Y30).size by decide) rfl (fun _ => rfl) fun w S => CL.br hw S .nil le rfl trivial fun hw => (s_iaddrO S (ty' := (Ty.atZ ch_0_3 Y30)) rfl .h rfl underlying32 T30 c4.1 c4.2 rfl fun g4 a hA4 S => CL.br hw S .nil le rfl trivial fun hw => (s_stR S (ty' := (Ty.atZ ch_0_3 Y30)) (i := y2) (off := 0) (u := gt y1 y3) (fun _ => ch1) rfl rfl rfl hA4 .h T30 c4.1 c4.2 rfl (show 0 + 27 ≤ (Y30).size by decide) rfl (fun _ => rfl) fun w S => ?_))))
     refine h_back ⟨fun h => (nomatch h), ?_⟩
     refine h_done ?_; clear CL hw le
     refine x_thenN ?_
     exact j1 _ a w (S.sb rfl (.c0 (.c0 .n))) h4
    exact h_nil
   exact h_nil
  ·refine c_condF S rfl c1 (wp_exit (x_thenX (x_thenX (x_blockX (b_end ?_)))))
   obtain rfl := Option.some.inj h1
   exact b_ret0 S rfl (S.retX (Hx := []) hb _ _ (() : Unit) (.c0 (.c0 .n)) trivial)
end
end GW
