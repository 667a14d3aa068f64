import Derived.Test.YtmidfllhoogifaaProg
import Derived.Test.YtmidfllhoogifaaGD
set_option linter.unusedVariables false
set_option linter.unusedSimpArgs false
set_option maxRecDepth 10000
set_option maxHeartbeats 4000000
namespace GW
open Go Go.RowKit Go.Proofs Go.Proofs.Try
noncomputable section
abbrev api_Account_n56_0z_4f35.Ty : Type := (List L30) → Int → Int → Int → Option (Int × (List L30))
def api_Account_n56_0z_4f35.Ctr (s : api_Account_n56_0z_4f35.Ty) : Prop := ∀ (x1 : List L30) (x2 : Int) (x3 : Int) (x4 : Int) (ch_0_0 : Option Addr) (ch_0_1 : Nat) (ch_0_2 : Nat) (ch_0_3 : Mem) (r : Int × (List L30)), Ct (C := Unit) Try.prog 56 (s x1 x2 x3 x4 = some r) [Res.row (Ty.atZ ch_0_3 Y30) 30 ch_0_0 ch_0_1 ch_0_2 x1, Res.priv ch_0_3] [(.s ch_0_0 ch_0_1 ch_0_2), (.i x2), (.i x3), (.i x4), (.v (.func (.func 35) #[] #[]))] (fun _ => (.i r.1)) fun _ => [Res.row (Ty.atZ ch_0_3 Y30) 30 ch_0_0 ch_0_1 ch_0_2 r.2, Res.priv ch_0_3]
def api_Account_n56_0z_4f35.j2 (y1 : List L30) (y2 : Int) : Option (Int × (List L30)) := some (y2, y1)
def api_Account_n56_0z_4f35.j5 (y30 : List L30) (rec1 : (List L30) → Int → Int → Option (Int × (List L30))) (y38 : Int) (y44 : Int) : Option (Int × (List L30)) := rec1 ((y30.set (Int.toNat y38) (gt y30 y44)).set (Int.toNat y44) (gt y30 y38)) (wr .i64 (y44 - 1)) (wr .i64 (y38 + 1))
def api_Account_n56_0z_4f35.j4 (y30 : List L30) (rec1 : (List L30) → Int → Int → Option (Int × (List L30))) (y38 : Int) (y44 : Int) : Option (Int × (List L30)) := if (decide (y44 < y38)) = true then (api_Account_n56_0z_4f35.j2 y30 y38) else (if (0 : Int) ≤ y44 ∧ y44 < ((y30).length : Int) then (if (0 : Int) ≤ y38 ∧ y38 < ((y30).length : Int) then (if (0 : Int) ≤ y44 ∧ y44 < ((y30.set (Int.toNat y38) (gt y30 y44)).length : Int) then (api_Account_n56_0z_4f35.j5 y30 rec1 y38 y44) else none) else none) else none)
def api_Account_n56_0z_4f35.j6 (y30 : List L30) (rec1 : (List L30) → Int → Int → Option (Int × (List L30))) (y38 : Int) (y48 : Int) (rec2 : Int → Option (Int × (List L30))) (y49 : Bool) : Option (Int × (List L30)) := if y49 = true then (rec2 (wr .i64 (y48 - 1))) else (api_Account_n56_0z_4f35.j4 y30 rec1 y38 y48)
def api_Account_n56_0z_4f35.b2 (x2 : Int) (y30 : List L30) (rec1 : (List L30) → Int → Int → Option (Int × (List L30))) (y38 : Int) (rec2 : Int → Option (Int × (List L30))) (y48 : Int) : Option (Int × (List L30)) := if (decide (y38 ≤ y48)) = true then (if (0 : Int) ≤ x2 ∧ x2 < ((y30).length : Int) then (if (0 : Int) ≤ y48 ∧ y48 < ((y30).length : Int) then ((store_Store_All_1.f (gt y30 x2) (gt y30 y48)).bind fun t1 => (api_Account_n56_0z_4f35.j6 y30 rec1 y38 y48 rec2 (decide (t1 < 0)))) else none) else none) else (api_Account_n56_0z_4f35.j6 y30 rec1 y38 y48 rec2 false)
def api_Account_n56_0z_4f35.l2 (x2 : Int) (y30 : List L30) (rec1 : (List L30) → Int → Int → Option (Int × (List L30))) (y38 : Int) : Nat → Int → Option (Int × (List L30))
  | 0, _ => none
  | q + 1, y48 => api_Account_n56_0z_4f35.b2 x2 y30 rec1 y38 (api_Account_n56_0z_4f35.l2 x2 y30 rec1 y38 q) y48
def api_Account_n56_0z_4f35.j3 (k : Nat) (x2 : Int) (y30 : List L30) (y31 : Int) (rec1 : (List L30) → Int → Int → Option (Int × (List L30))) (y38 : Int) : Option (Int × (List L30)) := api_Account_n56_0z_4f35.l2 x2 y30 rec1 y38 k y31
def api_Account_n56_0z_4f35.j7 (k : Nat) (x2 : Int) (y30 : List L30) (y31 : Int) (rec1 : (List L30) → Int → Int → Option (Int × (List L30))) (y53 : Int) (rec3 : Int → Option (Int × (List L30))) (y54 : Bool) : Option (Int × (List L30)) := if y54 = true then (rec3 (wr .i64 (y53 + 1))) else (api_Account_n56_0z_4f35.j3 k x2 y30 y31 rec1 y53)
def api_Account_n56_0z_4f35.b3 (k : Nat) (x2 : Int) (y30 : List L30) (y31 : Int) (rec1 : (List L30) → Int → Int → Option (Int × (List L30))) (rec3 : Int → Option (Int × (List L30))) (y53 : Int) : Option (Int × (List L30)) := if (decide (y53 ≤ y31)) = true then (if (0 : Int) ≤ x2 ∧ x2 < ((y30).length : Int) then (if (0 : Int) ≤ y53 ∧ y53 < ((y30).length : Int) then ((store_Store_All_1.f (gt y30 x2) (gt y30 y53)).bind fun t3 => (api_Account_n56_0z_4f35.j7 k x2 y30 y31 rec1 y53 rec3 (!(decide (t3 < 0))))) else none) else none) else (api_Account_n56_0z_4f35.j7 k x2 y30 y31 rec1 y53 rec3 false)
def api_Account_n56_0z_4f35.l3 (k : Nat) (x2 : Int) (y30 : List L30) (y31 : Int) (rec1 : (List L30) → Int → Int → Option (Int × (List L30))) : Nat → Int → Option (Int × (List L30))
  | 0, _ => none
  | q + 1, y53 => api_Account_n56_0z_4f35.b3 k x2 y30 y31 rec1 (api_Account_n56_0z_4f35.l3 k x2 y30 y31 rec1 q) y53
def api_Account_n56_0z_4f35.b1 (k : Nat) (x2 : Int) (rec1 : (List L30) → Int → Int → Option (Int × (List L30))) (y30 : List L30) (y31 : Int) (y32 : Int) : Option (Int × (List L30)) := api_Account_n56_0z_4f35.l3 k x2 y30 y31 rec1 k y32
def api_Account_n56_0z_4f35.l1 (k : Nat) (x2 : Int) : Nat → (List L30) → Int → Int → Option (Int × (List L30))
  | 0, _, _, _ => none
  | q + 1, y30, y31, y32 => api_Account_n56_0z_4f35.b1 k x2 (api_Account_n56_0z_4f35.l1 k x2 q) y30 y31 y32
def api_Account_n56_0z_4f35.j1 (k : Nat) (x1 : List L30) (x2 : Int) (x3 : Int) (x4 : Int) : Option (Int × (List L30)) := api_Account_n56_0z_4f35.l1 k x2 k ((x1.set (Int.toNat x2) (gt x1 x4)).set (Int.toNat x4) (gt x1 x2)) (wr .i64 (x3 - 1)) (wr .i64 (x2 + 1))
def api_Account_n56_0z_4f35.f (k : Nat) (x1 : List L30) (x2 : Int) (x3 : Int) (x4 : Int) : Option (Int × (List L30)) := if (0 : Int) ≤ x4 ∧ x4 < ((x1).length : Int) then (if (0 : Int) ≤ x2 ∧ x2 < ((x1).length : Int) then (if (0 : Int) ≤ x4 ∧ x4 < ((x1.set (Int.toNat x2) (gt x1 x4)).length : Int) then (api_Account_n56_0z_4f35.j1 k x1 x2 x3 x4) else none) else none) else none
theorem api_Account_n56_0z_4f35.ok (k : Nat) : api_Account_n56_0z_4f35.Ctr (api_Account_n56_0z_4f35.f k) := by
 intro x1 x2 x3 x4 ch_0_0 ch_0_1 ch_0_2 ch_0_3 r h0 mi w0 ok hm
 delta api_Account_n56_0z_4f35.f at h0
 refine c_enterZ (n := 90) ok hm func56 rfl rfl rfl fun b0 hb a S => c_region (s_assign S rfl rfl fun a S => c_end (wp_seq_k fun K1 hK1 => ?_))
 have j1 : ∀ m a w, St 90 m b0 [(0, (.s ch_0_0 ch_0_1 ch_0_2)), (1, (.i x2)), (2, (.i x3)), (4, (.v (.func (.func 35) #[] #[])))] [Res.row (Ty.atZ ch_0_3 Y30) 30 ch_0_0 ch_0_1 ch_0_2 ((x1.set (Int.toNat x2) (gt x1 x4)).set (Int.toNat x4) (gt x1 x2)), Res.priv ch_0_3] a w → api_Account_n56_0z_4f35.j1 k x1 x2 x3 x4 = some r → K1 a w := by
  intro m a w S h0
  delta api_Account_n56_0z_4f35.j1 at h0
  refine hK1 a w (c_region (s_move S rfl rfl fun a S => s_bin S rfl rfl rfl rfl fun a S => s_move S rfl rfl fun a S => s_bin S rfl rfl rfl rfl fun a S => s_assign S rfl rfl fun a S => s_assign S rfl rfl fun a S => c_end (wp_seq_k fun K2 hK2 => ?_)))
  have j2 : ∀ m y1 y2 a w, St 90 m b0 [(11, (.i y2))] [Res.row (Ty.atZ ch_0_3 Y30) 30 ch_0_0 ch_0_1 ch_0_2 y1, Res.priv ch_0_3] a w → api_Account_n56_0z_4f35.j2 y1 y2 = some r → K2 a w := by
   intro m y1 y2 a w S h0
   delta api_Account_n56_0z_4f35.j2 at h0
   refine hK2 a w (c_region (s_move S rfl rfl fun a S => s_assign S rfl rfl fun a S => c_end (wp_ret ?_)))
   obtain rfl := Option.some.inj h0
   exact b_ret1 (d := (.i y2)) S rfl rfl fun ok => S.retX (Hx := []) hb _ _ (() : Unit) (.c0 (.c0 .n)) ok
  refine wp_block ?_
  refine c_loop (fun q1 a w => ∃ m y30 y31 y32, St 90 m b0 [(12, (.i y31)), (11, (.i y32)), (0, (.s ch_0_0 ch_0_1 ch_0_2)), (1, (.i x2)), (4, (.v (.func (.func 35) #[] #[])))] [Res.row (Ty.atZ ch_0_3 Y30) 30 ch_0_0 ch_0_1 ch_0_2 y30, Res.priv ch_0_3] a w ∧ api_Account_n56_0z_4f35.l1 k x2 q1 y30 y31 y32 = some r) ?_ ?_ (k := k) ⟨_, ((x1.set (Int.toNat x2) (gt x1 x4)).set (Int.toNat x4) (gt x1 x2)), (wr .i64 (x3 - 1)), (wr .i64 (x2 + 1)), (S.sb rfl (.c0 (.c0 .n))), h0⟩
  ·rintro a w ⟨m, y30, y31, y32, S, h0⟩
   exact (nomatch (show (none : Option (Int × (List L30))) = some r from h0))
  ·clear S h0
   rintro q1 a w ⟨m, y30, y31, y32, S, h0⟩
   replace h0 : api_Account_n56_0z_4f35.b1 k x2 (api_Account_n56_0z_4f35.l1 k x2 q1) y30 y31 y32 = some r := h0
   delta api_Account_n56_0z_4f35.b1 at h0
   refine wp_block (wp_seq_k fun K3 hK3 => ?_)
   have j3 : ∀ m y38 a w, St 90 m b0 [(12, (.i y31)), (11, (.i y38)), (0, (.s ch_0_0 ch_0_1 ch_0_2)), (1, (.i x2)), (4, (.v (.func (.func 35) #[] #[])))] [Res.row (Ty.atZ ch_0_3 Y30) 30 ch_0_0 ch_0_1 ch_0_2 y30, Res.priv ch_0_3] a w → api_Account_n56_0z_4f35.j3 k x2 y30 y31 (api_Account_n56_0z_4f35.l1 k x2 q1) y38 = some r → K3 a w := by
    intro m y38 a w S h0
    delta api_Account_n56_0z_4f35.j3 at h0
    refine hK3 a w (wp_seq_k fun K4 hK4 => ?_)
    have j4 : ∀ m y44 a w, St 90 m b0 [(12, (.i y44)), (11, (.i y38)), (0, (.s ch_0_0 ch_0_1 ch_0_2)), (1, (.i x2)), (4, (.v (.func (.func 35) #[] #[])))] [Res.row (Ty.atZ ch_0_3 Y30) 30 ch_0_0 ch_0_1 ch_0_2 y30, Res.priv ch_0_3] a w → api_Account_n56_0z_4f35.j4 y30 (api_Account_n56_0z_4f35.l1 k x2 q1) y38 y44 = some r → K4 a w := by
     intro m y44 a w S h0
     delta api_Account_n56_0z_4f35.j4 at h0
     refine hK4 a w (wp_seq (c_region (s_move S rfl rfl fun a S => s_move S rfl rfl fun a S => s_bin S rfl rfl rfl rfl fun a S => c_end ?_)))
     rcases ite_of h0 with ⟨c1, h1⟩ | ⟨c1, h1⟩
     ·refine c_condT S rfl c1 (wp_exit (x_thenX (x_blockO (by decide) (x_thenX (x_blockX (x_thenN ?_))))))
      exact j2 _ y30 y38 a w (S.sub ⟨rfl, trivial⟩ (.c0 (.c0 .n))) h1
     ·refine c_condF S rfl c1 (wp_skip (x_thenN (wp_seq_k fun K5 hK5 => ?_)))
      have j5 : ∀ m a w, St 90 m b0 [(12, (.i y44)), (11, (.i y38)), (0, (.s ch_0_0 ch_0_1 ch_0_2)), (1, (.i x2)), (4, (.v (.func (.func 35) #[] #[])))] [Res.row (Ty.atZ ch_0_3 Y30) 30 ch_0_0 ch_0_1 ch_0_2 ((y30.set (Int.toNat y38) (gt y30 y44)).set (Int.toNat y44) (gt y30 y38)), Res.priv ch_0_3] a w → api_Account_n56_0z_4f35.j5 y30 (api_Account_n56_0z_4f35.l1 k x2 q1) y38 y44 = some r → K5 a w := by
       intro m a w S h0
       delta api_Account_n56_0z_4f35.j5 at h0
       refine hK5 a w (c_region (s_move S rfl rfl fun a S => s_bin S rfl rfl rfl rfl fun a S => s_assign S rfl rfl fun a S => c_end (c_region' (s_move S rfl rfl fun a S => s_bin S rfl rfl rfl rfl fun a S => s_assign S rfl rfl fun a S => c_end' (x_blockN (x_thenN ?_))))))
       exact ⟨_, ((y30.set (Int.toNat y38) (gt y30 y44)).set (Int.toNat y44) (gt y30 y38)), (wr .i64 (y44 - 1)), (wr .i64 (y38 + 1)), (S.sb rfl (.c0 (.c0 .n))), h0⟩
      refine c_heldS S (.take 0 (.take 1 (.take 2 (.take 3 (.take 4 (.take 5 (.take 8 (.take 9 (.alts (.run 6 true (.alts (.run 7 true (.alts (.run 10 true (.alts (.run 11 true (.alts (.run 12 true (.alts (.run 13 true (.alts (.run 14 true (.alts (.run 15 false .done .nil)) .nil)) .nil)) .nil)) .nil)) .nil)) (.run 10 true (.alts (.run 7 true (.alts (.run 11 true (.alts (.run 12 true (.alts (.run 13 true (.alts (.run 14 true (.alts (.run 15 false .done .nil)) .nil)) .nil)) .nil)) .nil)) (.run 11 true (.alts (.run 7 true (.alts (.run 12 true (.alts (.run 13 true (.alts (.run 14 true (.alts (.run 15 false .done .nil)) .nil)) .nil)) .nil)) .nil)) .nil))) .nil))) (.run 10 true (.alts (.run 6 true (.alts (.run 7 true (.alts (.run 11 true (.alts (.run 12 true (.alts (.run 13 true (.alts (.run 14 true (.alts (.run 15 false .done .nil)) .nil)) .nil)) .nil)) .nil)) (.run 11 true (.alts (.run 7 true (.alts (.run 12 true (.alts (.run 13 true (.alts (.run 14 true (.alts (.run 15 false .done .nil)) .nil)) .nil)) .nil)) .nil)) .nil))) (.run 11 true (.alts (.run 6 true (.alts (.run 7 true (.alts (.run 12 true (.alts (.run 13 true (.alts (.run 14 true (.alts (.run 15 false .done .nil)) .nil)) .nil)) .nil)) .nil)) .nil)) .nil))) .nil))))))))))) 15 [] .nil trivial [(12, (.i y44)), (11, (.i y38)), (0, (.s ch_0_0 ch_0_1 ch_0_2))] (subR rfl) (by kernel_rfl) (by kernel_rfl) fun w S CL hw le => ?_
      refine h_move S CL hw le (subR rfl) rfl rfl rfl trivial fun a S CL => h_move S CL hw le (subR rfl) rfl rfl rfl trivial fun a S CL => h_move S CL hw le (subR rfl) rfl rfl rfl trivial fun a S CL => h_move S CL hw le (subR rfl) rfl rfl rfl trivial fun a S CL => h_move S CL hw le (subR rfl) rfl rfl rfl trivial fun a S CL => h_move S CL hw le (subR rfl) rfl rfl rfl trivial fun a S CL => h_move S CL hw le (subR rfl) rfl rfl rfl trivial fun a S CL => h_move S CL hw le (subR rfl) rfl rfl rfl trivial fun a S CL => ?_
      obtain ⟨c2, h2⟩ := chk_of h1; clear h1
      obtain ⟨c3, h3⟩ := chk_of h2; clear h2
      obtain ⟨c4, h4⟩ := chk_of h3; clear h3
      refine h_alts ?_
      refine h_runO S rfl trivial ?_ ?_
      ·refine s_iaddrO S (ty' := (Ty.atZ ch_0_3 Y30)) rfl .h rfl underlying32 T30 c2.1 c2.2 rfl fun g1 a hA1 S => CL.bk hw S .nil le fun hw => h_alts ?_
       refine h_runO S rfl trivial ?_ ?_
       ·refine s_ldRA S (ty' := (Ty.atZ ch_0_3 Y30)) (i := y44) (off := 0) (fun c => ((Ty.atZ ch_0_3 Y30).segs (gt y30 y44) c)) rfl hA1 .h T30 c2.1 c2.2 rfl (fun _ => rfl) rfl fun ch1 a S => ?_
        refine CL.br hw S .nil le rfl trivial fun hw => (s_iaddrO S (ty' := (Ty.atZ ch_0_3 Y30)) rfl .h rfl underlying32 T30 c3.1 c3.2 rfl fun g2 a hA2 S => CL.br hw S .nil le rfl trivial fun hw => (s_ldRA S (ty' := (Ty.atZ ch_0_3 Y30)) (i := y38) (off := 0) (fun c => ((Ty.atZ ch_0_3 Y30).segs (gt y30 y38) c)) rfl hA2 .h T30 c3.1 c3.2 rfl (fun _ => rfl) rfl fun ch2 a S => ?_))
        refine CL.br hw S .nil le rfl trivial fun hw => (s_iaddrO S (ty' := (Ty.atZ ch_0_3 Y30)) rfl .h rfl underlying32 T30 c3.1 c3.2 rfl fun g3 a hA3 S => CL.br hw S .nil le rfl trivial fun hw => (s_stR S (ty' := (Ty.atZ ch_0_3 Y30)) (i := y38) (off := 0) (u := gt y30 y44) (fun _ => ch1) rfl rfl rfl hA3 .h T30 c3.1 c3.2 rfl (show 0 + 27 ≤ (Y30).size by decide) rfl (fun _ => rfl) fun w S => CL.br hw S .nil le rfl trivial fun hw => (s_iaddrO S (ty' := (Ty.atZ ch_0_3 Y30)) rfl .h rfl underlying32 T30 c4.1 c4.2 rfl fun g4 a hA4 S => CL.br hw S .nil le rfl trivial fun hw => (s_stR S (ty' := (Ty.atZ ch_0_3 Y30)) (i := y44) (off := 0) (u := gt y30 y38) (fun _ => ch2) rfl rfl rfl hA4 .h T30 c4.1 c4.2 rfl (show 0 + 27 ≤ (Y30).size by decide) rfl (fun _ => rfl) fun w S => ?_))))
        refine h_back ⟨fun h => (nomatch h), ?_⟩
        refine h_done ?_; clear CL hw le
        refine x_thenN ?_
        exact j5 _ a w (S.sb rfl (.c0 (.c0 .n))) h4
       refine h_runO S rfl trivial ?_ ?_
       ·refine s_iaddrO S (ty' := (Ty.atZ ch_0_3 Y30)) rfl .h rfl underlying32 T30 c3.1 c3.2 rfl fun g2 a hA2 S => CL.bk hw S .nil le fun hw => h_alts ?_
        refine h_runO S rfl trivial ?_ ?_
        ·refine s_ldRA S (ty' := (Ty.atZ ch_0_3 Y30)) (i := y44) (off := 0) (fun c => ((Ty.atZ ch_0_3 Y30).segs (gt y30 y44) c)) rfl hA1 .h T30 c2.1 c2.2 rfl (fun _ => rfl) rfl fun ch1 a S => ?_
         refine CL.br hw S .nil le rfl trivial fun hw => (s_ldRA S (ty' := (Ty.atZ ch_0_3 Y30)) (i := y38) (off := 0) (fun c => ((Ty.atZ ch_0_3 Y30).segs (gt y30 y38) c)) rfl hA2 .h T30 c3.1 c3.2 rfl (fun _ => rfl) rfl fun ch2 a S => ?_)
         refine CL.br hw S .nil le rfl trivial fun hw => (s_iaddrO S (ty' := (Ty.atZ ch_0_3 Y30)) rfl .h rfl underlying32 T30 c3.1 c3.2 rfl fun g3 a hA3 S => CL.br hw S .nil le rfl trivial fun hw => (s_stR S (ty' := (Ty.atZ ch_0_3 Y30)) (i := y38) (off := 0) (u := gt y30 y44) (fun _ => ch1) rfl rfl rfl hA3 .h T30 c3.1 c3.2 rfl (show 0 + 27 ≤ (Y30).size by decide) rfl (fun _ => rfl) fun w S => CL.br hw S .nil le rfl trivial fun hw => (s_iaddrO S (ty' := (Ty.atZ ch_0_3 Y30)) rfl .h rfl underlying32 T30 c4.1 c4.2 rfl fun g4 a hA4 S => CL.br hw S .nil le rfl trivial fun hw => (s_stR S (ty' := (Ty.atZ ch_0_3 Y30)) (i := y44) (off := 0) (u := gt y30 y38) (fun _ => ch2) rfl rfl rfl hA4 .h T30 c4.1 c4.2 rfl (show 0 + 27 ≤ (Y30).size by decide) rfl (fun _ => rfl) fun w S => ?_))))
         refine h_back ⟨fun h => (nomatch h), ?_⟩
         refine h_done ?_; clear CL hw le
         refine x_thenN ?_
         exact j5 _ a w (S.sb rfl (.c0 (.c0 .n))) h4
        refine h_runO S rfl trivial ?_ ?_
        ·refine s_ldRA S (ty' := (Ty.atZ ch_0_3 Y30)) (i := y38) (off := 0) (fun c => ((Ty.atZ ch_0_3 Y30).segs (gt y30 y38) c)) rfl hA2 .h T30 c3.1 c3.2 rfl (fun _ => rfl) rfl fun ch1 a S => ?_
         refine CL.br hw S .nil le rfl trivial fun hw => (s_ldRA S (ty' := (Ty.atZ ch_0_3 Y30)) (i := y44) (off := 0) (fun c => ((Ty.atZ ch_0_3 Y30).segs (gt y30 y44) c)) rfl hA1 .h T30 c2.1 c2.2 rfl (fun _ => rfl) rfl fun ch2 a S => ?_)
         refine CL.br hw S .nil le rfl trivial fun hw => (s_iaddrO S (ty' := (Ty.atZ ch_0_3 Y30)) rfl .h rfl underlying32 T30 c3.1 c3.2 rfl fun g3 a hA3 S => CL.br hw S .nil le rfl trivial fun hw => (s_stR S (ty' := (Ty.atZ ch_0_3 Y30)) (i := y38) (off := 0) (u := gt y30 y44) (fun _ => ch2) rfl rfl rfl hA3 .h T30 c3.1 c3.2 rfl (show 0 + 27 ≤ (Y30).size by decide) rfl (fun _ => rfl) fun w S => CL.br hw S .nil le rfl trivial fun hw => (s_iaddrO S (ty' := (Ty.atZ ch_0_3 Y30)) rfl .h rfl underlying32 T30 c4.1 c4.2 rfl fun g4 a hA4 S => CL.br hw S .nil le rfl trivial fun hw => (s_stR S (ty' := (Ty.atZ ch_0_3 Y30)) (i := y44) (off := 0) (u := gt y30 y38) (fun _ => ch1) rfl rfl rfl hA4 .h T30 c4.1 c4.2 rfl (show 0 + 27 ≤ (Y30).size by decide) rfl (fun _ => rfl) fun w S => ?_))))
         refine h_back ⟨fun h => (nomatch h), ?_⟩
         refine h_done ?_; clear CL hw le
         refine x_thenN ?_
         exact j5 _ a w (S.sb rfl (.c0 (.c0 .n))) h4
        exact h_nil
       exact h_nil
      refine h_runO S rfl trivial ?_ ?_
      ·refine s_iaddrO S (ty' := (Ty.atZ ch_0_3 Y30)) rfl .h rfl underlying32 T30 c3.1 c3.2 rfl fun g1 a hA1 S => CL.bk hw S .nil le fun hw => h_alts ?_
       refine h_runO S rfl trivial ?_ ?_
       ·refine s_iaddrO S (ty' := (Ty.atZ ch_0_3 Y30)) rfl .h rfl underlying32 T30 c2.1 c2.2 rfl fun g2 a hA2 S => CL.bk hw S .nil le fun hw => h_alts ?_
        refine h_runO S rfl trivial ?_ ?_
        ·refine s_ldRA S (ty' := (Ty.atZ ch_0_3 Y30)) (i := y44) (off := 0) (fun c => ((Ty.atZ ch_0_3 Y30).segs (gt y30 y44) c)) rfl hA2 .h T30 c2.1 c2.2 rfl (fun _ => rfl) rfl fun ch1 a S => ?_
         refine CL.br hw S .nil le rfl trivial fun hw => (s_ldRA S (ty' := (Ty.atZ ch_0_3 Y30)) (i := y38) (off := 0) (fun c => ((Ty.atZ ch_0_3 Y30).segs (gt y30 y38) c)) rfl hA1 .h T30 c3.1 c3.2 rfl (fun _ => rfl) rfl fun ch2 a S => ?_)
         refine CL.br hw S .nil le rfl trivial fun hw => (s_iaddrO S (ty' := (Ty.atZ ch_0_3 Y30)) rfl .h rfl underlying32 T30 c3.1 c3.2 rfl fun g3 a hA3 S => CL.br hw S .nil le rfl trivial fun hw => (s_stR S (ty' := (Ty.atZ ch_0_3 Y30)) (i := y38) (off := 0) (u := gt y30 y44) (fun _ => ch1) rfl rfl rfl hA3 .h T30 c3.1 c3.2 rfl (show 0 + 27 ≤ (Y30).size by decide) rfl (fun _ => rfl) fun w S => CL.br hw S .nil le rfl trivial fun hw => (s_iaddrO S (ty' := (Ty.atZ ch_0_3 Y30)) rfl .h rfl underlying32 T30 c4.1 c4.2 rfl fun g4 a hA4 S => CL.br hw S .nil le rfl trivial fun hw => (s_stR S (ty' := (Ty.atZ ch_0_3 Y30)) (i := y44) (off := 0) (u := gt y30 y38) (fun _ => ch2) rfl rfl rfl hA4 .h T30 c4.1 c4.2 rfl (show 0 + 27 ≤ (Y30).size by decide) rfl (fun _ => rfl) fun w S => ?_))))
         refine h_back ⟨fun h => (nomatch h), ?_⟩
         refine h_done ?_; clear CL hw le
         refine x_thenN ?_
         exact j5 _ a w (S.sb rfl (.c0 (.c0 .n))) h4
        refine h_runO S rfl trivial ?_ ?_
        ·refine s_ldRA S (ty' := (Ty.atZ ch_0_3 Y30)) (i := y38) (off := 0) (fun c => ((Ty.atZ ch_0_3 Y30).segs (gt y30 y38) c)) rfl hA1 .h T30 c3.1 c3.2 rfl (fun _ => rfl) rfl fun ch1 a S => ?_
         refine CL.br hw S .nil le rfl trivial fun hw => (s_ldRA S (ty' := (Ty.atZ ch_0_3 Y30)) (i := y44) (off := 0) (fun c => ((Ty.atZ ch_0_3 Y30).segs (gt y30 y44) c)) rfl hA2 .h T30 c2.1 c2.2 rfl (fun _ => rfl) rfl fun ch2 a S => ?_)
         refine CL.br hw S .nil le rfl trivial fun hw => (s_iaddrO S (ty' := (Ty.atZ ch_0_3 Y30)) rfl .h rfl underlying32 T30 c3.1 c3.2 rfl fun g3 a hA3 S => CL.br hw S .nil le rfl trivial fun hw => (s_stR S (ty' := (Ty.atZ ch_0_3 Y30)) (i := y38) (off := 0) (u := gt y30 y44) (fun _ => ch2) rfl rfl rfl hA3 .h T30 c3.1 c3.2 rfl (show 0 + 27 ≤ (Y30).size by decide) rfl (fun _ => rfl) fun w S => CL.br hw S .nil le rfl trivial fun hw => (s_iaddrO S (ty' := (Ty.atZ ch_0_3 Y30)) rfl .h rfl underlying32 T30 c4.1 c4.2 rfl fun g4 a hA4 S => CL.br hw S .nil le rfl trivial fun hw => (s_stR S (ty' := (Ty.atZ ch_0_3 Y30)) (i := y44) (off := 0) (u := gt y30 y38) (fun _ => ch1) rfl rfl rfl hA4 .h T30 c4.1 c4.2 rfl (show 0 + 27 ≤ (Y30).size by decide) rfl (fun _ => rfl) fun w S => ?_))))
         refine h_back ⟨fun h => (nomatch h), ?_⟩
         refine h_done ?_; clear CL hw le
         refine x_thenN ?_
         exact j5 _ a w (S.sb rfl (.c0 (.c0 .n))) h4
        exact h_nil
       refine h_runO S rfl trivial ?_ ?_
       ·refine s_ldRA S (ty' := (Ty.atZ ch_0_3 Y30)) (i := y38) (off := 0) (fun c => ((Ty.atZ ch_0_3 Y30).segs (gt y30 y38) c)) rfl hA1 .h T30 c3.1 c3.2 rfl (fun _ => rfl) rfl fun ch1 a S => ?_
        refine CL.br hw S .nil le rfl trivial fun hw => (s_iaddrO S (ty' := (Ty.atZ ch_0_3 Y30)) rfl .h rfl underlying32 T30 c2.1 c2.2 rfl fun g2 a hA2 S => CL.br hw S .nil le rfl trivial fun hw => (s_ldRA S (ty' := (Ty.atZ ch_0_3 Y30)) (i := y44) (off := 0) (fun c => ((Ty.atZ ch_0_3 Y30).segs (gt y30 y44) c)) rfl hA2 .h T30 c2.1 c2.2 rfl (fun _ => rfl) rfl fun ch2 a S => ?_))
        refine CL.br hw S .nil le rfl trivial fun hw => (s_iaddrO S (ty' := (Ty.atZ ch_0_3 Y30)) rfl .h rfl underlying32 T30 c3.1 c3.2 rfl fun g3 a hA3 S => CL.br hw S .nil le rfl trivial fun hw => (s_stR S (ty' := (Ty.atZ ch_0_3 Y30)) (i := y38) (off := 0) (u := gt y30 y44) (fun _ => ch2) rfl rfl rfl hA3 .h T30 c3.1 c3.2 rfl (show 0 + 27 ≤ (Y30).size by decide) rfl (fun _ => rfl) fun w S => CL.br hw S .nil le rfl trivial fun hw => (s_iaddrO S (ty' := (Ty.atZ ch_0_3 Y30)) rfl .h rfl underlying32 T30 c4.1 c4.2 rfl fun g4 a hA4 S => CL.br hw S .nil le rfl trivial fun hw => (s_stR S (ty' := (Ty.atZ ch_0_3 Y30)) (i := y44) (off := 0) (u := gt y30 y38) (fun _ => ch1) rfl rfl rfl hA4 .h T30 c4.1 c4.2 rfl (show 0 + 27 ≤ (Y30).size by decide) rfl (fun _ => rfl) fun w S => ?_))))
        refine h_back ⟨fun h => (nomatch h), ?_⟩
        refine h_done ?_; clear CL hw le
        refine x_thenN ?_
        exact j5 _ a w (S.sb rfl (.c0 (.c0 .n))) h4
       exact h_nil
      exact h_nil
    refine wp_block ?_
    refine c_loop (fun q2 a w => ∃ m y48, St 90 m b0 [(12, (.i y48)), (11, (.i y38)), (0, (.s ch_0_0 ch_0_1 ch_0_2)), (1, (.i x2)), (4, (.v (.func (.func 35) #[] #[])))] [Res.row (Ty.atZ ch_0_3 Y30) 30 ch_0_0 ch_0_1 ch_0_2 y30, Res.priv ch_0_3] a w ∧ api_Account_n56_0z_4f35.l2 x2 y30 (api_Account_n56_0z_4f35.l1 k x2 q1) y38 q2 y48 = some r) ?_ ?_ (k := k) ⟨_, y31, (S.sb rfl (.c0 (.c0 .n))), h0⟩
    ·rintro a w ⟨m, y48, S, h0⟩
     exact (nomatch (show (none : Option (Int × (List L30))) = some r from h0))
    ·clear S h0
     rintro q2 a w ⟨m, y48, S, h0⟩
     replace h0 : api_Account_n56_0z_4f35.b2 x2 y30 (api_Account_n56_0z_4f35.l1 k x2 q1) y38 (api_Account_n56_0z_4f35.l2 x2 y30 (api_Account_n56_0z_4f35.l1 k x2 q1) y38 q2) y48 = some r := h0
     delta api_Account_n56_0z_4f35.b2 at h0
     refine wp_seq (wp_seq_k fun K6 hK6 => ?_)
     have j6 : ∀ m y49 a w, St 90 m b0 [(65, (.b y49)), (12, (.i y48)), (11, (.i y38)), (0, (.s ch_0_0 ch_0_1 ch_0_2)), (1, (.i x2)), (4, (.v (.func (.func 35) #[] #[])))] [Res.row (Ty.atZ ch_0_3 Y30) 30 ch_0_0 ch_0_1 ch_0_2 y30, Res.priv ch_0_3] a w → api_Account_n56_0z_4f35.j6 y30 (api_Account_n56_0z_4f35.l1 k x2 q1) y38 y48 (api_Account_n56_0z_4f35.l2 x2 y30 (api_Account_n56_0z_4f35.l1 k x2 q1) y38 q2) y49 = some r → K6 a w := by
      intro m y49 a w S h0
      delta api_Account_n56_0z_4f35.j6 at h0
      refine hK6 a w ?_
      rcases ite_of h0 with ⟨c5, h1⟩ | ⟨c5, h1⟩
      ·refine c_condT S rfl c5 (wp_skip (x_thenN (wp_block (c_region' (s_move S rfl rfl fun a S => s_bin S rfl rfl rfl rfl fun a S => s_assign S rfl rfl fun a S => c_end' (x_blockN (x_thenN ?_)))))))
       exact ⟨_, (wr .i64 (y48 - 1)), (S.sb rfl (.c0 (.c0 .n))), h1⟩
      ·refine c_condF S rfl c5 (wp_exit (x_thenX (x_thenX (x_blockX (x_thenN ?_)))))
       exact j4 _ y48 a w (S.sb rfl (.c0 (.c0 .n))) h1
     refine c_heldS S (.take 0 (.take 1 (.take 2 (.take 3 (.take 4 (.take 5 (.take 6 (.take 9 (.take 10 (.alts (.run 7 true (.alts (.run 8 true (.alts (.run 11 true (.alts (.run 12 true (.alts (.run 13 true (.take 14 (.take 15 .done)) .nil)) .nil)) .nil)) (.run 11 true (.alts (.run 8 true (.alts (.run 12 true (.alts (.run 13 true (.take 14 (.take 15 .done)) .nil)) .nil)) (.run 12 true (.alts (.run 8 true (.alts (.run 13 true (.take 14 (.take 15 .done)) .nil)) .nil)) .nil))) .nil))) (.run 11 true (.alts (.run 7 true (.alts (.run 8 true (.alts (.run 12 true (.alts (.run 13 true (.take 14 (.take 15 .done)) .nil)) .nil)) (.run 12 true (.alts (.run 8 true (.alts (.run 13 true (.take 14 (.take 15 .done)) .nil)) .nil)) .nil))) (.run 12 true (.alts (.run 7 true (.alts (.run 8 true (.alts (.run 13 true (.take 14 (.take 15 .done)) .nil)) .nil)) .nil)) .nil))) .nil)))))))))))) 16 [] .nil trivial [(12, (.i y48)), (11, (.i y38)), (0, (.s ch_0_0 ch_0_1 ch_0_2)), (1, (.i x2)), (4, (.v (.func (.func 35) #[] #[])))] (subR rfl) (by kernel_rfl) (by kernel_rfl) fun w S CL hw le => ?_
     refine h_move S CL hw le (subR rfl) rfl rfl rfl trivial fun a S CL => h_move S CL hw le (subR rfl) rfl rfl rfl trivial fun a S CL => h_bin S CL hw le (subR rfl) rfl rfl rfl rfl rfl trivial fun a S CL => h_move S CL hw le (subR rfl) rfl rfl rfl trivial fun a S CL => ?_
     rcases ite_of h0 with ⟨c6, h1⟩ | ⟨c6, h1⟩
     ·refine h_move S CL hw le (subR rfl) rfl rfl rfl ⟨_, _, rfl, rfl, c6⟩ fun a S CL => h_move S CL hw le (subR rfl) rfl rfl rfl ⟨_, _, rfl, rfl, c6⟩ fun a S CL => h_move S CL hw le (subR rfl) rfl rfl rfl ⟨_, _, rfl, rfl, c6⟩ fun a S CL => h_move S CL hw le (subR rfl) rfl rfl rfl ⟨_, _, rfl, rfl, c6⟩ fun a S CL => h_move S CL hw le (subR rfl) rfl rfl rfl ⟨_, _, rfl, rfl, c6⟩ fun a S CL => ?_
      obtain ⟨c7, h2⟩ := chk_of h1; clear h1
      obtain ⟨c8, h3⟩ := chk_of h2; clear h2
      refine bindX h3 fun t1 et1 h4 => h_alts ?_
      refine h_runO S rfl ⟨_, _, rfl, rfl, c6⟩ ?_ ?_
      ·refine s_iaddrO S (ty' := (Ty.atZ ch_0_3 Y30)) rfl .h rfl underlying32 T30 c7.1 c7.2 rfl fun g7 a hA5 S => CL.bk hw S .nil le fun hw => h_alts ?_
       refine h_runO S rfl ⟨_, _, rfl, rfl, c6⟩ ?_ ?_
       ·refine s_ldRA S (ty' := (Ty.atZ ch_0_3 Y30)) (i := x2) (off := 0) (fun c => ((Ty.atZ ch_0_3 Y30).segs (gt y30 x2) c)) rfl hA5 .h T30 c7.1 c7.2 rfl (fun _ => rfl) rfl fun ch5 a S => ?_
        refine CL.bk hw S .nil le fun hw => h_run' S rfl ⟨_, _, rfl, rfl, c6⟩ (s_iaddrO S (ty' := (Ty.atZ ch_0_3 Y30)) rfl .h rfl underlying32 T30 c8.1 c8.2 rfl fun g8 a hA6 S => CL.bk hw S .nil le fun hw => h_run' S rfl ⟨_, _, rfl, rfl, c6⟩ (s_ldRA S (ty' := (Ty.atZ ch_0_3 Y30)) (i := y48) (off := 0) (fun c => ((Ty.atZ ch_0_3 Y30).segs (gt y30 y48) c)) rfl hA6 .h T30 c8.1 c8.2 rfl (fun _ => rfl) rfl fun ch6 a S => ?_))
        refine CL.bk hw S .nil le fun hw => h_run' S rfl ⟨_, _, rfl, rfl, c6⟩ (s_callL S (ds' := [(.agg ((Ty.atZ ch_0_3 Y30).segs (gt y30 x2) ch5)), (.agg ((Ty.atZ ch_0_3 Y30).segs (gt y30 y48) ch6))]) (ds := [(.agg (Y30.segs (gt y30 x2) ch5)), (.agg (Y30.segs (gt y30 y48) ch6))]) (fun (ch : Unit) => ((.i t1) : D)) (fun _ _ _ h => h) (by obtain ⟨mm, g1, gZ, g2⟩ := S.plend .h1; exact ⟨mm, g1, g2, fun ok => ⟨(okA_lend gZ ok.1), (okA_lend gZ ok.2.1), trivial⟩⟩) N35 rfl rfl rfl (fun _ => store_Store_All_1.ok (gt y30 x2) (gt y30 y48) ch5.2.2.2.1.1 ch5.2.2.2.1.2 ch5.2.2.2.2.1 ch5.2.2.2.2.2 ch6.2.2.2.1.1 ch6.2.2.2.1.2 ch6.2.2.2.2.1 ch6.2.2.2.2.2 t1 et1 _ _) fun ch7 a w S => CL.bk hw S .nil le fun hw => ?_)
        replace CL := CL.add (t := 63) (d := (.i t1)) S rfl rfl
        refine h_bin S CL hw le (subR rfl) rfl rfl rfl rfl rfl ⟨_, _, rfl, rfl, c6⟩ fun a S CL => h_pick S CL hw le (subR rfl) (b := true) (hc_of rfl c6) rfl rfl rfl trivial fun a S CL => ?_
        refine h_done ?_; clear CL hw le
        refine x_thenN ?_
        exact j6 _ (decide (t1 < 0)) a w (S.sb rfl (.c0 (.c0 .n))) h4
       refine h_runO S rfl ⟨_, _, rfl, rfl, c6⟩ ?_ ?_
       ·refine s_iaddrO S (ty' := (Ty.atZ ch_0_3 Y30)) rfl .h rfl underlying32 T30 c8.1 c8.2 rfl fun g8 a hA6 S => CL.bk hw S .nil le fun hw => h_alts ?_
        refine h_runO S rfl ⟨_, _, rfl, rfl, c6⟩ ?_ ?_
        ·refine s_ldRA S (ty' := (Ty.atZ ch_0_3 Y30)) (i := x2) (off := 0) (fun c => ((Ty.atZ ch_0_3 Y30).segs (gt y30 x2) c)) rfl hA5 .h T30 c7.1 c7.2 rfl (fun _ => rfl) rfl fun ch5 a S => ?_
         refine CL.bk hw S .nil le fun hw => h_run' S rfl ⟨_, _, rfl, rfl, c6⟩ (s_ldRA S (ty' := (Ty.atZ ch_0_3 Y30)) (i := y48) (off := 0) (fun c => ((Ty.atZ ch_0_3 Y30).segs (gt y30 y48) c)) rfl hA6 .h T30 c8.1 c8.2 rfl (fun _ => rfl) rfl fun ch6 a S => ?_)
         refine CL.bk hw S .nil le fun hw => h_run' S rfl ⟨_, _, rfl, rfl, c6⟩ (s_callL S (ds' := [(.agg ((Ty.atZ ch_0_3 Y30).segs (gt y30 x2) ch5)), (.agg ((Ty.atZ ch_0_3 Y30).segs (gt y30 y48) ch6))]) (ds := [(.agg (Y30.segs (gt y30 x2) ch5)), (.agg (Y30.segs (gt y30 y48) ch6))]) (fun (ch : Unit) => ((.i t1) : D)) (fun _ _ _ h => h) (by obtain ⟨mm, g1, gZ, g2⟩ := S.plend .h1; exact ⟨mm, g1, g2, fun ok => ⟨(okA_lend gZ ok.1), (okA_lend gZ ok.2.1), trivial⟩⟩) N35 rfl rfl rfl (fun _ => store_Store_All_1.ok (gt y30 x2) (gt y30 y48) ch5.2.2.2.1.1 ch5.2.2.2.1.2 ch5.2.2.2.2.1 ch5.2.2.2.2.2 ch6.2.2.2.1.1 ch6.2.2.2.1.2 ch6.2.2.2.2.1 ch6.2.2.2.2.2 t1 et1 _ _) fun ch7 a w S => CL.bk hw S .nil le fun hw => ?_)
         replace CL := CL.add (t := 63) (d := (.i t1)) S rfl rfl
         refine h_bin S CL hw le (subR rfl) rfl rfl rfl rfl rfl ⟨_, _, rfl, rfl, c6⟩ fun a S CL => h_pick S CL hw le (subR rfl) (b := true) (hc_of rfl c6) rfl rfl rfl trivial fun a S CL => ?_
         refine h_done ?_; clear CL hw le
         refine x_thenN ?_
         exact j6 _ (decide (t1 < 0)) a w (S.sb rfl (.c0 (.c0 .n))) h4
        refine h_runO S rfl ⟨_, _, rfl, rfl, c6⟩ ?_ ?_
        ·refine s_ldRA S (ty' := (Ty.atZ ch_0_3 Y30)) (i := y48) (off := 0) (fun c => ((Ty.atZ ch_0_3 Y30).segs (gt y30 y48) c)) rfl hA6 .h T30 c8.1 c8.2 rfl (fun _ => rfl) rfl fun ch5 a S => ?_
         refine CL.bk hw S .nil le fun hw => h_run' S rfl ⟨_, _, rfl, rfl, c6⟩ (s_ldRA S (ty' := (Ty.atZ ch_0_3 Y30)) (i := x2) (off := 0) (fun c => ((Ty.atZ ch_0_3 Y30).segs (gt y30 x2) c)) rfl hA5 .h T30 c7.1 c7.2 rfl (fun _ => rfl) rfl fun ch6 a S => ?_)
         refine CL.bk hw S .nil le fun hw => h_run' S rfl ⟨_, _, rfl, rfl, c6⟩ (s_callL S (ds' := [(.agg ((Ty.atZ ch_0_3 Y30).segs (gt y30 x2) ch6)), (.agg ((Ty.atZ ch_0_3 Y30).segs (gt y30 y48) ch5))]) (ds := [(.agg (Y30.segs (gt y30 x2) ch6)), (.agg (Y30.segs (gt y30 y48) ch5))]) (fun (ch : Unit) => ((.i t1) : D)) (fun _ _ _ h => h) (by obtain ⟨mm, g1, gZ, g2⟩ := S.plend .h1; exact ⟨mm, g1, g2, fun ok => ⟨(okA_lend gZ ok.1), (okA_lend gZ ok.2.1), trivial⟩⟩) N35 rfl rfl rfl (fun _ => store_Store_All_1.ok (gt y30 x2) (gt y30 y48) ch6.2.2.2.1.1 ch6.2.2.2.1.2 ch6.2.2.2.2.1 ch6.2.2.2.2.2 ch5.2.2.2.1.1 ch5.2.2.2.1.2 ch5.2.2.2.2.1 ch5.2.2.2.2.2 t1 et1 _ _) fun ch7 a w S => CL.bk hw S .nil le fun hw => ?_)
         replace CL := CL.add (t := 63) (d := (.i t1)) S rfl rfl
         refine h_bin S CL hw le (subR rfl) rfl rfl rfl rfl rfl ⟨_, _, rfl, rfl, c6⟩ fun a S CL => h_pick S CL hw le (subR rfl) (b := true) (hc_of rfl c6) rfl rfl rfl trivial fun a S CL => ?_
         refine h_done ?_; clear CL hw le
         refine x_thenN ?_
         exact j6 _ (decide (t1 < 0)) a w (S.sb rfl (.c0 (.c0 .n))) h4
        exact h_nil
       exact h_nil
      refine h_runO S rfl ⟨_, _, rfl, rfl, c6⟩ ?_ ?_
      ·refine s_iaddrO S (ty' := (Ty.atZ ch_0_3 Y30)) rfl .h rfl underlying32 T30 c8.1 c8.2 rfl fun g7 a hA5 S => CL.bk hw S .nil le fun hw => h_alts ?_
       refine h_runO S rfl ⟨_, _, rfl, rfl, c6⟩ ?_ ?_
       ·refine s_iaddrO S (ty' := (Ty.atZ ch_0_3 Y30)) rfl .h rfl underlying32 T30 c7.1 c7.2 rfl fun g8 a hA6 S => CL.bk hw S .nil le fun hw => h_alts ?_
        refine h_runO S rfl ⟨_, _, rfl, rfl, c6⟩ ?_ ?_
        ·refine s_ldRA S (ty' := (Ty.atZ ch_0_3 Y30)) (i := x2) (off := 0) (fun c => ((Ty.atZ ch_0_3 Y30).segs (gt y30 x2) c)) rfl hA6 .h T30 c7.1 c7.2 rfl (fun _ => rfl) rfl fun ch5 a S => ?_
         refine CL.bk hw S .nil le fun hw => h_run' S rfl ⟨_, _, rfl, rfl, c6⟩ (s_ldRA S (ty' := (Ty.atZ ch_0_3 Y30)) (i := y48) (off := 0) (fun c => ((Ty.atZ ch_0_3 Y30).segs (gt y30 y48) c)) rfl hA5 .h T30 c8.1 c8.2 rfl (fun _ => rfl) rfl fun ch6 a S => ?_)
         refine CL.bk hw S .nil le fun hw => h_run' S rfl ⟨_, _, rfl, rfl, c6⟩ (s_callL S (ds' := [(.agg ((Ty.atZ ch_0_3 Y30).segs (gt y30 x2) ch5)), (.agg ((Ty.atZ ch_0_3 Y30).segs (gt y30 y48) ch6))]) (ds := [(.agg (Y30.segs (gt y30 x2) ch5)), (.agg (Y30.segs (gt y30 y48) ch6))]) (fun (ch : Unit) => ((.i t1) : D)) (fun _ _ _ h => h) (by obtain ⟨mm, g1, gZ, g2⟩ := S.plend .h1; exact ⟨mm, g1, g2, fun ok => ⟨(okA_lend gZ ok.1), (okA_lend gZ ok.2.1), trivial⟩⟩) N35 rfl rfl rfl (fun _ => store_Store_All_1.ok (gt y30 x2) (gt y30 y48) ch5.2.2.2.1.1 ch5.2.2.2.1.2 ch5.2.2.2.2.1 ch5.2.2.2.2.2 ch6.2.2.2.1.1 ch6.2.2.2.1.2 ch6.2.2.2.2.1 ch6.2.2.2.2.2 t1 et1 _ _) fun ch7 a w S => CL.bk hw S .nil le fun hw => ?_)
         replace CL := CL.add (t := 63) (d := (.i t1)) S rfl rfl
         refine h_bin S CL hw le (subR rfl) rfl rfl rfl rfl rfl ⟨_, _, rfl, rfl, c6⟩ fun a S CL => h_pick S CL hw le (subR rfl) (b := true) (hc_of rfl c6) rfl rfl rfl trivial fun a S CL => ?_
         refine h_done ?_; clear CL hw le
         refine x_thenN ?_
         exact j6 _ (decide (t1 < 0)) a w (S.sb rfl (.c0 (.c0 .n))) h4
        refine h_runO S rfl ⟨_, _, rfl, rfl, c6⟩ ?_ ?_
        ·refine s_ldRA S (ty' := (Ty.atZ ch_0_3 Y30)) (i := y48) (off := 0) (fun c => ((Ty.atZ ch_0_3 Y30).segs (gt y30 y48) c)) rfl hA5 .h T30 c8.1 c8.2 rfl (fun _ => rfl) rfl fun ch5 a S => ?_
         refine CL.bk hw S .nil le fun hw => h_run' S rfl ⟨_, _, rfl, rfl, c6⟩ (s_ldRA S (ty' := (Ty.atZ ch_0_3 Y30)) (i := x2) (off := 0) (fun c => ((Ty.atZ ch_0_3 Y30).segs (gt y30 x2) c)) rfl hA6 .h T30 c7.1 c7.2 rfl (fun _ => rfl) rfl fun ch6 a S => ?_)
         refine CL.bk hw S .nil le fun hw => h_run' S rfl ⟨_, _, rfl, rfl, c6⟩ (s_callL S (ds' := [(.agg ((Ty.atZ ch_0_3 Y30).segs (gt y30 x2) ch6)), (.agg ((Ty.atZ ch_0_3 Y30).segs (gt y30 y48) ch5))]) (ds := [(.agg (Y30.segs (gt y30 x2) ch6)), (.agg (Y30.segs (gt y30 y48) ch5))]) (fun (ch : Unit) => ((.i t1) : D)) (fun _ _ _ h => h) (by obtain ⟨mm, g1, gZ, g2⟩ := S.plend .h1; exact ⟨mm, g1, g2, fun ok => ⟨(okA_lend gZ ok.1), (okA_lend gZ ok.2.1), trivial⟩⟩) N35 rfl rfl rfl (fun _ => store_Store_All_1.ok (gt y30 x2) (gt y30 y48) ch6.2.2.2.1.1 ch6.2.2.2.1.2 ch6.2.2.2.2.1 ch6.2.2.2.2.2 ch5.2.2.2.1.1 ch5.2.2.2.1.2 ch5.2.2.2.2.1 ch5.2.2.2.2.2 t1 et1 _ _) fun ch7 a w S => CL.bk hw S .nil le fun hw => ?_)
         replace CL := CL.add (t := 63) (d := (.i t1)) S rfl rfl
         refine h_bin S CL hw le (subR rfl) rfl rfl rfl rfl rfl ⟨_, _, rfl, rfl, c6⟩ fun a S CL => h_pick S CL hw le (subR rfl) (b := true) (hc_of rfl c6) rfl rfl rfl trivial fun a S CL => ?_
         refine h_done ?_; clear CL hw le
         refine x_thenN ?_
         exact j6 _ (decide (t1 < 0)) a w (S.sb rfl (.c0 (.c0 .n))) h4
        exact h_nil
       refine h_runO S rfl ⟨_, _, rfl, rfl, c6⟩ ?_ ?_
       ·refine s_ldRA S (ty' := (Ty.atZ ch_0_3 Y30)) (i := y48) (off := 0) (fun c => ((Ty.atZ ch_0_3 Y30).segs (gt y30 y48) c)) rfl hA5 .h T30 c8.1 c8.2 rfl (fun _ => rfl) rfl fun ch5 a S => ?_
        refine CL.bk hw S .nil le fun hw => h_run' S rfl ⟨_, _, rfl, rfl, c6⟩ (s_iaddrO S (ty' := (Ty.atZ ch_0_3 Y30)) rfl .h rfl underlying32 T30 c7.1 c7.2 rfl fun g8 a hA6 S => CL.bk hw S .nil le fun hw => h_run' S rfl ⟨_, _, rfl, rfl, c6⟩ (s_ldRA S (ty' := (Ty.atZ ch_0_3 Y30)) (i := x2) (off := 0) (fun c => ((Ty.atZ ch_0_3 Y30).segs (gt y30 x2) c)) rfl hA6 .h T30 c7.1 c7.2 rfl (fun _ => rfl) rfl fun ch6 a S => ?_))
        refine CL.bk hw S .nil le fun hw => h_run' S rfl ⟨_, _, rfl, rfl, c6⟩ (s_callL S (ds' := [(.agg ((Ty.atZ ch_0_3 Y30).segs (gt y30 x2) ch6)), (.agg ((Ty.atZ ch_0_3 Y30).segs (gt y30 y48) ch5))]) (ds := [(.agg (Y30.segs (gt y30 x2) ch6)), (.agg (Y30.segs (gt y30 y48) ch5))]) (fun (ch : Unit) => ((.i t1) : D)) (fun _ _ _ h => h) (by obtain ⟨mm, g1, gZ, g2⟩ := S.plend .h1; exact ⟨mm, g1, g2, fun ok => ⟨(okA_lend gZ ok.1), (okA_lend gZ ok.2.1), trivial⟩⟩) N35 rfl rfl rfl (fun _ => store_Store_All_1.ok (gt y30 x2) (gt y30 y48) ch6.2.2.2.1.1 ch6.2.2.2.1.2 ch6.2.2.2.2.1 ch6.2.2.2.2.2 ch5.2.2.2.1.1 ch5.2.2.2.1.2 ch5.2.2.2.2.1 ch5.2.2.2.2.2 t1 et1 _ _) fun ch7 a w S => CL.bk hw S .nil le fun hw => ?_)
        replace CL := CL.add (t := 63) (d := (.i t1)) S rfl rfl
        refine h_bin S CL hw le (subR rfl) rfl rfl rfl rfl rfl ⟨_, _, rfl, rfl, c6⟩ fun a S CL => h_pick S CL hw le (subR rfl) (b := true) (hc_of rfl c6) rfl rfl rfl trivial fun a S CL => ?_
        refine h_done ?_; clear CL hw le
        refine x_thenN ?_
        exact j6 _ (decide (t1 < 0)) a w (S.sb rfl (.c0 (.c0 .n))) h4
       exact h_nil
      exact h_nil
     ·refine h_skip S CL rfl rfl rfl (ne_bool c6) rfl fun a S CL => h_skip S CL rfl rfl rfl (ne_bool c6) rfl fun a S CL => h_skip S CL rfl rfl rfl (ne_bool c6) rfl fun a S CL => h_skip S CL rfl rfl rfl (ne_bool c6) rfl fun a S CL => h_skip S CL rfl rfl rfl (ne_bool c6) rfl fun a S CL => h_alts ?_
      refine h_skipOt S rfl rfl rfl (ne_bool c6) rfl ?_ ?_
      ·clear S a; intro a S
       refine CL.bk hw S .nil le fun hw => h_alts ?_
       refine h_skipOt S rfl rfl rfl (ne_bool c6) rfl ?_ ?_
       ·clear S a; intro a S
        refine CL.bk hw S .nil le fun hw => h_skipRt S rfl rfl rfl (ne_bool c6) rfl fun a S => CL.bk hw S .nil le fun hw => h_skipRt S rfl rfl rfl (ne_bool c6) rfl fun a S => CL.bk hw S .nil le fun hw => h_skipRt S rfl rfl rfl (ne_bool c6) rfl fun a S => CL.bk hw S .nil le fun hw => ?_
        replace CL := CL.add (t := 63) (d := .u) S rfl rfl
        refine h_skip S CL rfl rfl rfl (ne_bool c6) rfl fun a S CL => h_pick S CL hw le (subR rfl) (b := false) (hc_of rfl c6) rfl rfl rfl trivial fun a S CL => ?_
        refine h_done ?_; clear CL hw le
        refine x_thenN ?_
        exact j6 _ false a w (S.sb rfl (.c0 (.c0 .n))) h1
       refine h_skipOt S rfl rfl rfl (ne_bool c6) rfl ?_ ?_
       ·clear S a; intro a S
        refine CL.bk hw S .nil le fun hw => h_alts ?_
        refine h_skipOt S rfl rfl rfl (ne_bool c6) rfl ?_ ?_
        ·clear S a; intro a S
         refine CL.bk hw S .nil le fun hw => h_skipRt S rfl rfl rfl (ne_bool c6) rfl fun a S => CL.bk hw S .nil le fun hw => h_skipRt S rfl rfl rfl (ne_bool c6) rfl fun a S => CL.bk hw S .nil le fun hw => ?_
         replace CL := CL.add (t := 63) (d := .u) S rfl rfl
         refine h_skip S CL rfl rfl rfl (ne_bool c6) rfl fun a S CL => h_pick S CL hw le (subR rfl) (b := false) (hc_of rfl c6) rfl rfl rfl trivial fun a S CL => ?_
         refine h_done ?_; clear CL hw le
         refine x_thenN ?_
         exact j6 _ false a w (S.sb rfl (.c0 (.c0 .n))) h1
        refine h_skipOt S rfl rfl rfl (ne_bool c6) rfl ?_ ?_
        ·clear S a; intro a S
         refine CL.bk hw S .nil le fun hw => h_skipRt S rfl rfl rfl (ne_bool c6) rfl fun a S => CL.bk hw S .nil le fun hw => h_skipRt S rfl rfl rfl (ne_bool c6) rfl fun a S => CL.bk hw S .nil le fun hw => ?_
         replace CL := CL.add (t := 63) (d := .u) S rfl rfl
         refine h_skip S CL rfl rfl rfl (ne_bool c6) rfl fun a S CL => h_pick S CL hw le (subR rfl) (b := false) (hc_of rfl c6) rfl rfl rfl trivial fun a S CL => ?_
         refine h_done ?_; clear CL hw le
         refine x_thenN ?_
         exact j6 _ false a w (S.sb rfl (.c0 (.c0 .n))) h1
        exact h_nil
       exact h_nil
      refine h_skipOt S rfl rfl rfl (ne_bool c6) rfl ?_ ?_
      ·clear S a; intro a S
       refine CL.bk hw S .nil le fun hw => h_alts ?_
       refine h_skipOt S rfl rfl rfl (ne_bool c6) rfl ?_ ?_
       ·clear S a; intro a S
        refine CL.bk hw S .nil le fun hw => h_alts ?_
        refine h_skipOt S rfl rfl rfl (ne_bool c6) rfl ?_ ?_
        ·clear S a; intro a S
         refine CL.bk hw S .nil le fun hw => h_skipRt S rfl rfl rfl (ne_bool c6) rfl fun a S => CL.bk hw S .nil le fun hw => h_skipRt S rfl rfl rfl (ne_bool c6) rfl fun a S => CL.bk hw S .nil le fun hw => ?_
         replace CL := CL.add (t := 63) (d := .u) S rfl rfl
         refine h_skip S CL rfl rfl rfl (ne_bool c6) rfl fun a S CL => h_pick S CL hw le (subR rfl) (b := false) (hc_of rfl c6) rfl rfl rfl trivial fun a S CL => ?_
         refine h_done ?_; clear CL hw le
         refine x_thenN ?_
         exact j6 _ false a w (S.sb rfl (.c0 (.c0 .n))) h1
        refine h_skipOt S rfl rfl rfl (ne_bool c6) rfl ?_ ?_
        ·clear S a; intro a S
         refine CL.bk hw S .nil le fun hw => h_skipRt S rfl rfl rfl (ne_bool c6) rfl fun a S => CL.bk hw S .nil le fun hw => h_skipRt S rfl rfl rfl (ne_bool c6) rfl fun a S => CL.bk hw S .nil le fun hw => ?_
         replace CL := CL.add (t := 63) (d := .u) S rfl rfl
         refine h_skip S CL rfl rfl rfl (ne_bool c6) rfl fun a S CL => h_pick S CL hw le (subR rfl) (b := false) (hc_of rfl c6) rfl rfl rfl trivial fun a S CL => ?_
         refine h_done ?_; clear CL hw le
         refine x_thenN ?_
         exact j6 _ false a w (S.sb rfl (.c0 (.c0 .n))) h1
        exact h_nil
       refine h_skipOt S rfl rfl rfl (ne_bool c6) rfl ?_ ?_
       ·clear S a; intro a S
        refine CL.bk hw S .nil le fun hw => h_skipRt S rfl rfl rfl (ne_bool c6) rfl fun a S => CL.bk hw S .nil le fun hw => h_skipRt S rfl rfl rfl (ne_bool c6) rfl fun a S => CL.bk hw S .nil le fun hw => h_skipRt S rfl rfl rfl (ne_bool c6) rfl fun a S => CL.bk hw S .nil le fun hw => ?_
        replace CL := CL.add (t := 63) (d := .u) S rfl rfl
        refine h_skip S CL rfl rfl rfl (ne_bool c6) rfl fun a S CL => h_pick S CL hw le (subR rfl) (b := false) (hc_of rfl c6) rfl rfl rfl trivial fun a S CL => ?_
        refine h_done ?_; clear CL hw le
        refine x_thenN ?_
        exact j6 _ false a w (S.sb rfl (.c0 (.c0 .n))) h1
       exact h_nil
      exact h_nil
   refine wp_block ?_
   refine c_loop (fun q3 a w => ∃ m y53, St 90 m b0 [(12, (.i y31)), (11, (.i y53)), (0, (.s ch_0_0 ch_0_1 ch_0_2)), (1, (.i x2)), (4, (.v (.func (.func 35) #[] #[])))] [Res.row (Ty.atZ ch_0_3 Y30) 30 ch_0_0 ch_0_1 ch_0_2 y30, Res.priv ch_0_3] a w ∧ api_Account_n56_0z_4f35.l3 k x2 y30 y31 (api_Account_n56_0z_4f35.l1 k x2 q1) q3 y53 = some r) ?_ ?_ (k := k) ⟨_, y32, (S.sb rfl (.c0 (.c0 .n))), h0⟩
   ·rintro a w ⟨m, y53, S, h0⟩
    exact (nomatch (show (none : Option (Int × (List L30))) = some r from h0))
   ·clear S h0
    rintro q3 a w ⟨m, y53, S, h0⟩
    replace h0 : api_Account_n56_0z_4f35.b3 k x2 y30 y31 (api_Account_n56_0z_4f35.l1 k x2 q1) (api_Account_n56_0z_4f35.l3 k x2 y30 y31 (api_Account_n56_0z_4f35.l1 k x2 q1) q3) y53 = some r := h0
    delta api_Account_n56_0z_4f35.b3 at h0
    refine wp_seq (wp_seq_k fun K7 hK7 => ?_)
    have j7 : ∀ m y54 a w, St 90 m b0 [(47, (.b y54)), (12, (.i y31)), (11, (.i y53)), (0, (.s ch_0_0 ch_0_1 ch_0_2)), (1, (.i x2)), (4, (.v (.func (.func 35) #[] #[])))] [Res.row (Ty.atZ ch_0_3 Y30) 30 ch_0_0 ch_0_1 ch_0_2 y30, Res.priv ch_0_3] a w → api_Account_n56_0z_4f35.j7 k x2 y30 y31 (api_Account_n56_0z_4f35.l1 k x2 q1) y53 (api_Account_n56_0z_4f35.l3 k x2 y30 y31 (api_Account_n56_0z_4f35.l1 k x2 q1) q3) y54 = some r → K7 a w := by
     intro m y54 a w S h0
     delta api_Account_n56_0z_4f35.j7 at h0
     refine hK7 a w ?_
     rcases ite_of h0 with ⟨c9, h1⟩ | ⟨c9, h1⟩
     ·refine c_condT S rfl c9 (wp_skip (x_thenN (wp_block (c_region' (s_move S rfl rfl fun a S => s_bin S rfl rfl rfl rfl fun a S => s_assign S rfl rfl fun a S => c_end' (x_blockN (x_thenN ?_)))))))
      exact ⟨_, (wr .i64 (y53 + 1)), (S.sb rfl (.c0 (.c0 .n))), h1⟩
     ·refine c_condF S rfl c9 (wp_exit (x_thenX (x_thenX (x_blockX (x_thenN ?_)))))
      exact j3 _ y53 a w (S.sb rfl (.c0 (.c0 .n))) h1
    refine c_heldS S (.take 0 (.take 1 (.take 2 (.take 3 (.take 4 (.take 5 (.take 6 (.take 9 (.take 10 (.alts (.run 7 true (.alts (.run 8 true (.alts (.run 11 true (.alts (.run 12 true (.alts (.run 13 true (.take 14 (.take 15 (.take 16 .done))) .nil)) .nil)) .nil)) (.run 11 true (.alts (.run 8 true (.alts (.run 12 true (.alts (.run 13 true (.take 14 (.take 15 (.take 16 .done))) .nil)) .nil)) (.run 12 true (.alts (.run 8 true (.alts (.run 13 true (.take 14 (.take 15 (.take 16 .done))) .nil)) .nil)) .nil))) .nil))) (.run 11 true (.alts (.run 7 true (.alts (.run 8 true (.alts (.run 12 true (.alts (.run 13 true (.take 14 (.take 15 (.take 16 .done))) .nil)) .nil)) (.run 12 true (.alts (.run 8 true (.alts (.run 13 true (.take 14 (.take 15 (.take 16 .done))) .nil)) .nil)) .nil))) (.run 12 true (.alts (.run 7 true (.alts (.run 8 true (.alts (.run 13 true (.take 14 (.take 15 (.take 16 .done))) .nil)) .nil)) .nil)) .nil))) .nil)))))))))))) 17 [] .nil trivial [(12, (.i y31)), (11, (.i y53)), (0, (.s ch_0_0 ch_0_1 ch_0_2)), (1, (.i x2)), (4, (.v (.func (.func 35) #[] #[])))] (subR rfl) (by kernel_rfl) (by kernel_rfl) fun w S CL hw le => ?_
    refine h_move S CL hw le (subR rfl) rfl rfl rfl trivial fun a S CL => h_move S CL hw le (subR rfl) rfl rfl rfl trivial fun a S CL => h_bin S CL hw le (subR rfl) rfl rfl rfl rfl rfl trivial fun a S CL => h_move S CL hw le (subR rfl) rfl rfl rfl trivial fun a S CL => ?_
    rcases ite_of h0 with ⟨c10, h1⟩ | ⟨c10, h1⟩
    ·refine h_move S CL hw le (subR rfl) rfl rfl rfl ⟨_, _, rfl, rfl, c10⟩ fun a S CL => h_move S CL hw le (subR rfl) rfl rfl rfl ⟨_, _, rfl, rfl, c10⟩ fun a S CL => h_move S CL hw le (subR rfl) rfl rfl rfl ⟨_, _, rfl, rfl, c10⟩ fun a S CL => h_move S CL hw le (subR rfl) rfl rfl rfl ⟨_, _, rfl, rfl, c10⟩ fun a S CL => h_move S CL hw le (subR rfl) rfl rfl rfl ⟨_, _, rfl, rfl, c10⟩ fun a S CL => ?_
     obtain ⟨c11, h2⟩ := chk_of h1; clear h1
     obtain ⟨c12, h3⟩ := chk_of h2; clear h2
     refine bindX h3 fun t3 et3 h4 => h_alts ?_
     refine h_runO S rfl ⟨_, _, rfl, rfl, c10⟩ ?_ ?_
     ·refine s_iaddrO S (ty' := (Ty.atZ ch_0_3 Y30)) rfl .h rfl underlying32 T30 c11.1 c11.2 rfl fun g11 a hA7 S => CL.bk hw S .nil le fun hw => h_alts ?_
      refine h_runO S rfl ⟨_, _, rfl, rfl, c10⟩ ?_ ?_
      ·refine s_ldRA S (ty' := (Ty.atZ ch_0_3 Y30)) (i := x2) (off := 0) (fun c => ((Ty.atZ ch_0_3 Y30).segs (gt y30 x2) c)) rfl hA7 .h T30 c11.1 c11.2 rfl (fun _ => rfl) rfl fun ch10 a S => ?_
       refine CL.bk hw S .nil le fun hw => h_run' S rfl ⟨_, _, rfl, rfl, c10⟩ (s_iaddrO S (ty' := (Ty.atZ ch_0_3 Y30)) rfl .h rfl underlying32 T30 c12.1 c12.2 rfl fun g12 a hA8 S => CL.bk hw S .nil le fun hw => h_run' S rfl ⟨_, _, rfl, rfl, c10⟩ (s_ldRA S (ty' := (Ty.atZ ch_0_3 Y30)) (i := y53) (off := 0) (fun c => ((Ty.atZ ch_0_3 Y30).segs (gt y30 y53) c)) rfl hA8 .h T30 c12.1 c12.2 rfl (fun _ => rfl) rfl fun ch11 a S => ?_))
       refine CL.bk hw S .nil le fun hw => h_run' S rfl ⟨_, _, rfl, rfl, c10⟩ (s_callL S (ds' := [(.agg ((Ty.atZ ch_0_3 Y30).segs (gt y30 x2) ch10)), (.agg ((Ty.atZ ch_0_3 Y30).segs (gt y30 y53) ch11))]) (ds := [(.agg (Y30.segs (gt y30 x2) ch10)), (.agg (Y30.segs (gt y30 y53) ch11))]) (fun (ch : Unit) => ((.i t3) : D)) (fun _ _ _ h => h) (by obtain ⟨mm, g1, gZ, g2⟩ := S.plend .h1; exact ⟨mm, g1, g2, fun ok => ⟨(okA_lend gZ ok.1), (okA_lend gZ ok.2.1), trivial⟩⟩) N35 rfl rfl rfl (fun _ => store_Store_All_1.ok (gt y30 x2) (gt y30 y53) ch10.2.2.2.1.1 ch10.2.2.2.1.2 ch10.2.2.2.2.1 ch10.2.2.2.2.2 ch11.2.2.2.1.1 ch11.2.2.2.1.2 ch11.2.2.2.2.1 ch11.2.2.2.2.2 t3 et3 _ _) fun ch12 a w S => CL.bk hw S .nil le fun hw => ?_)
       replace CL := CL.add (t := 44) (d := (.i t3)) S rfl rfl
       refine h_bin S CL hw le (subR rfl) rfl rfl rfl rfl rfl ⟨_, _, rfl, rfl, c10⟩ fun a S CL => h_not S CL hw le (subR rfl) rfl rfl rfl ⟨_, _, rfl, rfl, c10⟩ fun a S CL => h_pick S CL hw le (subR rfl) (b := true) (hc_of rfl c10) rfl rfl rfl trivial fun a S CL => ?_
       refine h_done ?_; clear CL hw le
       refine x_thenN ?_
       exact j7 _ (!(decide (t3 < 0))) a w (S.sb rfl (.c0 (.c0 .n))) h4
      refine h_runO S rfl ⟨_, _, rfl, rfl, c10⟩ ?_ ?_
      ·refine s_iaddrO S (ty' := (Ty.atZ ch_0_3 Y30)) rfl .h rfl underlying32 T30 c12.1 c12.2 rfl fun g12 a hA8 S => CL.bk hw S .nil le fun hw => h_alts ?_
       refine h_runO S rfl ⟨_, _, rfl, rfl, c10⟩ ?_ ?_
       ·refine s_ldRA S (ty' := (Ty.atZ ch_0_3 Y30)) (i := x2) (off := 0) (fun c => ((Ty.atZ ch_0_3 Y30).segs (gt y30 x2) c)) rfl hA7 .h T30 c11.1 c11.2 rfl (fun _ => rfl) rfl fun ch10 a S => ?_
        refine CL.bk hw S .nil le fun hw => h_run' S rfl ⟨_, _, rfl, rfl, c10⟩ (s_ldRA S (ty' := (Ty.atZ ch_0_3 Y30)) (i := y53) (off := 0) (fun c => ((Ty.atZ ch_0_3 Y30).segs (gt y30 y53) c)) rfl hA8 .h T30 c12.1 c12.2 rfl (fun _ => rfl) rfl fun ch11 a S => ?_)
        refine CL.bk hw S .nil le fun hw => h_run' S rfl ⟨_, _, rfl, rfl, c10⟩ (s_callL S (ds' := [(.agg ((Ty.atZ ch_0_3 Y30).segs (gt y30 x2) ch10)), (.agg ((Ty.atZ ch_0_3 Y30).segs (gt y30 y53) ch11))]) (ds := [(.agg (Y30.segs (gt y30 x2) ch10)), (.agg (Y30.segs (gt y30 y53) ch11))]) (fun (ch : Unit) => ((.i t3) : D)) (fun _ _ _ h => h) (by obtain ⟨mm, g1, gZ, g2⟩ := S.plend .h1; exact ⟨mm, g1, g2, fun ok => ⟨(okA_lend gZ ok.1), (okA_lend gZ ok.2.1), trivial⟩⟩) N35 rfl rfl rfl (fun _ => store_Store_All_1.ok (gt y30 x2) (gt y30 y53) ch10.2.2.2.1.1 ch10.2.2.2.1.2 ch10.2.2.2.2.1 ch10.2.2.2.2.2 ch11.2.2.2.1.1 ch11.2.2.2.1.2 ch11.2.2.2.2.1 ch11.2.2.2.2.2 t3 et3 _ _) fun ch12 a w S => CL.bk hw S .nil le fun hw => ?_)
        replace CL := CL.add (t := 44) (d := (.i t3)) S rfl rfl
        refine h_bin S CL hw le (subR rfl) rfl rfl rfl rfl rfl ⟨_, _, rfl, rfl, c10⟩ fun a S CL => h_not S CL hw le (subR rfl) rfl rfl rfl ⟨_, _, rfl, rfl, c10⟩ fun a S CL => h_pick S CL hw le (subR rfl) (b := true) (hc_of rfl c10) rfl rfl rfl trivial fun a S CL => ?_
        refine h_done ?_; clear CL hw le
        refine x_thenN ?_
        exact j7 _ (!(decide (t3 < 0))) a w (S.sb rfl (.c0 (.c0 .n))) h4
       refine h_runO S rfl ⟨_, _, rfl, rfl, c10⟩ ?_ ?_
       ·refine s_ldRA S (ty' := (Ty.atZ ch_0_3 Y30)) (i := y53) (off := 0) (fun c => ((Ty.atZ ch_0_3 Y30).segs (gt y30 y53) c)) rfl hA8 .h T30 c12.1 c12.2 rfl (fun _ => rfl) rfl fun ch10 a S => ?_
        refine CL.bk hw S .nil le fun hw => h_run' S rfl ⟨_, _, rfl, rfl, c10⟩ (s_ldRA S (ty' := (Ty.atZ ch_0_3 Y30)) (i := x2) (off := 0) (fun c => ((Ty.atZ ch_0_3 Y30).segs (gt y30 x2) c)) rfl hA7 .h T30 c11.1 c11.2 rfl (fun _ => rfl) rfl fun ch11 a S => ?_)
        refine CL.bk hw S .nil le fun hw => h_run' S rfl ⟨_, _, rfl, rfl, c10⟩ (s_callL S (ds' := [(.agg ((Ty.atZ ch_0_3 Y30).segs (gt y30 x2) ch11)), (.agg ((Ty.atZ ch_0_3 Y30).segs (gt y30 y53) ch10))]) (ds := [(.agg (Y30.segs (gt y30 x2) ch11)), (.agg (Y30.segs (gt y30 y53) ch10))]) (fun (ch : Unit) => ((.i t3) : D)) (fun _ _ _ h => h) (by obtain ⟨mm, g1, gZ, g2⟩ := S.plend .h1; exact ⟨mm, g1, g2, fun ok => ⟨(okA_lend gZ ok.1), (okA_lend gZ ok.2.1), trivial⟩⟩) N35 rfl rfl rfl (fun _ => store_Store_All_1.ok (gt y30 x2) (gt y30 y53) ch11.2.2.2.1.1 ch11.2.2.2.1.2 ch11.2.2.2.2.1 ch11.2.2.2.2.2 ch10.2.2.2.1.1 ch10.2.2.2.1.2 ch10.2.2.2.2.1 ch10.2.2.2.2.2 t3 et3 _ _) fun ch12 a w S => CL.bk hw S .nil le fun hw => ?_)
        replace CL := CL.add (t := 44) (d := (.i t3)) S rfl rfl
        refine h_bin S CL hw le (subR rfl) rfl rfl rfl rfl rfl ⟨_, _, rfl, rfl, c10⟩ fun a S CL => h_not S CL hw le (subR rfl) rfl rfl rfl ⟨_, _, rfl, rfl, c10⟩ fun a S CL => h_pick S CL hw le (subR rfl) (b := true) (hc_of rfl c10) rfl rfl rfl trivial fun a S CL => ?_
        refine h_done ?_; clear CL hw le
        refine x_thenN ?_
        exact j7 _ (!(decide (t3 < 0))) a w (S.sb rfl (.c0 (.c0 .n))) h4
       exact h_nil
      exact h_nil
     refine h_runO S rfl ⟨_, _, rfl, rfl, c10⟩ ?_ ?_
     ·refine s_iaddrO S (ty' := (Ty.atZ ch_0_3 Y30)) rfl .h rfl underlying32 T30 c12.1 c12.2 rfl fun g11 a hA7 S => CL.bk hw S .nil le fun hw => h_alts ?_
      refine h_runO S rfl ⟨_, _, rfl, rfl, c10⟩ ?_ ?_
      ·refine s_iaddrO S (ty' := (Ty.atZ ch_0_3 Y30)) rfl .h rfl underlying32 T30 c11.1 c11.2 rfl fun g12 a hA8 S => CL.bk hw S .nil le fun hw => h_alts ?_
       refine h_runO S rfl ⟨_, _, rfl, rfl, c10⟩ ?_ ?_
       ·refine s_ldRA S (ty' := (Ty.atZ ch_0_3 Y30)) (i := x2) (off := 0) (fun c => ((Ty.atZ ch_0_3 Y30).segs (gt y30 x2) c)) rfl hA8 .h T30 c11.1 c11.2 rfl (fun _ => rfl) rfl fun ch10 a S => ?_
        refine CL.bk hw S .nil le fun hw => h_run' S rfl ⟨_, _, rfl, rfl, c10⟩ (s_ldRA S (ty' := (Ty.atZ ch_0_3 Y30)) (i := y53) (off := 0) (fun c => ((Ty.atZ ch_0_3 Y30).segs (gt y30 y53) c)) rfl hA7 .h T30 c12.1 c12.2 rfl (fun _ => rfl) rfl fun ch11 a S => ?_)
        refine CL.bk hw S .nil le fun hw => h_run' S rfl ⟨_, _, rfl, rfl, c10⟩ (s_callL S (ds' := [(.agg ((Ty.atZ ch_0_3 Y30).segs (gt y30 x2) ch10)), (.agg ((Ty.atZ ch_0_3 Y30).segs (gt y30 y53) ch11))]) (ds := [(.agg (Y30.segs (gt y30 x2) ch10)), (.agg (Y30.segs (gt y30 y53) ch11))]) (fun (ch : Unit) => ((.i t3) : D)) (fun _ _ _ h => h) (by obtain ⟨mm, g1, gZ, g2⟩ := S.plend .h1; exact ⟨mm, g1, g2, fun ok => ⟨(okA_lend gZ ok.1), (okA_lend gZ ok.2.1), trivial⟩⟩) N35 rfl rfl rfl (fun _ => store_Store_All_1.ok (gt y30 x2) (gt y30 y53) ch10.2.2.2.1.1 ch10.2.2.2.1.2 ch10.2.2.2.2.1 ch10.2.2.2.2.2 ch11.2.2.2.1.1 ch11.2.2.2.1.2 ch11.2.2.2.2.1 ch11.2.2.2.2.2 t3 et3 _ _) fun ch12 a w S => CL.bk hw S .nil le fun hw => ?_)
        replace CL := CL.add (t := 44) (d := (.i t3)) S rfl rfl
        refine h_bin S CL hw le (subR rfl) rfl rfl rfl rfl rfl ⟨_, _, rfl, rfl, c10⟩ fun a S CL => h_not S CL hw le (subR rfl) rfl rfl rfl ⟨_, _, rfl, rfl, c10⟩ fun a S CL => h_pick S CL hw le (subR rfl) (b := true) (hc_of rfl c10) rfl rfl rfl trivial fun a S CL => ?_
        refine h_done ?_; clear CL hw le
        refine x_thenN ?_
        exact j7 _ (!(decide (t3 < 0))) a w (S.sb rfl (.c0 (.c0 .n))) h4
       refine h_runO S rfl ⟨_, _, rfl, rfl, c10⟩ ?_ ?_
       ·refine s_ldRA S (ty' := (Ty.atZ ch_0_3 Y30)) (i := y53) (off := 0) (fun c => ((Ty.atZ ch_0_3 Y30).segs (gt y30 y53) c)) rfl hA7 .h T30 c12.1 c12.2 rfl (fun _ => rfl) rfl fun ch10 a S => ?_
        refine CL.bk hw S .nil le fun hw => h_run' S rfl ⟨_, _, rfl, rfl, c10⟩ (s_ldRA S (ty' := (Ty.atZ ch_0_3 Y30)) (i := x2) (off := 0) (fun c => ((Ty.atZ ch_0_3 Y30).segs (gt y30 x2) c)) rfl hA8 .h T30 c11.1 c11.2 rfl (fun _ => rfl) rfl fun ch11 a S => ?_)
        refine CL.bk hw S .nil le fun hw => h_run' S rfl ⟨_, _, rfl, rfl, c10⟩ (s_callL S (ds' := [(.agg ((Ty.atZ ch_0_3 Y30).segs (gt y30 x2) ch11)), (.agg ((Ty.atZ ch_0_3 Y30).segs (gt y30 y53) ch10))]) (ds := [(.agg (Y30.segs (gt y30 x2) ch11)), (.agg (Y30.segs (gt y30 y53) ch10))]) (fun (ch : Unit) => ((.i t3) : D)) (fun _ _ _ h => h) (by obtain ⟨mm, g1, gZ, g2⟩ := S.plend .h1; exact ⟨mm, g1, g2, fun ok => ⟨(okA_lend gZ ok.1), (okA_lend gZ ok.2.1), trivial⟩⟩) N35 rfl rfl rfl (fun _ => store_Store_All_1.ok (gt y30 x2) (gt y30 y53) ch11.2.2.2.1.1 ch11.2.2.2.1.2 ch11.2.2.2.2.1 ch11.2.2.2.2.2 ch10.2.2.2.1.1 ch10.2.2.2.1.2 ch10.2.2.2.2.1 ch10.2.2.2.2.2 t3 et3 _ _) fun ch12 a w S => CL.bk hw S .nil le fun hw => ?_)
        replace CL := CL.add (t := 44) (d := (.i t3)) S rfl rfl
        refine h_bin S CL hw le (subR rfl) rfl rfl rfl rfl rfl ⟨_, _, rfl, rfl, c10⟩ fun a S CL => h_not S CL hw le (subR rfl) rfl rfl rfl ⟨_, _, rfl, rfl, c10⟩ fun a S CL => h_pick S CL hw le (subR rfl) (b := true) (hc_of rfl c10) rfl rfl rfl trivial fun a S CL => ?_
        refine h_done ?_; clear CL hw le
        refine x_thenN ?_
        exact j7 _ (!(decide (t3 < 0))) a w (S.sb rfl (.c0 (.c0 .n))) h4
       exact h_nil
      refine h_runO S rfl ⟨_, _, rfl, rfl, c10⟩ ?_ ?_
      ·refine s_ldRA S (ty' := (Ty.atZ ch_0_3 Y30)) (i := y53) (off := 0) (fun c => ((Ty.atZ ch_0_3 Y30).segs (gt y30 y53) c)) rfl hA7 .h T30 c12.1 c12.2 rfl (fun _ => rfl) rfl fun ch10 a S => ?_
       refine CL.bk hw S .nil le fun hw => h_run' S rfl ⟨_, _, rfl, rfl, c10⟩ (s_iaddrO S (ty' := (Ty.atZ ch_0_3 Y30)) rfl .h rfl underlying32 T30 c11.1 c11.2 rfl fun g12 a hA8 S => CL.bk hw S .nil le fun hw => h_run' S rfl ⟨_, _, rfl, rfl, c10⟩ (s_ldRA S (ty' := (Ty.atZ ch_0_3 Y30)) (i := x2) (off := 0) (fun c => ((Ty.atZ ch_0_3 Y30).segs (gt y30 x2) c)) rfl hA8 .h T30 c11.1 c11.2 rfl (fun _ => rfl) rfl fun ch11 a S => ?_))
       refine CL.bk hw S .nil le fun hw => h_run' S rfl ⟨_, _, rfl, rfl, c10⟩ (s_callL S (ds' := [(.agg ((Ty.atZ ch_0_3 Y30).segs (gt y30 x2) ch11)), (.agg ((Ty.atZ ch_0_3 Y30).segs (gt y30 y53) ch10))]) (ds := [(.agg (Y30.segs (gt y30 x2) ch11)), (.agg (Y30.segs (gt y30 y53) ch10))]) (fun (ch : Unit) => ((.i t3) : D)) (fun _ _ _ h => h) (by obtain ⟨mm, g1, gZ, g2⟩ := S.plend .h1; exact ⟨mm, g1, g2, fun ok => ⟨(okA_lend gZ ok.1), (okA_lend gZ ok.2.1), trivial⟩⟩) N35 rfl rfl rfl (fun _ => store_Store_All_1.ok (gt y30 x2) (gt y30 y53) ch11.2.2.2.1.1 ch11.2.2.2.1.2 ch11.2.2.2.2.1 ch11.2.2.2.2.2 ch10.2.2.2.1.1 ch10.2.2.2.1.2 ch10.2.2.2.2.1 ch10.2.2.2.2.2 t3 et3 _ _) fun ch12 a w S => CL.bk hw S .nil le fun hw => ?_)
       replace CL := CL.add (t := 44) (d := (.i t3)) S rfl rfl
       refine h_bin S CL hw le (subR rfl) rfl rfl rfl rfl rfl ⟨_, _, rfl, rfl, c10⟩ fun a S CL => h_not S CL hw le (subR rfl) rfl rfl rfl ⟨_, _, rfl, rfl, c10⟩ fun a S CL => h_pick S CL hw le (subR rfl) (b := true) (hc_of rfl c10) rfl rfl rfl trivial fun a S CL => ?_
       refine h_done ?_; clear CL hw le
       refine x_thenN ?_
       exact j7 _ (!(decide (t3 < 0))) a w (S.sb rfl (.c0 (.c0 .n))) h4
      exact h_nil
     exact h_nil
    ·refine h_skip S CL rfl rfl rfl (ne_bool c10) rfl fun a S CL => h_skip S CL rfl rfl rfl (ne_bool c10) rfl fun a S CL => h_skip S CL rfl rfl rfl (ne_bool c10) rfl fun a S CL => h_skip S CL rfl rfl rfl (ne_bool c10) rfl fun a S CL => h_skip S CL rfl rfl rfl (ne_bool c10) rfl fun a S CL => h_alts ?_
     refine h_skipOt S rfl rfl rfl (ne_bool c10) rfl ?_ ?_
     ·clear S a; intro a S
      refine CL.bk hw S .nil le fun hw => h_alts ?_
      refine h_skipOt S rfl rfl rfl (ne_bool c10) rfl ?_ ?_
      ·clear S a; intro a S
       refine CL.bk hw S .nil le fun hw => h_skipRt S rfl rfl rfl (ne_bool c10) rfl fun a S => CL.bk hw S .nil le fun hw => h_skipRt S rfl rfl rfl (ne_bool c10) rfl fun a S => CL.bk hw S .nil le fun hw => h_skipRt S rfl rfl rfl (ne_bool c10) rfl fun a S => CL.bk hw S .nil le fun hw => ?_
       replace CL := CL.add (t := 44) (d := .u) S rfl rfl
       refine h_skip S CL rfl rfl rfl (ne_bool c10) rfl fun a S CL => h_skip S CL rfl rfl rfl (ne_bool c10) rfl fun a S CL => h_pick S CL hw le (subR rfl) (b := false) (hc_of rfl c10) rfl rfl rfl trivial fun a S CL => ?_
       refine h_done ?_; clear CL hw le
       refine x_thenN ?_
       exact j7 _ false a w (S.sb rfl (.c0 (.c0 .n))) h1
      refine h_skipOt S rfl rfl rfl (ne_bool c10) rfl ?_ ?_
      ·clear S a; intro a S
       refine CL.bk hw S .nil le fun hw => h_alts ?_
       refine h_skipOt S rfl rfl rfl (ne_bool c10) rfl ?_ ?_
       ·clear S a; intro a S
        refine CL.bk hw S .nil le fun hw => h_skipRt S rfl rfl rfl (ne_bool c10) rfl fun a S => CL.bk hw S .nil le fun hw => h_skipRt S rfl rfl rfl (ne_bool c10) rfl fun a S => CL.bk hw S .nil le fun hw => ?_
        replace CL := CL.add (t := 44) (d := .u) S rfl rfl
        refine h_skip S CL rfl rfl rfl (ne_bool c10) rfl fun a S CL => h_skip S CL rfl rfl rfl (ne_bool c10) rfl fun a S CL => h_pick S CL hw le (subR rfl) (b := false) (hc_of rfl c10) rfl rfl rfl trivial fun a S CL => ?_
        refine h_done ?_; clear CL hw le
        refine x_thenN ?_
        exact j7 _ false a w (S.sb rfl (.c0 (.c0 .n))) h1
       refine h_skipOt S rfl rfl rfl (ne_bool c10) rfl ?_ ?_
       ·clear S a; intro a S
        refine CL.bk hw S .nil le fun hw => h_skipRt S rfl rfl rfl (ne_bool c10) rfl fun a S => CL.bk hw S .nil le fun hw => h_skipRt S rfl rfl rfl (ne_bool c10) rfl fun a S => CL.bk hw S .nil le fun hw => ?_
        replace CL := CL.add (t := 44) (d := .u) S rfl rfl
        refine h_skip S CL rfl rfl rfl (ne_bool c10) rfl fun a S CL => h_skip S CL rfl rfl rfl (ne_bool c10) rfl fun a S CL => h_pick S CL hw le (subR rfl) (b := false) (hc_of rfl c10) rfl rfl rfl trivial fun a S CL => ?_
        refine h_done ?_; clear CL hw le
        refine x_thenN ?_
        exact j7 _ false a w (S.sb rfl (.c0 (.c0 .n))) h1
       exact h_nil
      exact h_nil
     refine h_skipOt S rfl rfl rfl (ne_bool c10) rfl ?_ ?_
     ·clear S a; intro a S
      refine CL.bk hw S .nil le fun hw => h_alts ?_
      refine h_skipOt S rfl rfl rfl (ne_bool c10) rfl ?_ ?_
      ·clear S a; intro a S
       refine CL.bk hw S .nil le fun hw => h_alts ?_
       refine h_skipOt S rfl rfl rfl (ne_bool c10) rfl ?_ ?_
       ·clear S a; intro a S
        refine CL.bk hw S .nil le fun hw => h_skipRt S rfl rfl rfl (ne_bool c10) rfl fun a S => CL.bk hw S .nil le fun hw => h_skipRt S rfl rfl rfl (ne_bool c10) rfl fun a S => CL.bk hw S .nil le fun hw => ?_
        replace CL := CL.add (t := 44) (d := .u) S rfl rfl
        refine h_skip S CL rfl rfl rfl (ne_bool c10) rfl fun a S CL => h_skip S CL rfl rfl rfl (ne_bool c10) rfl fun a S CL => h_pick S CL hw le (subR rfl) (b := false) (hc_of rfl c10) rfl rfl rfl trivial fun a S CL => ?_
        refine h_done ?_; clear CL hw le
        refine x_thenN ?_
        exact j7 _ false a w (S.sb rfl (.c0 (.c0 .n))) h1
       refine h_skipOt S rfl rfl rfl (ne_bool c10) rfl ?_ ?_
       ·clear S a; intro a S
        refine CL.bk hw S .nil le fun hw => h_skipRt S rfl rfl rfl (ne_bool c10) rfl fun a S => CL.bk hw S .nil le fun hw => h_skipRt S rfl rfl rfl (ne_bool c10) rfl fun a S => CL.bk hw S .nil le fun hw => ?_
        replace CL := CL.add (t := 44) (d := .u) S rfl rfl
        refine h_skip S CL rfl rfl rfl (ne_bool c10) rfl fun a S CL => h_skip S CL rfl rfl rfl (ne_bool c10) rfl fun a S CL => h_pick S CL hw le (subR rfl) (b := false) (hc_of rfl c10) rfl rfl rfl trivial fun a S CL => ?_
        refine h_done ?_; clear CL hw le
        refine x_thenN ?_
        exact j7 _ false a w (S.sb rfl (.c0 (.c0 .n))) h1
       exact h_nil
      refine h_skipOt S rfl rfl rfl (ne_bool c10) rfl ?_ ?_
      ·clear S a; intro a S
       refine CL.bk hw S .nil le fun hw => h_skipRt S rfl rfl rfl (ne_bool c10) rfl fun a S => CL.bk hw S .nil le fun hw => h_skipRt S rfl rfl rfl (ne_bool c10) rfl fun a S => CL.bk hw S .nil le fun hw => h_skipRt S rfl rfl rfl (ne_bool c10) rfl fun a S => CL.bk hw S .nil le fun hw => ?_
       replace CL := CL.add (t := 44) (d := .u) S rfl rfl
       refine h_skip S CL rfl rfl rfl (ne_bool c10) rfl fun a S CL => h_skip S CL rfl rfl rfl (ne_bool c10) rfl fun a S CL => h_pick S CL hw le (subR rfl) (b := false) (hc_of rfl c10) rfl rfl rfl trivial fun a S CL => ?_
       refine h_done ?_; clear CL hw le
       refine x_thenN ?_
       exact j7 _ false a w (S.sb rfl (.c0 (.c0 .n))) h1
      exact h_nil
     exact h_nil
 refine c_heldS S (.take 0 (.take 1 (.take 2 (.take 3 (.take 4 (.take 5 (.take 8 (.take 9 (.alts (.run 6 true (.alts (.run 7 true (.alts (.run 10 true (.alts (.run 11 true (.alts (.run 12 true (.alts (.run 13 true (.alts (.run 14 true (.alts (.run 15 false .done .nil)) .nil)) .nil)) .nil)) .nil)) .nil)) (.run 10 true (.alts (.run 7 true (.alts (.run 11 true (.alts (.run 12 true (.alts (.run 13 true (.alts (.run 14 true (.alts (.run 15 false .done .nil)) .nil)) .nil)) .nil)) .nil)) (.run 11 true (.alts (.run 7 true (.alts (.run 12 true (.alts (.run 13 true (.alts (.run 14 true (.alts (.run 15 false .done .nil)) .nil)) .nil)) .nil)) .nil)) .nil))) .nil))) (.run 10 true (.alts (.run 6 true (.alts (.run 7 true (.alts (.run 11 true (.alts (.run 12 true (.alts (.run 13 true (.alts (.run 14 true (.alts (.run 15 false .done .nil)) .nil)) .nil)) .nil)) .nil)) (.run 11 true (.alts (.run 7 true (.alts (.run 12 true (.alts (.run 13 true (.alts (.run 14 true (.alts (.run 15 false .done .nil)) .nil)) .nil)) .nil)) .nil)) .nil))) (.run 11 true (.alts (.run 6 true (.alts (.run 7 true (.alts (.run 12 true (.alts (.run 13 true (.alts (.run 14 true (.alts (.run 15 false .done .nil)) .nil)) .nil)) .nil)) .nil)) .nil)) .nil))) .nil))))))))))) 15 [] .nil trivial [(0, (.s ch_0_0 ch_0_1 ch_0_2)), (1, (.i x2)), (3, (.i x4))] (subR rfl) (by kernel_rfl) (by kernel_rfl) fun w S CL hw le => ?_
 refine h_move S CL hw le (subR rfl) rfl rfl rfl trivial fun a S CL => h_move S CL hw le (subR rfl) rfl rfl rfl trivial fun a S CL => h_move S CL hw le (subR rfl) rfl rfl rfl trivial fun a S CL => h_move S CL hw le (subR rfl) rfl rfl rfl trivial fun a S CL => h_move S CL hw le (subR rfl) rfl rfl rfl trivial fun a S CL => h_move S CL hw le (subR rfl) rfl rfl rfl trivial fun a S CL => h_move S CL hw le (subR rfl) rfl rfl rfl trivial fun a S CL => h_move S CL hw le (subR rfl) rfl rfl rfl trivial fun a S CL => ?_
 obtain ⟨c13, h1⟩ := chk_of h0; clear h0
 obtain ⟨c14, h2⟩ := chk_of h1; clear h1
 obtain ⟨c15, h3⟩ := chk_of h2; clear h2
 refine h_alts ?_
 refine h_runO S rfl trivial ?_ ?_
 ·refine s_iaddrO S (ty' := (Ty.atZ ch_0_3 Y30)) rfl .h rfl underlying32 T30 c13.1 c13.2 rfl fun g13 a hA9 S => CL.bk hw S .nil le fun hw => h_alts ?_
  refine h_runO S rfl trivial ?_ ?_
  ·refine s_ldRA S (ty' := (Ty.atZ ch_0_3 Y30)) (i := x4) (off := 0) (fun c => ((Ty.atZ ch_0_3 Y30).segs (gt x1 x4) c)) rfl hA9 .h T30 c13.1 c13.2 rfl (fun _ => rfl) rfl fun ch13 a S => ?_
   refine CL.br hw S .nil le rfl trivial fun hw => (s_iaddrO S (ty' := (Ty.atZ ch_0_3 Y30)) rfl .h rfl underlying32 T30 c14.1 c14.2 rfl fun g14 a hA10 S => CL.br hw S .nil le rfl trivial fun hw => (s_ldRA S (ty' := (Ty.atZ ch_0_3 Y30)) (i := x2) (off := 0) (fun c => ((Ty.atZ ch_0_3 Y30).segs (gt x1 x2) c)) rfl hA10 .h T30 c14.1 c14.2 rfl (fun _ => rfl) rfl fun ch14 a S => ?_))
   refine CL.br hw S .nil le rfl trivial fun hw => (s_iaddrO S (ty' := (Ty.atZ ch_0_3 Y30)) rfl .h rfl underlying32 T30 c14.1 c14.2 rfl fun g15 a hA11 S => CL.br hw S .nil le rfl trivial fun hw => (s_stR S (ty' := (Ty.atZ ch_0_3 Y30)) (i := x2) (off := 0) (u := gt x1 x4) (fun _ => ch13) rfl rfl rfl hA11 .h T30 c14.1 c14.2 rfl (show 0 + 27 ≤ (Y30).size by decide) rfl (fun _ => rfl) fun w S => CL.br hw S .nil le rfl trivial fun hw => (s_iaddrO S (ty' := (Ty.atZ ch_0_3 Y30)) rfl .h rfl underlying32 T30 c15.1 c15.2 rfl fun g16 a hA12 S => CL.br hw S .nil le rfl trivial fun hw => (s_stR S (ty' := (Ty.atZ ch_0_3 Y30)) (i := x4) (off := 0) (u := gt x1 x2) (fun _ => ch14) rfl rfl rfl hA12 .h T30 c15.1 c15.2 rfl (show 0 + 27 ≤ (Y30).size by decide) rfl (fun _ => rfl) fun w S => ?_))))
   refine h_back ⟨fun h => (nomatch h), ?_⟩
   refine h_done ?_; clear CL hw le
   refine x_thenN ?_
   exact j1 _ a w (S.sb rfl (.c0 (.c0 .n))) h3
  refine h_runO S rfl trivial ?_ ?_
  ·refine s_iaddrO S (ty' := (Ty.atZ ch_0_3 Y30)) rfl .h rfl underlying32 T30 c14.1 c14.2 rfl fun g14 a hA10 S => CL.bk hw S .nil le fun hw => h_alts ?_
   refine h_runO S rfl trivial ?_ ?_
   ·refine s_ldRA S (ty' := (Ty.atZ ch_0_3 Y30)) (i := x4) (off := 0) (fun c => ((Ty.atZ ch_0_3 Y30).segs (gt x1 x4) c)) rfl hA9 .h T30 c13.1 c13.2 rfl (fun _ => rfl) rfl fun ch13 a S => ?_
    refine CL.br hw S .nil le rfl trivial fun hw => (s_ldRA S (ty' := (Ty.atZ ch_0_3 Y30)) (i := x2) (off := 0) (fun c => ((Ty.atZ ch_0_3 Y30).segs (gt x1 x2) c)) rfl hA10 .h T30 c14.1 c14.2 rfl (fun _ => rfl) rfl fun ch14 a S => ?_)
    refine CL.br hw S .nil le rfl trivial fun hw => (s_iaddrO S (ty' := (Ty.atZ ch_0_3 Y30)) rfl .h rfl underlying32 T30 c14.1 c14.2 rfl fun g15 a hA11 S => CL.br hw S .nil le rfl trivial fun hw => (s_stR S (ty' := (Ty.atZ ch_0_3 Y30)) (i := x2) (off := 0) (u := gt x1 x4) (fun _ => ch13) rfl rfl rfl hA11 .h T30 c14.1 c14.2 rfl (show 0 + 27 ≤ (Y30).size by decide) rfl (fun _ => rfl) fun w S => CL.br hw S .nil le rfl trivial fun hw => (s_iaddrO S (ty' := (Ty.atZ ch_0_3 Y30)) rfl .h rfl underlying32 T30 c15.1 c15.2 rfl fun g16 a hA12 S => CL.br hw S .nil le rfl trivial fun hw => (s_stR S (ty' := (Ty.atZ ch_0_3 Y30)) (i := x4) (off := 0) (u := gt x1 x2) (fun _ => ch14) rfl rfl rfl hA12 .h T30 c15.1 c15.2 rfl (show 0 + 27 ≤ (Y30).size by decide) rfl (fun _ => rfl) fun w S => ?_))))
    refine h_back ⟨fun h => (nomatch h), ?_⟩
    refine h_done ?_; clear CL hw le
    refine x_thenN ?_
    exact j1 _ a w (S.sb rfl (.c0 (.c0 .n))) h3
   refine h_runO S rfl trivial ?_ ?_
   ·refine s_ldRA S (ty' := (Ty.atZ ch_0_3 Y30)) (i := x2) (off := 0) (fun c => ((Ty.atZ ch_0_3 Y30).segs (gt x1 x2) c)) rfl hA10 .h T30 c14.1 c14.2 rfl (fun _ => rfl) rfl fun ch13 a S => ?_
    refine CL.br hw S .nil le rfl trivial fun hw => (s_ldRA S (ty' := (Ty.atZ ch_0_3 Y30)) (i := x4) (off := 0) (fun c => ((Ty.atZ ch_0_3 Y30).segs (gt x1 x4) c)) rfl hA9 .h T30 c13.1 c13.2 rfl (fun _ => rfl) rfl fun ch14 a S => ?_)
    refine CL.br hw S .nil le rfl trivial fun hw => (s_iaddrO S (ty' := (Ty.atZ ch_0_3 Y30)) rfl .h rfl underlying32 T30 c14.1 c14.2 rfl fun g15 a hA11 S => CL.br hw S .nil le rfl trivial fun hw => (s_stR S (ty' := (Ty.atZ ch_0_3 Y30)) (i := x2) (off := 0) (u := gt x1 x4) (fun _ => ch14) rfl rfl rfl hA11 .h T30 c14.1 c14.2 rfl (show 0 + 27 ≤ (Y30).size by decide) rfl (fun _ => rfl) fun w S => CL.br hw S .nil le rfl trivial fun hw => (s_iaddrO S (ty' := (Ty.atZ ch_0_3 Y30)) rfl .h rfl underlying32 T30 c15.1 c15.2 rfl fun g16 a hA12 S => CL.br hw S .nil le rfl trivial fun hw => (s_stR S (ty' := (Ty.atZ ch_0_3 Y30)) (i := x4) (off := 0) (u := gt x1 x2) (fun _ => ch13) rfl rfl rfl hA12 .h T30 c15.1 c15.2 rfl (show 0 + 27 ≤ (Y30).size by decide) rfl (fun _ => rfl) fun w S => ?_))))
    refine h_back ⟨fun h => (nomatch h), ?_⟩
    refine h_done ?_; clear CL hw le
    refine x_thenN ?_
    exact j1 _ a w (S.sb rfl (.c0 (.c0 .n))) h3
   exact h_nil
  exact h_nil
 refine h_runO S rfl trivial ?_ ?_
 ·refine s_iaddrO S (ty' := (Ty.atZ ch_0_3 Y30)) rfl .h rfl underlying32 T30 c14.1 c14.2 rfl fun g13 a hA9 S => CL.bk hw S .nil le fun hw => h_alts ?_
  refine h_runO S rfl trivial ?_ ?_
  ·refine s_iaddrO S (ty' := (Ty.atZ ch_0_3 Y30)) rfl .h rfl underlying32 T30 c13.1 c13.2 rfl fun g14 a hA10 S => CL.bk hw S .nil le fun hw => h_alts ?_
   refine h_runO S rfl trivial ?_ ?_
   ·refine s_ldRA S (ty' := (Ty.atZ ch_0_3 Y30)) (i := x4) (off := 0) (fun c => ((Ty.atZ ch_0_3 Y30).segs (gt x1 x4) c)) rfl hA10 .h T30 c13.1 c13.2 rfl (fun _ => rfl) rfl fun ch13 a S => ?_
    refine CL.br hw S .nil le rfl trivial fun hw => (s_ldRA S (ty' := (Ty.atZ ch_0_3 Y30)) (i := x2) (off := 0) (fun c => ((Ty.atZ ch_0_3 Y30).segs (gt x1 x2) c)) rfl hA9 .h T30 c14.1 c14.2 rfl (fun _ => rfl) rfl fun ch14 a S => ?_)
    refine CL.br hw S .nil le rfl trivial fun hw => (s_iaddrO S (ty' := (Ty.atZ ch_0_3 Y30)) rfl .h rfl underlying32 T30 c14.1 c14.2 rfl fun g15 a hA11 S => CL.br hw S .nil le rfl trivial fun hw => (s_stR S (ty' := (Ty.atZ ch_0_3 Y30)) (i := x2) (off := 0) (u := gt x1 x4) (fun _ => ch13) rfl rfl rfl hA11 .h T30 c14.1 c14.2 rfl (show 0 + 27 ≤ (Y30).size by decide) rfl (fun _ => rfl) fun w S => CL.br hw S .nil le rfl trivial fun hw => (s_iaddrO S (ty' := (Ty.atZ ch_0_3 Y30)) rfl .h rfl underlying32 T30 c15.1 c15.2 rfl fun g16 a hA12 S => CL.br hw S .nil le rfl trivial fun hw => (s_stR S (ty' := (Ty.atZ ch_0_3 Y30)) (i := x4) (off := 0) (u := gt x1 x2) (fun _ => ch14) rfl rfl rfl hA12 .h T30 c15.1 c15.2 rfl (show 0 + 27 ≤ (Y30).size by decide) rfl (fun _ => rfl) fun w S => ?_))))
    refine h_back ⟨fun h => (nomatch h), ?_⟩
    refine h_done ?_; clear CL hw le
    refine x_thenN ?_
    exact j1 _ a w (S.sb rfl (.c0 (.c0 .n))) h3
   refine h_runO S rfl trivial ?_ ?_
   ·refine s_ldRA S (ty' := (Ty.atZ ch_0_3 Y30)) (i := x2) (off := 0) (fun c => ((Ty.atZ ch_0_3 Y30).segs (gt x1 x2) c)) rfl hA9 .h T30 c14.1 c14.2 rfl (fun _ => rfl) rfl fun ch13 a S => ?_
    refine CL.br hw S .nil le rfl trivial fun hw => (s_ldRA S (ty' := (Ty.atZ ch_0_3 Y30)) (i := x4) (off := 0) (fun c => ((Ty.atZ ch_0_3 Y30).segs (gt x1 x4) c)) rfl hA10 .h T30 c13.1 c13.2 rfl (fun _ => rfl) rfl fun ch14 a S => ?_)
    refine CL.br hw S .nil le rfl trivial fun hw => (s_iaddrO S (ty' := (Ty.atZ ch_0_3 Y30)) rfl .h rfl underlying32 T30 c14.1 c14.2 rfl fun g15 a hA11 S => CL.br hw S .nil le rfl trivial fun hw => (s_stR S (ty' := (Ty.atZ ch_0_3 Y30)) (i := x2) (off := 0) (u := gt x1 x4) (fun _ => ch14) rfl rfl rfl hA11 .h T30 c14.1 c14.2 rfl (show 0 + 27 ≤ (Y30).size by decide) rfl (fun _ => rfl) fun w S => CL.br hw S .nil le rfl trivial fun hw => (s_iaddrO S (ty' := (Ty.atZ ch_0_3 Y30)) rfl .h rfl underlying32 T30 c15.1 c15.2 rfl fun g16 a hA12 S => CL.br hw S .nil le rfl trivial fun hw => (s_stR S (ty' := (Ty.atZ ch_0_3 Y30)) (i := x4) (off := 0) (u := gt x1 x2) (fun _ => ch13) rfl rfl rfl hA12 .h T30 c15.1 c15.2 rfl (show 0 + 27 ≤ (Y30).size by decide) rfl (fun _ => rfl) fun w S => ?_))))
    refine h_back ⟨fun h => (nomatch h), ?_⟩
    refine h_done ?_; clear CL hw le
    refine x_thenN ?_
    exact j1 _ a w (S.sb rfl (.c0 (.c0 .n))) h3
   exact h_nil
  refine h_runO S rfl trivial ?_ ?_
  ·refine s_ldRA S (ty' := (Ty.atZ ch_0_3 Y30)) (i := x2) (off := 0) (fun c => ((Ty.atZ ch_0_3 Y30).segs (gt x1 x2) c)) rfl hA9 .h T30 c14.1 c14.2 rfl (fun _ => rfl) rfl fun ch13 a S => ?_
   refine CL.br hw S .nil le rfl trivial fun hw => (s_iaddrO S (ty' := (Ty.atZ ch_0_3 Y30)) rfl .h rfl underlying32 T30 c13.1 c13.2 rfl fun g14 a hA10 S => CL.br hw S .nil le rfl trivial fun hw => (s_ldRA S (ty' := (Ty.atZ ch_0_3 Y30)) (i := x4) (off := 0) (fun c => ((Ty.atZ ch_0_3 Y30).segs (gt x1 x4) c)) rfl hA10 .h T30 c13.1 c13.2 rfl (fun _ => rfl) rfl fun ch14 a S => ?_))
   refine CL.br hw S .nil le rfl trivial fun hw => (s_iaddrO S (ty' := (Ty.atZ ch_0_3 Y30)) rfl .h rfl underlying32 T30 c14.1 c14.2 rfl fun g15 a hA11 S => CL.br hw S .nil le rfl trivial fun hw => (s_stR S (ty' := (Ty.atZ ch_0_3 Y30)) (i := x2) (off := 0) (u := gt x1 x4) (fun _ => ch14) rfl rfl rfl hA11 .h T30 c14.1 c14.2 rfl (show 0 + 27 ≤ (Y30).size by decide) rfl (fun _ => rfl) fun w S => CL.br hw S .nil le rfl trivial fun hw => (s_iaddrO S (ty' := (Ty.atZ ch_0_3 Y30)) rfl .h rfl underlying32 T30 c15.1 c15.2 rfl fun g16 a hA12 S => CL.br hw S .nil le rfl trivial fun hw => (s_stR S (ty' := (Ty.atZ ch_0_3 Y30)) (i := x4) (off := 0) (u := gt x1 x2) (fun _ => ch13) rfl rfl rfl hA12 .h T30 c15.1 c15.2 rfl (show 0 + 27 ≤ (Y30).size by decide) rfl (fun _ => rfl) fun w S => ?_))))
   refine h_back ⟨fun h => (nomatch h), ?_⟩
   refine h_done ?_; clear CL hw le
   refine x_thenN ?_
   exact j1 _ a w (S.sb rfl (.c0 (.c0 .n))) h3
  exact h_nil
 exact h_nil
end
end GW
