import Derived.Test.YtldbgghcailgfaaProg
import Derived.Test.YtldbgghcailgfaaGA
set_option linter.unusedVariables false
set_option linter.unusedSimpArgs false
set_option maxRecDepth 10000
set_option maxHeartbeats 4000000
namespace GW
open Go Go.RowKit Go.Proofs Go.Proofs.Try
noncomputable section
abbrev fork_Cache_Account.Ty : Type := ((List ((List Int) × L34)) × (List ((List Int) × Int))) → (List Int) → Option ((L34) × Bool)
def fork_Cache_Account.Ctr (s : fork_Cache_Account.Ty) : Prop := ∀ (x1 : (List ((List Int) × L34)) × (List ((List Int) × Int))) (x2 : List Int) (ch_0_0 : Nat) (ch_0_1 : Nat) (ch_0_2 : Nat) (r : (L34) × Bool), Ct (C := ((Option Addr) × Nat × Nat × (Option Addr) × Nat × Nat)) Try.prog 15 (s x1 x2 = some r) [Res.cells ch_0_0 76 [.one (.map (some ch_0_1)), .one (.map (some ch_0_2))], Res.map true (Ty.arr .u8 20) true Y34 ch_0_1 x1.1, Res.map true (Ty.arr .u8 20) false yi ch_0_2 x1.2] [(.p ch_0_0), (.agg [.b20 x2])] (fun ch => (.tup [(true, [.b20 r.1.1, .w r.1.2.1, .w4 r.1.2.2.1, .s ch.1 ch.2.1 ch.2.2.1, .s ch.2.2.2.1 ch.2.2.2.2.1 ch.2.2.2.2.2]), (false, [.b r.2])])) fun ch => [Res.row yb 5 ch.1 ch.2.1 ch.2.2.1 r.1.2.2.2.1, Res.row Y71 71 ch.2.2.2.1 ch.2.2.2.2.1 ch.2.2.2.2.2 r.1.2.2.2.2, Res.cells ch_0_0 76 [.one (.map (some ch_0_1)), .one (.map (some ch_0_2))], Res.map true (Ty.arr .u8 20) true Y34 ch_0_1 x1.1, Res.map true (Ty.arr .u8 20) false yi ch_0_2 x1.2]
def fork_Cache_Account.j1 (x1 : (List ((List Int) × L34)) × (List ((List Int) × Int))) (x2 : List Int) : Option ((L34) × Bool) := if ((lk (aget x1.1 x2) zt1).2) = true then ((fork_own.f ((lk (aget x1.1 x2) zt1).1)).bind fun t1 => (some (t1, true))) else (some ((x2, 0, [0, 0, 0, 0], ([] : List Int), ([] : List ((List Int) × (List Int)))), false))
def fork_Cache_Account.f (x1 : (List ((List Int) × L34)) × (List ((List Int) × Int))) (x2 : List Int) : Option ((L34) × Bool) := fork_Cache_Account.j1 x1 x2
theorem fork_Cache_Account.ok : fork_Cache_Account.Ctr (fork_Cache_Account.f) := by
 intro x1 x2 ch_0_0 ch_0_1 ch_0_2 r h0 mi w0 ok hm
 delta fork_Cache_Account.f at h0
 refine c_enterZ (n := 24) ok hm func15 rfl rfl rfl fun b0 hb a S => c_region (s_box S rfl rfl rfl fun g1 a w S => s_alloc S Z34 rfl ⟨rfl, rfl, rfl, rfl, rfl, trivial⟩ rfl fun g2 a w S => s_assign S rfl rfl fun a S => c_end (wp_seq (c_region (s_move S rfl rfl fun a S => s_nep S (b := true) rfl rfl underlying36 rfl rfl fun a S => c_end (c_condT S rfl rfl (wp_seq_k fun K1 hK1 => ?_))))))
 have j1 : ∀ m g4 g5 g6 A1 cp1 A2 cp2 a w, St 24 m b0 [(7, (.b ((lk (aget x1.1 x2) zt1).2))), (6, (.p g4)), (4, (.p g5)), (3, (.p g6))] [Res.cells g4 34 [.b20 (((lk (aget x1.1 x2) zt1).1).1), .w (((lk (aget x1.1 x2) zt1).1).2.1), .w4 (((lk (aget x1.1 x2) zt1).1).2.2.1), .q yb A1 cp1 (((lk (aget x1.1 x2) zt1).1).2.2.2.1), .q Y71 A2 cp2 (((lk (aget x1.1 x2) zt1).1).2.2.2.2)], Res.cells g5 34 [.b20 z20, .w 0, .w4 [0, 0, 0, 0], .s none 0 0, .s none 0 0], Res.cells g6 28 [.b20 x2], Res.cells ch_0_0 76 [.one (.map (some ch_0_1)), .one (.map (some ch_0_2))], Res.map true (Ty.arr .u8 20) true Y34 ch_0_1 x1.1, Res.map true (Ty.arr .u8 20) false yi ch_0_2 x1.2] a w → fork_Cache_Account.j1 x1 x2 = some r → K1 a w := by
  intro m g4 g5 g6 A1 cp1 A2 cp2 a w S h0
  delta fork_Cache_Account.j1 at h0
  refine hK1 a w (c_region (s_move S rfl rfl fun a S => c_end ?_))
  rcases ite_of h0 with ⟨c1, h1⟩ | ⟨c1, h1⟩
  ·refine c_condT S rfl c1 (c_region (s_loada S rfl .h T34 (s' := [.b20 (((lk (aget x1.1 x2) zt1).1).1), .w (((lk (aget x1.1 x2) zt1).1).2.1), .w4 (((lk (aget x1.1 x2) zt1).1).2.2.1), .q yb A1 cp1 (((lk (aget x1.1 x2) zt1).1).2.2.2.1), .q Y71 A2 cp2 (((lk (aget x1.1 x2) zt1).1).2.2.2.2)]) rfl rfl fun a S => bindX h1 fun t1 et1 h2 => s_callX S (ds' := [(.agg [.b20 (((lk (aget x1.1 x2) zt1).1).1), .w (((lk (aget x1.1 x2) zt1).1).2.1), .w4 (((lk (aget x1.1 x2) zt1).1).2.2.1), .q yb A1 cp1 (((lk (aget x1.1 x2) zt1).1).2.2.2.1), .q Y71 A2 cp2 (((lk (aget x1.1 x2) zt1).1).2.2.2.2)])]) (ds := [(.agg [.b20 (((lk (aget x1.1 x2) zt1).1).1), .w (((lk (aget x1.1 x2) zt1).1).2.1), .w4 (((lk (aget x1.1 x2) zt1).1).2.2.1), .q yb A1 cp1 (((lk (aget x1.1 x2) zt1).1).2.2.2.1), .q Y71 A2 cp2 (((lk (aget x1.1 x2) zt1).1).2.2.2.2)])]) [] [Res.cells g4 34 [.b20 (((lk (aget x1.1 x2) zt1).1).1), .w (((lk (aget x1.1 x2) zt1).1).2.1), .w4 (((lk (aget x1.1 x2) zt1).1).2.2.1), .q yb A1 cp1 (((lk (aget x1.1 x2) zt1).1).2.2.2.1), .q Y71 A2 cp2 (((lk (aget x1.1 x2) zt1).1).2.2.2.2)], Res.cells g5 34 [.b20 z20, .w 0, .w4 [0, 0, 0, 0], .s none 0 0, .s none 0 0], Res.cells g6 28 [.b20 x2], Res.cells ch_0_0 76 [.one (.map (some ch_0_1)), .one (.map (some ch_0_2))], Res.map true (Ty.arr .u8 20) true Y34 ch_0_1 x1.1, Res.map true (Ty.arr .u8 20) false yi ch_0_2 x1.2] (fun (ch : (Option Addr) × Nat × Nat × (Option Addr) × Nat × Nat) => ((.agg [.b20 t1.1, .w t1.2.1, .w4 t1.2.2.1, .s ch.1 ch.2.1 ch.2.2.1, .s ch.2.2.2.1 ch.2.2.2.2.1 ch.2.2.2.2.2]) : D)) (fun (ch : (Option Addr) × Nat × Nat × (Option Addr) × Nat × Nat) => [Res.row yb 5 ch.1 ch.2.1 ch.2.2.1 t1.2.2.2.1, Res.row Y71 71 ch.2.2.2.1 ch.2.2.2.2.1 ch.2.2.2.2.2 t1.2.2.2.2]) (fun (ch : (Option Addr) × Nat × Nat × (Option Addr) × Nat × Nat) => [Res.row yb 5 ch.1 ch.2.1 ch.2.2.1 t1.2.2.2.1, Res.row Y71 71 ch.2.2.2.1 ch.2.2.2.2.1 ch.2.2.2.2.2 t1.2.2.2.2, Res.cells g4 34 [.b20 (((lk (aget x1.1 x2) zt1).1).1), .w (((lk (aget x1.1 x2) zt1).1).2.1), .w4 (((lk (aget x1.1 x2) zt1).1).2.2.1), .q yb A1 cp1 (((lk (aget x1.1 x2) zt1).1).2.2.2.1), .q Y71 A2 cp2 (((lk (aget x1.1 x2) zt1).1).2.2.2.2)], Res.cells g5 34 [.b20 z20, .w 0, .w4 [0, 0, 0, 0], .s none 0 0, .s none 0 0], Res.cells g6 28 [.b20 x2], Res.cells ch_0_0 76 [.one (.map (some ch_0_1)), .one (.map (some ch_0_2))], Res.map true (Ty.arr .u8 20) true Y34 ch_0_1 x1.1, Res.map true (Ty.arr .u8 20) false yi ch_0_2 x1.2]) (fun _ => rfl) N31 rfl rfl (fun ok => ok) (.c0 (.c0 (.c0 (.c0 (.c0 (.c0 .n)))))) rfl (fork_own.ok ((lk (aget x1.1 x2) zt1).1) A1 cp1 A2 cp2 t1 et1 _ _) fun ch1 m le1 a w S => s_store S rfl rfl rfl (s' := [.b20 t1.1, .w t1.2.1, .w4 t1.2.2.1, .s ch1.1 ch1.2.1 ch1.2.2.1, .s ch1.2.2.2.1 ch1.2.2.2.2.1 ch1.2.2.2.2.2]) .h3 T34 rfl rfl fun w S => s_assign S rfl rfl fun a S => c_end (wp_ret (x_thenR ?_))))
   obtain rfl := Option.some.inj h2
   exact b_ret2 (d1 := (.agg [.b20 t1.1, .w t1.2.1, .w4 t1.2.2.1, .s ch1.1 ch1.2.1 ch1.2.2.1, .s ch1.2.2.2.1 ch1.2.2.2.2.1 ch1.2.2.2.2.2])) (d2 := (.b true)) S rfl (resD_cell rfl .h3 T34 rfl rfl) rfl fun ok1 ok2 => S.retX (Hx := []) hb _ _ ((ch1.1, ch1.2.1, ch1.2.2.1, ch1.2.2.2.1, ch1.2.2.2.2.1, ch1.2.2.2.2.2) : (Option Addr) × Nat × Nat × (Option Addr) × Nat × Nat) (.c0 (.c0 (.c3 (.c3 (.c3 .n))))) ⟨ok1, ⟨ok2, trivial⟩, trivial⟩
  ·refine c_condF S rfl c1 (wp_skip (x_thenN (c_region (s_loada S rfl .h2 T28 (s' := [.b20 x2]) rfl rfl fun a S => s_bldS S (ds := [(0, (.agg [.b20 x2]))]) (zs := [.b20 z20, .w 0, .w4 [0, 0, 0, 0], .s none 0 0, .s none 0 0]) (s' := [.b20 x2, .w 0, .w4 [0, 0, 0, 0], .s none 0 0, .s none 0 0]) rfl underlying34 P34 Z34 ⟨rfl, rfl, rfl, rfl, rfl, trivial⟩ rfl rfl fun a S => s_store S rfl rfl rfl (s' := [.b20 x2, .w 0, .w4 [0, 0, 0, 0], .s none 0 0, .s none 0 0]) .h1 T34 rfl rfl fun w S => s_assign S rfl rfl fun a S => c_end (wp_ret ?_)))))
   replace S := S.nilrow yb 5
   replace S := S.nilrow Y71 71
   obtain rfl := Option.some.inj h1
   exact b_ret2 (d1 := (.agg [.b20 x2, .w 0, .w4 [0, 0, 0, 0], .s none 0 0, .s none 0 0])) (d2 := (.b false)) S rfl (resD_cell rfl .h3 T34 rfl rfl) rfl fun ok1 ok2 => S.retX (Hx := []) hb _ _ ((none, 0, 0, none, 0, 0) : (Option Addr) × Nat × Nat × (Option Addr) × Nat × Nat) (.c1 (.c0 (.c3 (.c3 (.c3 .n))))) ⟨ok1, ⟨ok2, trivial⟩, trivial⟩
 refine c_heldS S (.take 0 (.take 1 (.take 2 (.take 3 (.take 4 (.alts (.run 5 true (.alts (.run 6 true (.alts (.run 7 true (.alts (.run 8 true (.alts (.run 9 true (.alts (.run 10 true (.take 11 .done) .nil)) .nil)) (.run 9 true (.alts (.run 8 true (.alts (.run 10 true (.take 11 .done) .nil)) (.run 10 true (.alts (.run 8 true (.take 11 .done) .nil)) .nil))) .nil))) (.run 8 true (.alts (.run 7 true (.alts (.run 9 true (.alts (.run 10 true (.take 11 .done) .nil)) .nil)) (.run 9 true (.alts (.run 7 true (.alts (.run 10 true (.take 11 .done) .nil)) .nil)) .nil))) (.run 9 true (.alts (.run 7 true (.alts (.run 8 true (.alts (.run 10 true (.take 11 .done) .nil)) (.run 10 true (.alts (.run 8 true (.take 11 .done) .nil)) .nil))) (.run 8 true (.alts (.run 7 true (.alts (.run 10 true (.take 11 .done) .nil)) .nil)) .nil))) .nil)))) (.run 9 true (.alts (.run 6 true (.alts (.run 7 true (.alts (.run 8 true (.alts (.run 10 true (.take 11 .done) .nil)) (.run 10 true (.alts (.run 8 true (.take 11 .done) .nil)) .nil))) (.run 8 true (.alts (.run 7 true (.alts (.run 10 true (.take 11 .done) .nil)) .nil)) .nil))) .nil)) .nil))) (.run 9 true (.alts (.run 5 true (.alts (.run 6 true (.alts (.run 7 true (.alts (.run 8 true (.alts (.run 10 true (.take 11 .done) .nil)) (.run 10 true (.alts (.run 8 true (.take 11 .done) .nil)) .nil))) (.run 8 true (.alts (.run 7 true (.alts (.run 10 true (.take 11 .done) .nil)) .nil)) .nil))) .nil)) .nil)) .nil)))))))) 12 [Res.cells g2 34 [.b20 z20, .w 0, .w4 [0, 0, 0, 0], .s none 0 0, .s none 0 0], Res.cells g1 28 [.b20 x2], Res.cells ch_0_0 76 [.one (.map (some ch_0_1)), .one (.map (some ch_0_2))]] (.c0 (.c0 (.c0 .n))) ⟨Res.stay_cells, Res.stay_cells, Res.stay_cells, trivial⟩ [(3, (.p g1)), (0, (.p ch_0_0))] (subR rfl) (by kernel_rfl) (by kernel_rfl) fun w S CL hw le => ?_
 refine h_move S CL hw le (subR rfl) rfl rfl rfl trivial fun a S CL => h_nilchk S CL hw le (subR rfl) rfl rfl rfl rfl trivial fun a S CL => h_fieldAddr S CL hw le (subR rfl) rfl I76_0 T73 (by decide) rfl rfl rfl trivial fun a S CL => h_load1 S CL hw le (subR rfl) rfl .h2 T73 (v := (.map (some ch_0_1))) rfl rfl rfl trivial fun a S CL => h_loada S CL hw le (subR rfl) rfl .h1 T28 (s' := [.b20 x2]) rfl rfl rfl trivial fun a S CL => h_alts ?_
 refine h_runO S rfl trivial ?_ ?_
 ·refine s_lookO S (z := zt1) (k := x2) rfl .h3 ((), (), (), (none, 0), (none, 0)) rfl (fun h => ⟨(), rfl, h⟩) underlying73 KT28 Z34 ⟨rfl, rfl, rfl, ⟨Nat.le_refl _, Nat.zero_le _, RdS.nil _ _ _, RdS.mono _ _ _⟩, ⟨Nat.le_refl _, Nat.zero_le _, RdS.nil _ _ _, RdS.mono _ _ _⟩, trivial⟩ rfl fun ch2 a S => CL.bk hw S (.c0 (.c0 (.c0 .n))) le fun hw => h_alts ?_
  refine h_runO S rfl trivial ?_ ?_
  ·refine s_move S rfl rfl fun a S => CL.bk hw S (.c0 (.c0 (.c0 .n))) le fun hw => h_alts ?_
   refine h_runO S rfl trivial ?_ ?_
   ·refine s_extract S rfl rfl rfl rfl fun a S => CL.bk hw S (.c0 (.c0 (.c0 .n))) le fun hw => h_alts ?_
    refine h_runO S rfl trivial ?_ ?_
    ·refine s_extract S rfl rfl rfl rfl fun a S => CL.bk hw S (.c0 (.c0 (.c0 .n))) le fun hw => ?_
     replace CL := CL.add (t := 18) (d := (.b ((lk (aget x1.1 x2) zt1).2))) S rfl rfl
     refine h_run' S rfl trivial (s_alloc S Z34 rfl ⟨rfl, rfl, rfl, rfl, rfl, trivial⟩ rfl fun g7 a w S => CL.bk hw S (.c1 (.c1 (.c1 .n))) le fun hw => h_run' S rfl trivial (s_store S rfl rfl rfl (s' := [.b20 (((lk (aget x1.1 x2) zt1).1).1), .w (((lk (aget x1.1 x2) zt1).1).2.1), .w4 (((lk (aget x1.1 x2) zt1).1).2.2.1), .q yb ch2.2.2.2.1.1 ch2.2.2.2.1.2 (((lk (aget x1.1 x2) zt1).1).2.2.2.1), .q Y71 ch2.2.2.2.2.1 ch2.2.2.2.2.2 (((lk (aget x1.1 x2) zt1).1).2.2.2.2)]) .h T34 rfl rfl fun w S => CL.bk hw S (.c1 (.c1 (.c1 .n))) le fun hw => h_assign S CL hw le (subR rfl) rfl rfl rfl trivial fun a S CL => ?_))
     refine h_done ?_; clear CL hw le
     refine x_thenN ?_
     exact j1 _ g7 g2 g1 ch2.2.2.2.1.1 ch2.2.2.2.1.2 ch2.2.2.2.2.1 ch2.2.2.2.2.2 a w (S.sb rfl (.c0 (.c0 (.c0 (.c0 (.c0 (.c0 .n))))))) h0
    refine h_runO S rfl trivial ?_ ?_
    ·refine s_alloc S Z34 rfl ⟨rfl, rfl, rfl, rfl, rfl, trivial⟩ rfl fun g7 a w S => CL.bk hw S (.c1 (.c1 (.c1 .n))) le fun hw => h_alts ?_
     refine h_runO S rfl trivial ?_ ?_
     ·refine s_extract S rfl rfl rfl rfl fun a S => CL.bk hw S (.c1 (.c1 (.c1 .n))) le fun hw => ?_
      replace CL := CL.add (t := 18) (d := (.b ((lk (aget x1.1 x2) zt1).2))) S rfl rfl
      refine h_run' S rfl trivial (s_store S rfl rfl rfl (s' := [.b20 (((lk (aget x1.1 x2) zt1).1).1), .w (((lk (aget x1.1 x2) zt1).1).2.1), .w4 (((lk (aget x1.1 x2) zt1).1).2.2.1), .q yb ch2.2.2.2.1.1 ch2.2.2.2.1.2 (((lk (aget x1.1 x2) zt1).1).2.2.2.1), .q Y71 ch2.2.2.2.2.1 ch2.2.2.2.2.2 (((lk (aget x1.1 x2) zt1).1).2.2.2.2)]) .h T34 rfl rfl fun w S => CL.bk hw S (.c1 (.c1 (.c1 .n))) le fun hw => h_assign S CL hw le (subR rfl) rfl rfl rfl trivial fun a S CL => ?_)
      refine h_done ?_; clear CL hw le
      refine x_thenN ?_
      exact j1 _ g7 g2 g1 ch2.2.2.2.1.1 ch2.2.2.2.1.2 ch2.2.2.2.2.1 ch2.2.2.2.2.2 a w (S.sb rfl (.c0 (.c0 (.c0 (.c0 (.c0 (.c0 .n))))))) h0
     refine h_runO S rfl trivial ?_ ?_
     ·refine s_store S rfl rfl rfl (s' := [.b20 (((lk (aget x1.1 x2) zt1).1).1), .w (((lk (aget x1.1 x2) zt1).1).2.1), .w4 (((lk (aget x1.1 x2) zt1).1).2.2.1), .q yb ch2.2.2.2.1.1 ch2.2.2.2.1.2 (((lk (aget x1.1 x2) zt1).1).2.2.2.1), .q Y71 ch2.2.2.2.2.1 ch2.2.2.2.2.2 (((lk (aget x1.1 x2) zt1).1).2.2.2.2)]) .h T34 rfl rfl fun w S => CL.bk hw S (.c1 (.c1 (.c1 .n))) le fun hw => h_run' S rfl trivial (s_extract S rfl rfl rfl rfl fun a S => CL.bk hw S (.c1 (.c1 (.c1 .n))) le fun hw => ?_)
      replace CL := CL.add (t := 18) (d := (.b ((lk (aget x1.1 x2) zt1).2))) S rfl rfl
      refine h_assign S CL hw le (subR rfl) rfl rfl rfl trivial fun a S CL => ?_
      refine h_done ?_; clear CL hw le
      refine x_thenN ?_
      exact j1 _ g7 g2 g1 ch2.2.2.2.1.1 ch2.2.2.2.1.2 ch2.2.2.2.2.1 ch2.2.2.2.2.2 a w (S.sb rfl (.c0 (.c0 (.c0 (.c0 (.c0 (.c0 .n))))))) h0
     exact h_nil
    exact h_nil
   refine h_runO S rfl trivial ?_ ?_
   ·refine s_extract S rfl rfl rfl rfl fun a S => CL.bk hw S (.c0 (.c0 (.c0 .n))) le fun hw => ?_
    replace CL := CL.add (t := 18) (d := (.b ((lk (aget x1.1 x2) zt1).2))) S rfl rfl
    refine h_alts ?_
    refine h_runO S rfl trivial ?_ ?_
    ·refine s_extract S rfl rfl rfl rfl fun a S => CL.bk hw S (.c0 (.c0 (.c0 .n))) le fun hw => h_run' S rfl trivial (s_alloc S Z34 rfl ⟨rfl, rfl, rfl, rfl, rfl, trivial⟩ rfl fun g7 a w S => CL.bk hw S (.c1 (.c1 (.c1 .n))) le fun hw => h_run' S rfl trivial (s_store S rfl rfl rfl (s' := [.b20 (((lk (aget x1.1 x2) zt1).1).1), .w (((lk (aget x1.1 x2) zt1).1).2.1), .w4 (((lk (aget x1.1 x2) zt1).1).2.2.1), .q yb ch2.2.2.2.1.1 ch2.2.2.2.1.2 (((lk (aget x1.1 x2) zt1).1).2.2.2.1), .q Y71 ch2.2.2.2.2.1 ch2.2.2.2.2.2 (((lk (aget x1.1 x2) zt1).1).2.2.2.2)]) .h T34 rfl rfl fun w S => CL.bk hw S (.c1 (.c1 (.c1 .n))) le fun hw => h_assign S CL hw le (subR rfl) rfl rfl rfl trivial fun a S CL => ?_))
     refine h_done ?_; clear CL hw le
     refine x_thenN ?_
     exact j1 _ g7 g2 g1 ch2.2.2.2.1.1 ch2.2.2.2.1.2 ch2.2.2.2.2.1 ch2.2.2.2.2.2 a w (S.sb rfl (.c0 (.c0 (.c0 (.c0 (.c0 (.c0 .n))))))) h0
    refine h_runO S rfl trivial ?_ ?_
    ·refine s_alloc S Z34 rfl ⟨rfl, rfl, rfl, rfl, rfl, trivial⟩ rfl fun g7 a w S => CL.bk hw S (.c1 (.c1 (.c1 .n))) le fun hw => h_run' S rfl trivial (s_extract S rfl rfl rfl rfl fun a S => CL.bk hw S (.c1 (.c1 (.c1 .n))) le fun hw => h_run' S rfl trivial (s_store S rfl rfl rfl (s' := [.b20 (((lk (aget x1.1 x2) zt1).1).1), .w (((lk (aget x1.1 x2) zt1).1).2.1), .w4 (((lk (aget x1.1 x2) zt1).1).2.2.1), .q yb ch2.2.2.2.1.1 ch2.2.2.2.1.2 (((lk (aget x1.1 x2) zt1).1).2.2.2.1), .q Y71 ch2.2.2.2.2.1 ch2.2.2.2.2.2 (((lk (aget x1.1 x2) zt1).1).2.2.2.2)]) .h T34 rfl rfl fun w S => CL.bk hw S (.c1 (.c1 (.c1 .n))) le fun hw => h_assign S CL hw le (subR rfl) rfl rfl rfl trivial fun a S CL => ?_))
     refine h_done ?_; clear CL hw le
     refine x_thenN ?_
     exact j1 _ g7 g2 g1 ch2.2.2.2.1.1 ch2.2.2.2.1.2 ch2.2.2.2.2.1 ch2.2.2.2.2.2 a w (S.sb rfl (.c0 (.c0 (.c0 (.c0 (.c0 (.c0 .n))))))) h0
    exact h_nil
   refine h_runO S rfl trivial ?_ ?_
   ·refine s_alloc S Z34 rfl ⟨rfl, rfl, rfl, rfl, rfl, trivial⟩ rfl fun g7 a w S => CL.bk hw S (.c1 (.c1 (.c1 .n))) le fun hw => h_alts ?_
    refine h_runO S rfl trivial ?_ ?_
    ·refine s_extract S rfl rfl rfl rfl fun a S => CL.bk hw S (.c1 (.c1 (.c1 .n))) le fun hw => h_alts ?_
     refine h_runO S rfl trivial ?_ ?_
     ·refine s_extract S rfl rfl rfl rfl fun a S => CL.bk hw S (.c1 (.c1 (.c1 .n))) le fun hw => ?_
      replace CL := CL.add (t := 18) (d := (.b ((lk (aget x1.1 x2) zt1).2))) S rfl rfl
      refine h_run' S rfl trivial (s_store S rfl rfl rfl (s' := [.b20 (((lk (aget x1.1 x2) zt1).1).1), .w (((lk (aget x1.1 x2) zt1).1).2.1), .w4 (((lk (aget x1.1 x2) zt1).1).2.2.1), .q yb ch2.2.2.2.1.1 ch2.2.2.2.1.2 (((lk (aget x1.1 x2) zt1).1).2.2.2.1), .q Y71 ch2.2.2.2.2.1 ch2.2.2.2.2.2 (((lk (aget x1.1 x2) zt1).1).2.2.2.2)]) .h T34 rfl rfl fun w S => CL.bk hw S (.c1 (.c1 (.c1 .n))) le fun hw => h_assign S CL hw le (subR rfl) rfl rfl rfl trivial fun a S CL => ?_)
      refine h_done ?_; clear CL hw le
      refine x_thenN ?_
      exact j1 _ g7 g2 g1 ch2.2.2.2.1.1 ch2.2.2.2.1.2 ch2.2.2.2.2.1 ch2.2.2.2.2.2 a w (S.sb rfl (.c0 (.c0 (.c0 (.c0 (.c0 (.c0 .n))))))) h0
     refine h_runO S rfl trivial ?_ ?_
     ·refine s_store S rfl rfl rfl (s' := [.b20 (((lk (aget x1.1 x2) zt1).1).1), .w (((lk (aget x1.1 x2) zt1).1).2.1), .w4 (((lk (aget x1.1 x2) zt1).1).2.2.1), .q yb ch2.2.2.2.1.1 ch2.2.2.2.1.2 (((lk (aget x1.1 x2) zt1).1).2.2.2.1), .q Y71 ch2.2.2.2.2.1 ch2.2.2.2.2.2 (((lk (aget x1.1 x2) zt1).1).2.2.2.2)]) .h T34 rfl rfl fun w S => CL.bk hw S (.c1 (.c1 (.c1 .n))) le fun hw => h_run' S rfl trivial (s_extract S rfl rfl rfl rfl fun a S => CL.bk hw S (.c1 (.c1 (.c1 .n))) le fun hw => ?_)
      replace CL := CL.add (t := 18) (d := (.b ((lk (aget x1.1 x2) zt1).2))) S rfl rfl
      refine h_assign S CL hw le (subR rfl) rfl rfl rfl trivial fun a S CL => ?_
      refine h_done ?_; clear CL hw le
      refine x_thenN ?_
      exact j1 _ g7 g2 g1 ch2.2.2.2.1.1 ch2.2.2.2.1.2 ch2.2.2.2.2.1 ch2.2.2.2.2.2 a w (S.sb rfl (.c0 (.c0 (.c0 (.c0 (.c0 (.c0 .n))))))) h0
     exact h_nil
    refine h_runO S rfl trivial ?_ ?_
    ·refine s_extract S rfl rfl rfl rfl fun a S => CL.bk hw S (.c1 (.c1 (.c1 .n))) le fun hw => ?_
     replace CL := CL.add (t := 18) (d := (.b ((lk (aget x1.1 x2) zt1).2))) S rfl rfl
     refine h_run' S rfl trivial (s_extract S rfl rfl rfl rfl fun a S => CL.bk hw S (.c1 (.c1 (.c1 .n))) le fun hw => h_run' S rfl trivial (s_store S rfl rfl rfl (s' := [.b20 (((lk (aget x1.1 x2) zt1).1).1), .w (((lk (aget x1.1 x2) zt1).1).2.1), .w4 (((lk (aget x1.1 x2) zt1).1).2.2.1), .q yb ch2.2.2.2.1.1 ch2.2.2.2.1.2 (((lk (aget x1.1 x2) zt1).1).2.2.2.1), .q Y71 ch2.2.2.2.2.1 ch2.2.2.2.2.2 (((lk (aget x1.1 x2) zt1).1).2.2.2.2)]) .h T34 rfl rfl fun w S => CL.bk hw S (.c1 (.c1 (.c1 .n))) le fun hw => h_assign S CL hw le (subR rfl) rfl rfl rfl trivial fun a S CL => ?_))
     refine h_done ?_; clear CL hw le
     refine x_thenN ?_
     exact j1 _ g7 g2 g1 ch2.2.2.2.1.1 ch2.2.2.2.1.2 ch2.2.2.2.2.1 ch2.2.2.2.2.2 a w (S.sb rfl (.c0 (.c0 (.c0 (.c0 (.c0 (.c0 .n))))))) h0
    exact h_nil
   exact h_nil
  refine h_runO S rfl trivial ?_ ?_
  ·refine s_alloc S Z34 rfl ⟨rfl, rfl, rfl, rfl, rfl, trivial⟩ rfl fun g7 a w S => CL.bk hw S (.c1 (.c1 (.c1 .n))) le fun hw => h_run' S rfl trivial (s_move S rfl rfl fun a S => CL.bk hw S (.c1 (.c1 (.c1 .n))) le fun hw => h_alts ?_)
   refine h_runO S rfl trivial ?_ ?_
   ·refine s_extract S rfl rfl rfl rfl fun a S => CL.bk hw S (.c1 (.c1 (.c1 .n))) le fun hw => h_alts ?_
    refine h_runO S rfl trivial ?_ ?_
    ·refine s_extract S rfl rfl rfl rfl fun a S => CL.bk hw S (.c1 (.c1 (.c1 .n))) le fun hw => ?_
     replace CL := CL.add (t := 18) (d := (.b ((lk (aget x1.1 x2) zt1).2))) S rfl rfl
     refine h_run' S rfl trivial (s_store S rfl rfl rfl (s' := [.b20 (((lk (aget x1.1 x2) zt1).1).1), .w (((lk (aget x1.1 x2) zt1).1).2.1), .w4 (((lk (aget x1.1 x2) zt1).1).2.2.1), .q yb ch2.2.2.2.1.1 ch2.2.2.2.1.2 (((lk (aget x1.1 x2) zt1).1).2.2.2.1), .q Y71 ch2.2.2.2.2.1 ch2.2.2.2.2.2 (((lk (aget x1.1 x2) zt1).1).2.2.2.2)]) .h T34 rfl rfl fun w S => CL.bk hw S (.c1 (.c1 (.c1 .n))) le fun hw => h_assign S CL hw le (subR rfl) rfl rfl rfl trivial fun a S CL => ?_)
     refine h_done ?_; clear CL hw le
     refine x_thenN ?_
     exact j1 _ g7 g2 g1 ch2.2.2.2.1.1 ch2.2.2.2.1.2 ch2.2.2.2.2.1 ch2.2.2.2.2.2 a w (S.sb rfl (.c0 (.c0 (.c0 (.c0 (.c0 (.c0 .n))))))) h0
    refine h_runO S rfl trivial ?_ ?_
    ·refine s_store S rfl rfl rfl (s' := [.b20 (((lk (aget x1.1 x2) zt1).1).1), .w (((lk (aget x1.1 x2) zt1).1).2.1), .w4 (((lk (aget x1.1 x2) zt1).1).2.2.1), .q yb ch2.2.2.2.1.1 ch2.2.2.2.1.2 (((lk (aget x1.1 x2) zt1).1).2.2.2.1), .q Y71 ch2.2.2.2.2.1 ch2.2.2.2.2.2 (((lk (aget x1.1 x2) zt1).1).2.2.2.2)]) .h T34 rfl rfl fun w S => CL.bk hw S (.c1 (.c1 (.c1 .n))) le fun hw => h_run' S rfl trivial (s_extract S rfl rfl rfl rfl fun a S => CL.bk hw S (.c1 (.c1 (.c1 .n))) le fun hw => ?_)
     replace CL := CL.add (t := 18) (d := (.b ((lk (aget x1.1 x2) zt1).2))) S rfl rfl
     refine h_assign S CL hw le (subR rfl) rfl rfl rfl trivial fun a S CL => ?_
     refine h_done ?_; clear CL hw le
     refine x_thenN ?_
     exact j1 _ g7 g2 g1 ch2.2.2.2.1.1 ch2.2.2.2.1.2 ch2.2.2.2.2.1 ch2.2.2.2.2.2 a w (S.sb rfl (.c0 (.c0 (.c0 (.c0 (.c0 (.c0 .n))))))) h0
    exact h_nil
   refine h_runO S rfl trivial ?_ ?_
   ·refine s_extract S rfl rfl rfl rfl fun a S => CL.bk hw S (.c1 (.c1 (.c1 .n))) le fun hw => ?_
    replace CL := CL.add (t := 18) (d := (.b ((lk (aget x1.1 x2) zt1).2))) S rfl rfl
    refine h_run' S rfl trivial (s_extract S rfl rfl rfl rfl fun a S => CL.bk hw S (.c1 (.c1 (.c1 .n))) le fun hw => h_run' S rfl trivial (s_store S rfl rfl rfl (s' := [.b20 (((lk (aget x1.1 x2) zt1).1).1), .w (((lk (aget x1.1 x2) zt1).1).2.1), .w4 (((lk (aget x1.1 x2) zt1).1).2.2.1), .q yb ch2.2.2.2.1.1 ch2.2.2.2.1.2 (((lk (aget x1.1 x2) zt1).1).2.2.2.1), .q Y71 ch2.2.2.2.2.1 ch2.2.2.2.2.2 (((lk (aget x1.1 x2) zt1).1).2.2.2.2)]) .h T34 rfl rfl fun w S => CL.bk hw S (.c1 (.c1 (.c1 .n))) le fun hw => h_assign S CL hw le (subR rfl) rfl rfl rfl trivial fun a S CL => ?_))
    refine h_done ?_; clear CL hw le
    refine x_thenN ?_
    exact j1 _ g7 g2 g1 ch2.2.2.2.1.1 ch2.2.2.2.1.2 ch2.2.2.2.2.1 ch2.2.2.2.2.2 a w (S.sb rfl (.c0 (.c0 (.c0 (.c0 (.c0 (.c0 .n))))))) h0
   exact h_nil
  exact h_nil
 refine h_runO S rfl trivial ?_ ?_
 ·refine s_alloc S Z34 rfl ⟨rfl, rfl, rfl, rfl, rfl, trivial⟩ rfl fun g7 a w S => CL.bk hw S (.c1 (.c1 (.c1 .n))) le fun hw => h_run' S rfl trivial (s_lookO S (z := zt1) (k := x2) rfl .h4 ((), (), (), (none, 0), (none, 0)) rfl (fun h => ⟨(), rfl, h⟩) underlying73 KT28 Z34 ⟨rfl, rfl, rfl, ⟨Nat.le_refl _, Nat.zero_le _, RdS.nil _ _ _, RdS.mono _ _ _⟩, ⟨Nat.le_refl _, Nat.zero_le _, RdS.nil _ _ _, RdS.mono _ _ _⟩, trivial⟩ rfl fun ch2 a S => CL.bk hw S (.c1 (.c1 (.c1 .n))) le fun hw => h_run' S rfl trivial (s_move S rfl rfl fun a S => CL.bk hw S (.c1 (.c1 (.c1 .n))) le fun hw => h_alts ?_))
  refine h_runO S rfl trivial ?_ ?_
  ·refine s_extract S rfl rfl rfl rfl fun a S => CL.bk hw S (.c1 (.c1 (.c1 .n))) le fun hw => h_alts ?_
   refine h_runO S rfl trivial ?_ ?_
   ·refine s_extract S rfl rfl rfl rfl fun a S => CL.bk hw S (.c1 (.c1 (.c1 .n))) le fun hw => ?_
    replace CL := CL.add (t := 18) (d := (.b ((lk (aget x1.1 x2) zt1).2))) S rfl rfl
    refine h_run' S rfl trivial (s_store S rfl rfl rfl (s' := [.b20 (((lk (aget x1.1 x2) zt1).1).1), .w (((lk (aget x1.1 x2) zt1).1).2.1), .w4 (((lk (aget x1.1 x2) zt1).1).2.2.1), .q yb ch2.2.2.2.1.1 ch2.2.2.2.1.2 (((lk (aget x1.1 x2) zt1).1).2.2.2.1), .q Y71 ch2.2.2.2.2.1 ch2.2.2.2.2.2 (((lk (aget x1.1 x2) zt1).1).2.2.2.2)]) .h T34 rfl rfl fun w S => CL.bk hw S (.c1 (.c1 (.c1 .n))) le fun hw => h_assign S CL hw le (subR rfl) rfl rfl rfl trivial fun a S CL => ?_)
    refine h_done ?_; clear CL hw le
    refine x_thenN ?_
    exact j1 _ g7 g2 g1 ch2.2.2.2.1.1 ch2.2.2.2.1.2 ch2.2.2.2.2.1 ch2.2.2.2.2.2 a w (S.sb rfl (.c0 (.c0 (.c0 (.c0 (.c0 (.c0 .n))))))) h0
   refine h_runO S rfl trivial ?_ ?_
   ·refine s_store S rfl rfl rfl (s' := [.b20 (((lk (aget x1.1 x2) zt1).1).1), .w (((lk (aget x1.1 x2) zt1).1).2.1), .w4 (((lk (aget x1.1 x2) zt1).1).2.2.1), .q yb ch2.2.2.2.1.1 ch2.2.2.2.1.2 (((lk (aget x1.1 x2) zt1).1).2.2.2.1), .q Y71 ch2.2.2.2.2.1 ch2.2.2.2.2.2 (((lk (aget x1.1 x2) zt1).1).2.2.2.2)]) .h T34 rfl rfl fun w S => CL.bk hw S (.c1 (.c1 (.c1 .n))) le fun hw => h_run' S rfl trivial (s_extract S rfl rfl rfl rfl fun a S => CL.bk hw S (.c1 (.c1 (.c1 .n))) le fun hw => ?_)
    replace CL := CL.add (t := 18) (d := (.b ((lk (aget x1.1 x2) zt1).2))) S rfl rfl
    refine h_assign S CL hw le (subR rfl) rfl rfl rfl trivial fun a S CL => ?_
    refine h_done ?_; clear CL hw le
    refine x_thenN ?_
    exact j1 _ g7 g2 g1 ch2.2.2.2.1.1 ch2.2.2.2.1.2 ch2.2.2.2.2.1 ch2.2.2.2.2.2 a w (S.sb rfl (.c0 (.c0 (.c0 (.c0 (.c0 (.c0 .n))))))) h0
   exact h_nil
  refine h_runO S rfl trivial ?_ ?_
  ·refine s_extract S rfl rfl rfl rfl fun a S => CL.bk hw S (.c1 (.c1 (.c1 .n))) le fun hw => ?_
   replace CL := CL.add (t := 18) (d := (.b ((lk (aget x1.1 x2) zt1).2))) S rfl rfl
   refine h_run' S rfl trivial (s_extract S rfl rfl rfl rfl fun a S => CL.bk hw S (.c1 (.c1 (.c1 .n))) le fun hw => h_run' S rfl trivial (s_store S rfl rfl rfl (s' := [.b20 (((lk (aget x1.1 x2) zt1).1).1), .w (((lk (aget x1.1 x2) zt1).1).2.1), .w4 (((lk (aget x1.1 x2) zt1).1).2.2.1), .q yb ch2.2.2.2.1.1 ch2.2.2.2.1.2 (((lk (aget x1.1 x2) zt1).1).2.2.2.1), .q Y71 ch2.2.2.2.2.1 ch2.2.2.2.2.2 (((lk (aget x1.1 x2) zt1).1).2.2.2.2)]) .h T34 rfl rfl fun w S => CL.bk hw S (.c1 (.c1 (.c1 .n))) le fun hw => h_assign S CL hw le (subR rfl) rfl rfl rfl trivial fun a S CL => ?_))
   refine h_done ?_; clear CL hw le
   refine x_thenN ?_
   exact j1 _ g7 g2 g1 ch2.2.2.2.1.1 ch2.2.2.2.1.2 ch2.2.2.2.2.1 ch2.2.2.2.2.2 a w (S.sb rfl (.c0 (.c0 (.c0 (.c0 (.c0 (.c0 .n))))))) h0
  exact h_nil
 exact h_nil
abbrev smithyref13_Same.Ty : Type := (L34) → (L34) → Option Bool
def smithyref13_Same.Ctr (s : smithyref13_Same.Ty) : Prop := ∀ (x1 : L34) (x2 : L34) (ch_0_0 : Option Addr) (ch_0_1 : Nat) (ch_0_2 : Option Addr) (ch_0_3 : Nat) (ch_1_0 : Option Addr) (ch_1_1 : Nat) (ch_1_2 : Option Addr) (ch_1_3 : Nat) (r : Bool), Ct (C := Unit) Try.prog 16 (s x1 x2 = some r) [] [(.agg [.b20 x1.1, .w x1.2.1, .w4 x1.2.2.1, .q yb ch_0_0 ch_0_1 x1.2.2.2.1, .q Y71 ch_0_2 ch_0_3 x1.2.2.2.2]), (.agg [.b20 x2.1, .w x2.2.1, .w4 x2.2.2.1, .q yb ch_1_0 ch_1_1 x2.2.2.2.1, .q Y71 ch_1_2 ch_1_3 x2.2.2.2.2])] (fun _ => (.b r)) fun _ => []
def smithyref13_Same.j2 : Option Bool := some true
def smithyref13_Same.b1 (x1 : L34) (x2 : L34) (rec1 : Int → Option Bool) (y5 : Int) : Option Bool := if (decide (y5 < ((x1.2.2.2.2).length : Int))) = true then (if (0 : Int) ≤ y5 ∧ y5 < ((x1.2.2.2.2).length : Int) then (if (0 : Int) ≤ y5 ∧ y5 < ((x2.2.2.2.2).length : Int) then (if (!(decide (gt x1.2.2.2.2 y5 = gt x2.2.2.2.2 y5))) = true then (some false) else (rec1 (wr .i64 (y5 + 1)))) else none) else none) else smithyref13_Same.j2
def smithyref13_Same.l1 (x1 : L34) (x2 : L34) : Nat → Int → Option Bool
  | 0, _ => none
  | q + 1, y5 => smithyref13_Same.b1 x1 x2 (smithyref13_Same.l1 x1 x2 q) y5
def smithyref13_Same.j1 (k : Nat) (x1 : L34) (x2 : L34) (y1 : Bool) : Option Bool := if y1 = true then (some false) else (smithyref13_Same.l1 x1 x2 k 0)
def smithyref13_Same.f (k : Nat) (x1 : L34) (x2 : L34) : Option Bool := if (!(decide (x1.1 = x2.1))) = true then (smithyref13_Same.j1 k x1 x2 true) else (if (x1.2.1 != x2.2.1) = true then (smithyref13_Same.j1 k x1 x2 true) else (if (!(decide (x1.2.2.1 = x2.2.2.1))) = true then (smithyref13_Same.j1 k x1 x2 true) else (if (!((bstr x1.2.2.2.1).toList == (bstr x2.2.2.2.1).toList)) = true then (smithyref13_Same.j1 k x1 x2 true) else (smithyref13_Same.j1 k x1 x2 (((x1.2.2.2.2).length : Int) != ((x2.2.2.2.2).length : Int))))))
theorem smithyref13_Same.ok (k : Nat) : smithyref13_Same.Ctr (smithyref13_Same.f k) := by
 intro x1 x2 ch_0_0 ch_0_1 ch_0_2 ch_0_3 ch_1_0 ch_1_1 ch_1_2 ch_1_3 r h0 mi w0 ok hm
 delta smithyref13_Same.f at h0
 refine c_enterZ (n := 61) ok hm func16 rfl rfl rfl fun b0 hb a S => c_region (s_box S rfl rfl rfl fun g1 a w S => s_box S rfl rfl rfl fun g2 a w S => s_assign S rfl rfl fun a S => c_end (wp_seq (wp_seq_k fun K1 hK1 => ?_)))
 have j1 : ∀ m y1 g3 g4 a w, St 61 m b0 [(42, (.b y1)), (3, (.p g3)), (2, (.p g4))] [Res.cells g3 34 [.b20 x2.1, .w x2.2.1, .w4 x2.2.2.1, .q yb ch_1_0 ch_1_1 x2.2.2.2.1, .q Y71 ch_1_2 ch_1_3 x2.2.2.2.2], Res.cells g4 34 [.b20 x1.1, .w x1.2.1, .w4 x1.2.2.1, .q yb ch_0_0 ch_0_1 x1.2.2.2.1, .q Y71 ch_0_2 ch_0_3 x1.2.2.2.2]] a w → smithyref13_Same.j1 k x1 x2 y1 = some r → K1 a w := by
  intro m y1 g3 g4 a w S h0
  delta smithyref13_Same.j1 at h0
  refine hK1 a w ?_
  rcases ite_of h0 with ⟨c1, h1⟩ | ⟨c1, h1⟩
  ·refine c_condT S rfl c1 (c_region (s_assign S rfl rfl fun a S => c_end (wp_ret (x_thenR ?_))))
   obtain rfl := Option.some.inj h1
   exact b_ret1 (d := (.b false)) S rfl rfl (S.rt hb)
  ·refine c_condF S rfl c1 (wp_skip (x_thenN (wp_seq_k fun K2 hK2 => ?_)))
   have j2 : ∀ m a w, St 61 m b0 [] [] a w → smithyref13_Same.j2 = some r → K2 a w := by
    intro m a w S h0
    delta smithyref13_Same.j2 at h0
    refine hK2 a w (c_region (s_assign S rfl rfl fun a S => c_end (wp_ret ?_)))
    obtain rfl := Option.some.inj h0
    exact b_ret1 (d := (.b true)) S rfl rfl (S.rt hb)
   refine c_region (s_fieldAddr S rfl I34_4 T32 (by decide) rfl rfl fun a S => s_loadSl S rfl .h1 T32 (A := ch_0_2) (len := (x1.2.2.2.2).length) (cap := ch_0_3) rfl rfl fun a S => s_lenS S rfl underlying32 rfl fun a S => s_move S rfl rfl fun a S => c_end (wp_block ?_))
   refine c_loop (fun q1 a w => ∃ m y5 g15 g16, St 61 m b0 [(46, (.i y5)), (45, (.i ((x1.2.2.2.2).length : Int))), (3, (.p g15)), (2, (.p g16))] [Res.cells g15 34 [.b20 x2.1, .w x2.2.1, .w4 x2.2.2.1, .q yb ch_1_0 ch_1_1 x2.2.2.2.1, .q Y71 ch_1_2 ch_1_3 x2.2.2.2.2], Res.cells g16 34 [.b20 x1.1, .w x1.2.1, .w4 x1.2.2.1, .q yb ch_0_0 ch_0_1 x1.2.2.2.1, .q Y71 ch_0_2 ch_0_3 x1.2.2.2.2]] a w ∧ smithyref13_Same.l1 x1 x2 q1 y5 = some r) ?_ ?_ (k := k) ⟨_, 0, g3, g4, (S.sb rfl (.c0 (.c0 .n))), h1⟩
   ·rintro a w ⟨m, y5, g15, g16, S, h0⟩
    exact (nomatch (show (none : Option Bool) = some r from h0))
   ·clear S h1
    rintro q1 a w ⟨m, y5, g15, g16, S, h0⟩
    replace h0 : smithyref13_Same.b1 x1 x2 (smithyref13_Same.l1 x1 x2 q1) y5 = some r := h0
    delta smithyref13_Same.b1 at h0
    refine c_region (s_bin S rfl rfl rfl rfl fun a S => c_end (wp_seq ?_))
    rcases ite_of h0 with ⟨c2, h1⟩ | ⟨c2, h1⟩
    ·refine c_condT S rfl c2 (wp_skip (x_thenN (wp_seq (wp_block (c_region (s_move S rfl rfl fun a S => s_assign S rfl rfl fun a S => c_end ?_))))))
     refine wp_seq (c_heldS S (.take 0 (.take 1 (.take 2 (.take 3 (.take 4 (.take 5 (.take 6 (.take 7 (.take 8 (.take 9 (.take 10 .done))))))))))) 11 [Res.cells g15 34 [.b20 x2.1, .w x2.2.1, .w4 x2.2.2.1, .q yb ch_1_0 ch_1_1 x2.2.2.2.1, .q Y71 ch_1_2 ch_1_3 x2.2.2.2.2], Res.cells g16 34 [.b20 x1.1, .w x1.2.1, .w4 x1.2.2.1, .q yb ch_0_0 ch_0_1 x1.2.2.2.1, .q Y71 ch_0_2 ch_0_3 x1.2.2.2.2]] (.c0 (.c0 .n)) ⟨Res.stay_cells, Res.stay_cells, trivial⟩ [(5, (.i y5)), (3, (.p g15)), (2, (.p g16))] (subR rfl) (by kernel_rfl) (by kernel_rfl) ?_); clear S; intro w S CL hw le
     refine h_fieldAddr S CL hw le (subR rfl) rfl I34_4 T32 (by decide) rfl rfl rfl trivial fun a S CL => h_loadSl S CL hw le (subR rfl) rfl .h1 T32 (A := ch_0_2) (len := (x1.2.2.2.2).length) (cap := ch_0_3) rfl rfl rfl trivial fun a S CL => h_move S CL hw le (subR rfl) rfl rfl rfl trivial fun a S CL => ?_
     obtain ⟨c3, h2⟩ := chk_of h1; clear h1
     refine h_iaddrS S CL hw le (subR rfl) rfl rfl rfl underlying32 T71 c3.1 c3.2 rfl rfl trivial fun p1 a S CL => h_ldA S CL hw le (subR rfl) (fun (c : Unit × Unit) => [.w4 ((gt x1.2.2.2.2 y5).1), .w4 ((gt x1.2.2.2.2 y5).2)]) rfl T71 (fun _ => rfl) rfl rfl trivial fun ch1 a S CL => ?_
     refine h_fieldAddr S CL hw le (subR rfl) rfl I34_4 T32 (by decide) rfl rfl rfl trivial fun a S CL => h_loadSl S CL hw le (subR rfl) rfl .h T32 (A := ch_1_2) (len := (x2.2.2.2.2).length) (cap := ch_1_3) rfl rfl rfl trivial fun a S CL => h_move S CL hw le (subR rfl) rfl rfl rfl trivial fun a S CL => ?_
     obtain ⟨c4, h3⟩ := chk_of h2; clear h2
     refine h_iaddrS S CL hw le (subR rfl) rfl rfl rfl underlying32 T71 c4.1 c4.2 rfl rfl trivial fun p2 a S CL => h_ldA S CL hw le (subR rfl) (fun (c : Unit × Unit) => [.w4 ((gt x2.2.2.2.2 y5).1), .w4 ((gt x2.2.2.2.2 y5).2)]) rfl T71 (fun _ => rfl) rfl rfl trivial fun ch2 a S CL => ?_
     refine h_neS S CL hw le (subR rfl) (ty' := Y71) (p := gt x1.2.2.2.2 y5) (q := gt x2.2.2.2.2 y5) ((), ()) ((), ()) rfl rfl E71 rfl Q71 rfl rfl trivial fun a S CL => ?_
     refine h_done ?_; clear CL hw le
     refine x_thenN ?_
     rcases ite_of h3 with ⟨c5, h4⟩ | ⟨c5, h4⟩
     ·refine c_condT S rfl c5 (c_region (s_assign S rfl rfl fun a S => c_end (wp_ret (x_blockR (x_thenR (x_thenR (x_blockR (x_thenR ?_))))))))
      obtain rfl := Option.some.inj h4
      exact b_ret1 (d := (.b false)) S rfl rfl (S.rt hb)
     ·refine c_condF S rfl c5 (wp_skip (x_blockN (x_thenN (c_region' (s_bin S rfl rfl rfl rfl fun a S => s_move S rfl rfl fun a S => c_end' (x_thenN ?_))))))
      exact ⟨_, (wr .i64 (y5 + 1)), g15, g16, (S.sb rfl (.c0 (.c0 .n))), h4⟩
    ·refine c_condF S rfl c2 (wp_exit (x_thenX (x_thenX (x_blockX (x_thenN ?_)))))
     exact j2 _ a w (S.sub trivial .nil) h1
 refine c_region' (s_fieldAddr S rfl I34_0 T28 (by decide) rfl rfl fun a S => s_loada S rfl .h1 T28 (s' := [.b20 x1.1]) rfl rfl fun a S => s_fieldAddr S rfl I34_0 T28 (by decide) rfl rfl fun a S => s_loada S rfl .h T28 (s' := [.b20 x2.1]) rfl rfl fun a S => s_nea S rfl rfl underlying28 underlying5 T5 Q28 rfl fun a S => s_move S rfl rfl fun a S => ?_)
 rcases ite_of h0 with ⟨c6, h1⟩ | ⟨c6, h1⟩
 ·refine s_gF S (b := (!(decide (x1.1 = x2.1)))) rfl rfl c6 rfl fun a S => s_gF S (b := (!(decide (x1.1 = x2.1)))) rfl rfl c6 rfl fun a S => s_gF S (b := (!(decide (x1.1 = x2.1)))) rfl rfl c6 rfl fun a S => s_gF S (b := (!(decide (x1.1 = x2.1)))) rfl rfl c6 rfl fun a S => s_gF S (b := (!(decide (x1.1 = x2.1)))) rfl rfl c6 rfl fun a S => s_pick S (b := true) (hc_of rfl c6) rfl rfl fun a S => s_move S rfl rfl fun a S => s_gF S (b := true) rfl rfl rfl rfl fun a S => s_gF S (b := true) rfl rfl rfl rfl fun a S => s_gF S (b := true) rfl rfl rfl rfl fun a S => s_gF S (b := true) rfl rfl rfl rfl fun a S => s_gF S (b := true) rfl rfl rfl rfl fun a S => s_pick S (b := true) (hc_of rfl rfl) rfl rfl fun a S => s_move S rfl rfl fun a S => s_gF S (b := true) rfl rfl rfl rfl fun a S => s_gF S (b := true) rfl rfl rfl rfl fun a S => s_gF S (b := true) rfl rfl rfl rfl fun a S => s_gF S (b := true) rfl rfl rfl rfl fun a S => s_gF S (b := true) rfl rfl rfl rfl fun a S => s_gF S (b := true) rfl rfl rfl rfl fun a S => s_gF S (b := true) rfl rfl rfl rfl fun a S => s_pick S (b := true) (hc_of rfl rfl) rfl rfl fun a S => s_move S rfl rfl fun a S => s_gF S (b := true) rfl rfl rfl rfl fun a S => s_gF S (b := true) rfl rfl rfl rfl fun a S => s_gF S (b := true) rfl rfl rfl rfl fun a S => s_gF S (b := true) rfl rfl rfl rfl fun a S => s_gF S (b := true) rfl rfl rfl rfl fun a S => s_gF S (b := true) rfl rfl rfl rfl fun a S => s_gF S (b := true) rfl rfl rfl rfl fun a S => s_pick S (b := true) (hc_of rfl rfl) rfl rfl fun a S => c_end' (x_thenN ?_)
  exact j1 _ true g2 g1 a w (S.sb rfl (.c0 (.c0 .n))) h1
 ·refine s_gT S (b := (!(decide (x1.1 = x2.1)))) rfl rfl c6 (s_fieldAddr S rfl I34_1 T29 (by decide) rfl rfl fun a S => s_gT S (b := (!(decide (x1.1 = x2.1)))) rfl rfl c6 (s_load1 S rfl .h1 T29 (v := (.int .u64 x1.2.1)) rfl rfl fun a S => s_gT S (b := (!(decide (x1.1 = x2.1)))) rfl rfl c6 (s_fieldAddr S rfl I34_1 T29 (by decide) rfl rfl fun a S => s_gT S (b := (!(decide (x1.1 = x2.1)))) rfl rfl c6 (s_load1 S rfl .h T29 (v := (.int .u64 x2.2.1)) rfl rfl fun a S => s_gT S (b := (!(decide (x1.1 = x2.1)))) rfl rfl c6 (s_bin S rfl rfl rfl rfl fun a S => s_pick S (b := false) (hc_of rfl c6) rfl rfl fun a S => s_move S rfl rfl fun a S => ?_)))))
  rcases ite_of h1 with ⟨c7, h2⟩ | ⟨c7, h2⟩
  ·refine s_gF S (b := (x1.2.1 != x2.2.1)) rfl rfl c7 rfl fun a S => s_gF S (b := (x1.2.1 != x2.2.1)) rfl rfl c7 rfl fun a S => s_gF S (b := (x1.2.1 != x2.2.1)) rfl rfl c7 rfl fun a S => s_gF S (b := (x1.2.1 != x2.2.1)) rfl rfl c7 rfl fun a S => s_gF S (b := (x1.2.1 != x2.2.1)) rfl rfl c7 rfl fun a S => s_pick S (b := true) (hc_of rfl c7) rfl rfl fun a S => s_move S rfl rfl fun a S => s_gF S (b := true) rfl rfl rfl rfl fun a S => s_gF S (b := true) rfl rfl rfl rfl fun a S => s_gF S (b := true) rfl rfl rfl rfl fun a S => s_gF S (b := true) rfl rfl rfl rfl fun a S => s_gF S (b := true) rfl rfl rfl rfl fun a S => s_gF S (b := true) rfl rfl rfl rfl fun a S => s_gF S (b := true) rfl rfl rfl rfl fun a S => s_pick S (b := true) (hc_of rfl rfl) rfl rfl fun a S => s_move S rfl rfl fun a S => s_gF S (b := true) rfl rfl rfl rfl fun a S => s_gF S (b := true) rfl rfl rfl rfl fun a S => s_gF S (b := true) rfl rfl rfl rfl fun a S => s_gF S (b := true) rfl rfl rfl rfl fun a S => s_gF S (b := true) rfl rfl rfl rfl fun a S => s_gF S (b := true) rfl rfl rfl rfl fun a S => s_gF S (b := true) rfl rfl rfl rfl fun a S => s_pick S (b := true) (hc_of rfl rfl) rfl rfl fun a S => c_end' (x_thenN ?_)
   exact j1 _ true g2 g1 a w (S.sb rfl (.c0 (.c0 .n))) h2
  ·refine s_gT S (b := (x1.2.1 != x2.2.1)) rfl rfl c7 (s_fieldAddr S rfl I34_2 T31 (by decide) rfl rfl fun a S => s_gT S (b := (x1.2.1 != x2.2.1)) rfl rfl c7 (s_loada S rfl .h1 T31 (s' := [.w4 x1.2.2.1]) rfl rfl fun a S => s_gT S (b := (x1.2.1 != x2.2.1)) rfl rfl c7 (s_fieldAddr S rfl I34_2 T31 (by decide) rfl rfl fun a S => s_gT S (b := (x1.2.1 != x2.2.1)) rfl rfl c7 (s_loada S rfl .h T31 (s' := [.w4 x2.2.2.1]) rfl rfl fun a S => s_gT S (b := (x1.2.1 != x2.2.1)) rfl rfl c7 (s_nea S rfl rfl underlying31 underlying29 T29 Q31 rfl fun a S => s_pick S (b := false) (hc_of rfl c7) rfl rfl fun a S => s_move S rfl rfl fun a S => ?_)))))
   rcases ite_of h2 with ⟨c8, h3⟩ | ⟨c8, h3⟩
   ·refine s_gF S (b := (!(decide (x1.2.2.1 = x2.2.2.1)))) rfl rfl c8 rfl fun a S => s_gF S (b := (!(decide (x1.2.2.1 = x2.2.2.1)))) rfl rfl c8 rfl fun a S => s_gF S (b := (!(decide (x1.2.2.1 = x2.2.2.1)))) rfl rfl c8 rfl fun a S => s_gF S (b := (!(decide (x1.2.2.1 = x2.2.2.1)))) rfl rfl c8 rfl fun a S => s_gF S (b := (!(decide (x1.2.2.1 = x2.2.2.1)))) rfl rfl c8 rfl fun a S => s_gF S (b := (!(decide (x1.2.2.1 = x2.2.2.1)))) rfl rfl c8 rfl fun a S => s_gF S (b := (!(decide (x1.2.2.1 = x2.2.2.1)))) rfl rfl c8 rfl fun a S => s_pick S (b := true) (hc_of rfl c8) rfl rfl fun a S => s_move S rfl rfl fun a S => s_gF S (b := true) rfl rfl rfl rfl fun a S => s_gF S (b := true) rfl rfl rfl rfl fun a S => s_gF S (b := true) rfl rfl rfl rfl fun a S => s_gF S (b := true) rfl rfl rfl rfl fun a S => s_gF S (b := true) rfl rfl rfl rfl fun a S => s_gF S (b := true) rfl rfl rfl rfl fun a S => s_gF S (b := true) rfl rfl rfl rfl fun a S => s_pick S (b := true) (hc_of rfl rfl) rfl rfl fun a S => c_end' (x_thenN ?_)
    exact j1 _ true g2 g1 a w (S.sb rfl (.c0 (.c0 .n))) h3
   ·refine s_gT S (b := (!(decide (x1.2.2.1 = x2.2.2.1)))) rfl rfl c8 (s_fieldAddr S rfl I34_3 T24 (by decide) rfl rfl fun a S => s_gT S (b := (!(decide (x1.2.2.1 = x2.2.2.1)))) rfl rfl c8 (s_loadSl S rfl .h1 T24 (A := ch_0_0) (len := (x1.2.2.2.1).length) (cap := ch_0_1) rfl rfl fun a S => s_gT S (b := (!(decide (x1.2.2.1 = x2.2.2.1)))) rfl rfl c8 (s_strS S rfl rfl underlying24 underlying5 underlying9 rfl fun a S => s_gT S (b := (!(decide (x1.2.2.1 = x2.2.2.1)))) rfl rfl c8 (s_fieldAddr S rfl I34_3 T24 (by decide) rfl rfl fun a S => s_gT S (b := (!(decide (x1.2.2.1 = x2.2.2.1)))) rfl rfl c8 (s_loadSl S rfl .h T24 (A := ch_1_0) (len := (x2.2.2.2.1).length) (cap := ch_1_1) rfl rfl fun a S => s_gT S (b := (!(decide (x1.2.2.1 = x2.2.2.1)))) rfl rfl c8 (s_strS S rfl rfl underlying24 underlying5 underlying9 rfl fun a S => s_gT S (b := (!(decide (x1.2.2.1 = x2.2.2.1)))) rfl rfl c8 (s_neT S rfl rfl rfl fun a S => s_pick S (b := false) (hc_of rfl c8) rfl rfl fun a S => s_move S rfl rfl fun a S => ?_)))))))
    rcases ite_of h3 with ⟨c9, h4⟩ | ⟨c9, h4⟩
    ·refine s_gF S (b := (!((bstr x1.2.2.2.1).toList == (bstr x2.2.2.2.1).toList))) rfl rfl c9 rfl fun a S => s_gF S (b := (!((bstr x1.2.2.2.1).toList == (bstr x2.2.2.2.1).toList))) rfl rfl c9 rfl fun a S => s_gF S (b := (!((bstr x1.2.2.2.1).toList == (bstr x2.2.2.2.1).toList))) rfl rfl c9 rfl fun a S => s_gF S (b := (!((bstr x1.2.2.2.1).toList == (bstr x2.2.2.2.1).toList))) rfl rfl c9 rfl fun a S => s_gF S (b := (!((bstr x1.2.2.2.1).toList == (bstr x2.2.2.2.1).toList))) rfl rfl c9 rfl fun a S => s_gF S (b := (!((bstr x1.2.2.2.1).toList == (bstr x2.2.2.2.1).toList))) rfl rfl c9 rfl fun a S => s_gF S (b := (!((bstr x1.2.2.2.1).toList == (bstr x2.2.2.2.1).toList))) rfl rfl c9 rfl fun a S => s_pick S (b := true) (hc_of rfl c9) rfl rfl fun a S => c_end' (x_thenN ?_)
     exact j1 _ true g2 g1 a w (S.sb rfl (.c0 (.c0 .n))) h4
    ·refine s_gT S (b := (!((bstr x1.2.2.2.1).toList == (bstr x2.2.2.2.1).toList))) rfl rfl c9 (s_fieldAddr S rfl I34_4 T32 (by decide) rfl rfl fun a S => s_gT S (b := (!((bstr x1.2.2.2.1).toList == (bstr x2.2.2.2.1).toList))) rfl rfl c9 (s_loadSl S rfl .h1 T32 (A := ch_0_2) (len := (x1.2.2.2.2).length) (cap := ch_0_3) rfl rfl fun a S => s_gT S (b := (!((bstr x1.2.2.2.1).toList == (bstr x2.2.2.2.1).toList))) rfl rfl c9 (s_lenS S rfl underlying32 rfl fun a S => s_gT S (b := (!((bstr x1.2.2.2.1).toList == (bstr x2.2.2.2.1).toList))) rfl rfl c9 (s_fieldAddr S rfl I34_4 T32 (by decide) rfl rfl fun a S => s_gT S (b := (!((bstr x1.2.2.2.1).toList == (bstr x2.2.2.2.1).toList))) rfl rfl c9 (s_loadSl S rfl .h T32 (A := ch_1_2) (len := (x2.2.2.2.2).length) (cap := ch_1_3) rfl rfl fun a S => s_gT S (b := (!((bstr x1.2.2.2.1).toList == (bstr x2.2.2.2.1).toList))) rfl rfl c9 (s_lenS S rfl underlying32 rfl fun a S => s_gT S (b := (!((bstr x1.2.2.2.1).toList == (bstr x2.2.2.2.1).toList))) rfl rfl c9 (s_bin S rfl rfl rfl rfl fun a S => s_pick S (b := false) (hc_of rfl c9) rfl rfl fun a S => c_end' (x_thenN ?_))))))))
     exact j1 _ (((x1.2.2.2.2).length : Int) != ((x2.2.2.2.2).length : Int)) g2 g1 a w (S.sb rfl (.c0 (.c0 .n))) h4
end
end GW
